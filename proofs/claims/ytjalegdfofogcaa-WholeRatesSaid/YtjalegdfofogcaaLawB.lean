/- The levels rise; without a flow the first level is no lower. -/
import Derived.Test.YtjalegdfofogcaaLawA
import Derived.Test.YtjalegdfofogcaaFilH
namespace Go.Proofs.Ytjalegdfofogcaa
set_option linter.unusedVariables false
set_option linter.unusedSimpArgs false
open Go.RowKit
theorem fin_uniq {n : PNet} {m m' : Nat} (h : Fin n m) (h' : Fin n m') : m = m' := by
  rcases Nat.lt_trichotomy m m' with hlt | he | hlt
  · have := h'.1 m hlt; rw [h.2] at this; cases this
  · exact he
  · have := h.1 m' hlt; rw [h'.2] at this; cases this
theorem all_frozen {fz : List Bool} {k i : Nat} (hl : fz.length = k) (h : fz.contains false = false) (hi : i < k) : isF fz i = true := by
  have hlt : i < fz.length := by omega
  have : isF fz i = fz[i] := by unfold isF; rw [List.getD_eq_getElem?_getD, List.getElem?_eq_getElem hlt]; rfl
  rw [this]
  cases hb : fz[i] with
  | true => rfl
  | false =>
    have hm : false ∈ fz := by rw [← hb]; exact List.getElem_mem hlt
    rw [← List.contains_iff_mem, h] at hm
    cases hm
theorem sim_fin {n n' : PNet} {k : Rat} {f : Nat → Nat} (h : Sim n n' k f) (hn : NetOk n) (hn' : NetOk n') {m m' : Nat} (hm : Fin n m) (hm' : Fin n' m') : ∀ i, i < n.flows.length → rt (itr n' m').1 i = rt (itr n m).1 i * k := by
  have hs := sim_itr h hn hn' m hm.1
  have h2 : Fin n' m := ⟨fun j hj => by rw [(sim_itr h hn hn' j fun q hq => hm.1 q (by omega)).1]; exact hm.1 j hj, by rw [hs.1]; exact hm.2⟩
  rw [fin_uniq hm' h2]
  intro i hi
  exact hs.2.1 i hi (all_frozen hs.2.2.1.lz hm.2 hi)
theorem le_div {a b v : Rat} (hb : 0 < b) : v ≤ a / b ↔ v * b ≤ a := by
  rw [← Rat.not_lt, ← Rat.not_lt, Rat.div_lt_iff hb]
section
variable {n : PNet}
theorem sum_step {m : Nat} {rs : List Rq} {fz : List Bool} (hn : NetOk n) (hs : StOk n m rs fz) (hm : m ≤ 4) (l : Nat) {q : Nat} (hq : q ≤ n.flows.length) :
    osum n.flows (stepS n (rs, fz)).2 (stepS n (rs, fz)).1 l q + LV n fz rs * ((ocnt n.flows (stepS n (rs, fz)).2 l q : Nat) : Rat) = osum n.flows fz rs l q + LV n fz rs * ((ocnt n.flows fz l q : Nat) : Rat) := by
  induction q with
  | zero => rfl
  | succ q ih =>
    have hi : q < n.flows.length := by omega
    have i1 := ih (by omega)
    have e1 := isF_step (n := n) (rs := rs) hs.lz hi
    have e2 := rt_step hn hs hm hi
    unfold rt at e2
    rw [osum, osum, ocnt, ocnt, e1, e2]
    cases hu : usesL n.flows q l with
    | false => simp only [Bool.and_false, Bool.false_eq_true, if_false, Nat.add_zero]; grind
    | true =>
      cases hf : isF fz q with
      | true =>
        simp only [Bool.true_or, Bool.and_true, if_true, Bool.not_true, Bool.false_and, Bool.false_eq_true, if_false, Nat.add_zero]
        grind
      | false =>
        cases hh : hereB n fz rs (flo n q) with
        | true =>
          simp only [Bool.false_or, Bool.not_false, Bool.and_true, if_true, Bool.not_true, Bool.true_and, Bool.false_and, Bool.false_eq_true, if_false, Nat.add_zero, Rat.natCast_add]
          grind
        | false =>
          simp only [Bool.false_or, Bool.not_false, Bool.and_true, Bool.and_false, if_true, Bool.not_true, Bool.true_and, Bool.false_and, Bool.false_eq_true, if_false, Nat.add_zero, Rat.natCast_add]
          grind
theorem ocnt_mono {flows : List PFlow} {fz fz' : List Bool} {l q : Nat} (h : ∀ i, i < q → isF fz i = true → isF fz' i = true) : ocnt flows fz' l q ≤ ocnt flows fz l q := by
  induction q with
  | zero => exact Nat.le_refl _
  | succ q ih =>
    have := ih fun i hi => h i (by omega)
    rw [ocnt, ocnt]
    cases h1 : isF fz q with
    | true => rw [h q (by omega) h1]; simp only [Bool.not_true, Bool.false_and, Bool.false_eq_true, if_false]; omega
    | false =>
      cases usesL flows q l <;> cases isF fz' q <;> simp <;> omega
/-- The next level is no lower. -/
theorem lv_rise {m : Nat} {rs : List Rq} {fz : List Bool} (hn : NetOk n) (hs : StOk n m rs fz) (ho : fz.contains false = true) (ho' : (stepS n (rs, fz)).2.contains false = true) : LV n fz rs ≤ LV n (stepS n (rs, fz)).2 (stepS n (rs, fz)).1 := by
  have hm := level_few hn hs ho
  have hs' := hs.next hn ho
  have mono : ∀ i, i < n.flows.length → isF fz i = true → isF (stepS n (rs, fz)).2 i = true := fun i hi h => by rw [isF_step hs.lz hi, h]; rfl
  rcases lv_att hn hs' ho' with ⟨l, hl, hu, he⟩ | ⟨i, hi, h1, h2, he⟩
  · rw [← he]
    have hp' : 0 < ocnt n.flows (stepS n (rs, fz)).2 l n.flows.length := of_decide_eq_true hu
    have hle := ocnt_mono (flows := n.flows) (l := l) mono
    have hu0 : usedB n fz l = true := decide_eq_true (by omega)
    have hc := lv_cand hn hs hm hl hu0
    have hse := sum_step hn hs hm l (Nat.le_refl n.flows.length)
    have hp0 : (0 : Rat) < ((ocnt n.flows fz l n.flows.length : Nat) : Rat) := Rat.natCast_pos.2 (by omega)
    have hp1 : (0 : Rat) < ((ocnt n.flows (stepS n (rs, fz)).2 l n.flows.length : Nat) : Rat) := Rat.natCast_pos.2 hp'
    unfold candQ at hc ⊢
    rw [le_div hp0] at hc
    rw [le_div hp1]
    grind
  · rw [← he]
    refine lv_dem hn hs hm hi ?_ h2
    cases hf : isF fz i with
    | false => rfl
    | true => rw [mono i hi hf] at h1; cases h1
def lvm (n : PNet) (m : Nat) : Rat := LV n (itr n m).2 (itr n m).1
theorem lvm_ge (hn : NetOk n) : ∀ m, (∀ j, j ≤ m → (itr n j).2.contains false = true) → lvm n 0 ≤ lvm n m
  | 0, _ => Rat.le_refl
  | m + 1, h => by
    have hs := itr_ok hn m fun j hj => h j (by omega)
    have := lv_rise hn hs (h m (by omega)) (by have := h (m + 1) (Nat.le_refl _); rwa [itr] at this)
    refine Rat.le_trans (lvm_ge hn m fun j hj => h j (by omega)) ?_
    unfold lvm
    rw [itr]
    exact this
theorem rates_ge (hn : NetOk n) : ∀ m, (∀ j, j < m → (itr n j).2.contains false = true) → ∀ i, i < n.flows.length → isF (itr n m).2 i = true → lvm n 0 ≤ rt (itr n m).1 i
  | 0, _, i, hi, h1 => by
    exfalso
    rw [itr] at h1
    unfold isF at h1
    rw [List.getD_eq_getElem?_getD, List.getElem?_replicate, if_pos hi] at h1
    cases h1
  | m + 1, hj, i, hi, h1 => by
    have hs := itr_ok hn m fun j hjm => hj j (by omega)
    have ho := hj m (by omega)
    have hm := level_few hn hs ho
    rw [itr] at h1 ⊢
    rw [isF_step hs.lz hi] at h1
    rw [rt_step hn hs hm hi]
    split
    · exact lvm_ge hn m fun j hjm => hj j (by omega)
    · rename_i hc
      cases hf : isF (itr n m).2 i with
      | true => exact rates_ge hn m (fun j hjm => hj j (by omega)) i hi hf
      | false =>
        rw [hf, Bool.false_or] at h1
        rw [hf] at hc
        exact absurd h1 hc
/-- A flow has the first level's rate from then on. -/
theorem rate_eq (hn : NetOk n) : ∀ m, (∀ j, j < m + 1 → (itr n j).2.contains false = true) → ∃ i, i < n.flows.length ∧ isF (itr n (m + 1)).2 i = true ∧ rt (itr n (m + 1)).1 i = lvm n 0
  | 0, hj => by
    have hs := itr_ok hn 0 fun j h => by omega
    have ho := hj 0 (by omega)
    obtain ⟨i, hi, h1, h2⟩ := progress (rs := (itr n 0).1) hn hs.lz ho
    refine ⟨i, hi, ?_, ?_⟩
    · rw [itr, isF_step hs.lz hi, h1, h2]; rfl
    · rw [itr, rt_step hn hs (by omega) hi, h1, h2]; rfl
  | m + 1, hj => by
    obtain ⟨i, hi, h1, h2⟩ := rate_eq hn m fun j h => hj j (by omega)
    have hs := itr_ok hn (m + 1) fun j h => hj j (by omega)
    have hm := level_few hn hs (hj (m + 1) (by omega))
    refine ⟨i, hi, ?_, ?_⟩
    · rw [itr, isF_step hs.lz hi, h1]; rfl
    · rw [itr, rt_step hn hs hm hi, h1]; exact h2
theorem fin_pos {m : Nat} (h : Fin n m) (h0 : 0 < n.flows.length) : ∃ q, m = q + 1 := by
  cases m with
  | succ q => exact ⟨q, rfl⟩
  | zero =>
    have := h.2
    rw [itr] at this
    have hm : false ∈ List.replicate n.flows.length false := List.mem_replicate.2 ⟨by omega, rfl⟩
    rw [← List.contains_iff_mem, this] at hm
    cases hm
end
/-- The net without flow q. -/
structure Less (n n' : PNet) (q : Nat) : Prop where
  hq : q < n.flows.length
  caps : n'.caps = n.caps
  len : n'.flows.length + 1 = n.flows.length
  flow : ∀ i, i < n'.flows.length → n'.flows[i]? = n.flows[if i < q then i else i + 1]?
theorem zero_isF (n : PNet) (i : Nat) : isF (itr n 0).2 i = false := by
  rw [itr]
  unfold isF
  rw [List.getD_eq_getElem?_getD, List.getElem?_replicate]
  split <;> rfl
theorem osum_zero (n : PNet) (l q : Nat) : osum n.flows (itr n 0).2 (itr n 0).1 l q = 0 := by
  induction q with
  | zero => rfl
  | succ q ih =>
    rw [osum, ih, zero_isF, Bool.false_and]
    show 0 + (if false = true then _ else 0) = 0
    rw [if_neg (by decide)]
    exact Rat.add_zero 0
theorem less_ocnt {n n' : PNet} {q : Nat} (h : Less n n' q) (l : Nat) : ∀ i, i ≤ n'.flows.length → ocnt n'.flows (itr n' 0).2 l i ≤ ocnt n.flows (itr n 0).2 l (if i ≤ q then i else i + 1)
  | 0, _ => by simp [ocnt]
  | i + 1, hi => by
    have ih := less_ocnt h l i (by omega)
    have hf := h.flow i (by omega)
    have hu : usesL n'.flows i l = usesL n.flows (if i < q then i else i + 1) l := by unfold usesL; rw [hf]
    rw [ocnt, zero_isF, hu]
    by_cases h1 : i + 1 ≤ q
    · rw [if_pos (show i ≤ q by omega)] at ih
      rw [if_pos (show i < q by omega), if_pos h1, ocnt, zero_isF]
      omega
    · rw [if_neg h1, if_neg (by omega : ¬ i < q)]
      show _ ≤ ocnt n.flows (itr n 0).2 l ((i + 1) + 1)
      rw [ocnt, zero_isF]
      by_cases h2 : i ≤ q
      · rw [if_pos h2] at ih
        have : ocnt n.flows (itr n 0).2 l i ≤ ocnt n.flows (itr n 0).2 l (i + 1) := by rw [ocnt]; omega
        omega
      · rw [if_neg h2] at ih
        omega
theorem ocnt_up {flows : List PFlow} {fz : List Bool} {l a b : Nat} (h : a ≤ b) : ocnt flows fz l a ≤ ocnt flows fz l b := by
  induction h with
  | refl => exact Nat.le_refl _
  | step _ ih => rw [ocnt]; omega
theorem less_lv {n n' : PNet} {q : Nat} (h : Less n n' q) (hn : NetOk n) (hn' : NetOk n') (h0 : 0 < n'.flows.length) : lvm n 0 ≤ lvm n' 0 := by
  have hs : StOk n 0 (itr n 0).1 (itr n 0).2 := StOk.start n
  have hs' : StOk n' 0 (itr n' 0).1 (itr n' 0).2 := StOk.start n'
  have ho' : (itr n' 0).2.contains false = true := by rw [itr, List.contains_iff_mem]; exact List.mem_replicate.2 ⟨by omega, rfl⟩
  have e0 : itr n 0 = (List.replicate n.flows.length ⟨0, 0⟩, List.replicate n.flows.length false) := rfl
  have e0' : itr n' 0 = (List.replicate n'.flows.length ⟨0, 0⟩, List.replicate n'.flows.length false) := rfl
  unfold lvm
  rcases lv_att (rs := (itr n' 0).1) hn' hs' ho' with ⟨l, hl, hu, he⟩ | ⟨i, hi, h1, h2, he⟩
  · rw [← he]
    have hp' : 0 < ocnt n'.flows (itr n' 0).2 l n'.flows.length := of_decide_eq_true hu
    have hle := less_ocnt h l n'.flows.length (Nat.le_refl _)
    have hle2 : ocnt n.flows (itr n 0).2 l (if n'.flows.length ≤ q then n'.flows.length else n'.flows.length + 1) ≤ ocnt n.flows (itr n 0).2 l n.flows.length := ocnt_up (by have := h.len; split <;> omega)
    have hl0 : l < n.caps.length := by rw [← h.caps]; exact hl
    have hc := lv_cand hn hs (by omega) hl0 (decide_eq_true (show 0 < ocnt n.flows (itr n 0).2 l n.flows.length by omega))
    refine Rat.le_trans hc ?_
    have hp0 : (0 : Rat) < ((ocnt n.flows (itr n 0).2 l n.flows.length : Nat) : Rat) := Rat.natCast_pos.2 (by omega)
    have hp1 : (0 : Rat) < ((ocnt n'.flows (itr n' 0).2 l n'.flows.length : Nat) : Rat) := Rat.natCast_pos.2 hp'
    show candQ n (itr n 0).2 (itr n 0).1 l ≤ candQ n' (itr n' 0).2 (itr n' 0).1 l
    have hcv : candQ n (itr n 0).2 (itr n 0).1 l * ((ocnt n.flows (itr n 0).2 l n.flows.length : Nat) : Rat) = val (n.caps.getD l ⟨0, 0⟩) := by
      unfold candQ
      rw [Rat.div_mul_cancel (by intro hz; rw [hz] at hp0; exact Rat.lt_irrefl hp0), osum_zero]
      grind
    have hnn : 0 ≤ val (n.caps.getD l ⟨0, 0⟩) := by
      obtain ⟨c, hc9⟩ := get_some hl0
      rw [List.getD_eq_getElem?_getD, hc9]
      exact (hn.cap c (List.mem_of_getElem? hc9)).2.2
    have hx : 0 ≤ candQ n (itr n 0).2 (itr n 0).1 l := by
      refine Rat.le_of_mul_le_mul_right ?_ hp0
      rw [hcv, Rat.zero_mul]
      exact hnn
    rw [show candQ n' (itr n' 0).2 (itr n' 0).1 l = (val (n'.caps.getD l ⟨0, 0⟩) - osum n'.flows (itr n' 0).2 (itr n' 0).1 l n'.flows.length) / ((ocnt n'.flows (itr n' 0).2 l n'.flows.length : Nat) : Rat) from rfl, le_div hp1, osum_zero, h.caps, ← hcv]
    have hcast : ((ocnt n'.flows (itr n' 0).2 l n'.flows.length : Nat) : Rat) ≤ ((ocnt n.flows (itr n 0).2 l n.flows.length : Nat) : Rat) := Rat.natCast_le_natCast.2 (by omega)
    have := Rat.mul_le_mul_of_nonneg_left hcast hx
    grind
  · rw [← he]
    have hf := h.flow i hi
    have hj : (if i < q then i else i + 1) < n.flows.length := by have := h.len; have := h.hq; split <;> omega
    have e : flo n' i = flo n (if i < q then i else i + 1) := by unfold flo; rw [List.getD_eq_getElem?_getD, List.getD_eq_getElem?_getD, hf]
    unfold Dem
    rw [e]
    exact lv_dem hn hs (by omega) hj (zero_isF n _) (by rw [← e]; exact h2)
end Go.Proofs.Ytjalegdfofogcaa
