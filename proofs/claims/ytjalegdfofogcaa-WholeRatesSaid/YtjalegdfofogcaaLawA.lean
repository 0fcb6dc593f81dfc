/- The law of the filling: nets that are alike but for a factor have rates that are alike; the levels rise. -/
import Derived.Test.YtjalegdfofogcaaFilP
namespace Go.Proofs.Ytjalegdfofogcaa
set_option linter.unusedVariables false
set_option linter.unusedSimpArgs false
open Go.RowKit
theorem cmpQ_val {a b : Rq} (ha : okQ a = true) (hb : okQ b = true) : (cmpQ a b < 0 ↔ val a < val b) ∧ (cmpQ a b = 0 ↔ val a = val b) := by
  have e : cmpQ a b = sgn ((val a).num * (val b).den) ((val b).num * (val a).den) := by
    unfold cmpQ
    rw [ha, hb, norm_val ha, norm_val hb]
    rfl
  rw [e, Rat.lt_iff, Rat.eq_iff_mul_eq_mul]
  unfold sgn
  constructor
  · split
    · rename_i h; exact ⟨fun _ => h, fun _ => by decide⟩
    · rename_i h
      split
      · exact ⟨fun h2 => absurd h2 (by decide), fun h2 => absurd h2 h⟩
      · exact ⟨fun h2 => absurd h2 (by decide), fun h2 => absurd h2 h⟩
  · split
    · rename_i h; exact ⟨fun h2 => absurd h2 (by decide), fun h2 => by omega⟩
    · rename_i h
      split
      · rename_i h2; exact ⟨fun _ => h2, fun _ => rfl⟩
      · rename_i h2; exact ⟨fun h3 => absurd h3 (by decide), fun h3 => absurd h3 h2⟩
section
variable {n : PNet} {m : Nat} {rs : List Rq} {fz : List Bool}
/-- The level's value. -/
def LV (n : PNet) (fz : List Bool) (rs : List Rq) : Rat := val (leastQ n fz rs)
def Dem (n : PNet) (i : Nat) : Rat := val (flo n i).d
theorem cons1_le {s : Bool × Rq} {r : Rq} (hs : okQ s.2 = true) (hr : okQ r = true) : (s.1 = true → val (cons1 s r).2 ≤ val s.2) ∧ val (cons1 s r).2 ≤ val r ∧ (cons1 s r).1 = true := by
  unfold cons1
  split
  · rename_i h
    simp only [Bool.and_eq_true, Bool.not_eq_true', decide_eq_false_iff_not] at h
    exact ⟨fun _ => Rat.le_refl, Rat.not_lt.1 (fun h2 => h.2 ((cmpQ_val hr hs).1.2 h2)), h.1⟩
  · rename_i h
    refine ⟨fun h1 => ?_, Rat.le_refl, rfl⟩
    simp only [h1, Bool.true_and, Bool.not_eq_true', decide_eq_false_iff_not, Classical.not_not] at h
    exact Rat.le_of_lt ((cmpQ_val hr hs).1.1 h)
theorem lst1_le (hn : NetOk n) (hs : StOk n m rs fz) (hm : m ≤ 4) {k : Nat} (hk : k ≤ n.caps.length) : ∀ l, l < k → usedB n fz l = true → val (lst1 n fz rs k).2 ≤ candQ n fz rs l := by
  induction k with
  | zero => intro l hl; omega
  | succ k ih =>
    intro l hl hu
    have hg := lst1_good hn hs hm (k := k) (by omega)
    rw [lst1]
    by_cases e : l = k
    · subst e
      rw [hu]
      have hc := (cand_sm hn hs hm (by omega) hu).ok
      have := (cons1_le hg.1 hc).2.1
      rwa [val_cq] at this
    · have i1 := ih (by omega) l (by omega) hu
      have hf := (lst1_att (n := n) (fz := fz) (rs := rs) (k := k)).1 ⟨l, by omega, hu⟩
      split
      · rename_i h
        exact Rat.le_trans ((cons1_le hg.1 (cand_sm hn hs hm (by omega) h).ok).1 hf) i1
      · exact i1
theorem lst2_le (hn : NetOk n) (hs : StOk n m rs fz) (hm : m ≤ 4) {k : Nat} (hk : k ≤ n.flows.length) (hf : (lst1 n fz rs n.caps.length).1 = true) : val (lst2 n fz rs k).2 ≤ val (lst1 n fz rs n.caps.length).2 ∧ ∀ i, i < k → isF fz i = false → (flo n i).b = true → val (lst2 n fz rs k).2 ≤ Dem n i := by
  induction k with
  | zero => unfold lst2; exact ⟨Rat.le_refl, fun i hi => by omega⟩
  | succ k ih =>
    obtain ⟨i1, i2⟩ := ih (by omega)
    have hg := lst2_good hn hs hm (k := k) (by omega)
    have hd := dem_good hn (q := m) hm (k := k) (by omega)
    have hf2 := (lst2_att (n := n) (fz := fz) (rs := rs) (k := k)).1 hf
    rw [lst2]
    split
    · obtain ⟨c1, c2, -⟩ := cons1_le hg.1 hd.1
      refine ⟨Rat.le_trans (c1 hf2) i1, fun i hi h1 h2 => ?_⟩
      by_cases e : i = k
      · subst e; exact c2
      · exact Rat.le_trans (c1 hf2) (i2 i (by omega) h1 h2)
    · rename_i h
      refine ⟨i1, fun i hi h1 h2 => ?_⟩
      by_cases e : i = k
      · subst e; exact absurd (by rw [h1, h2]; rfl) h
      · exact i2 i (by omega) h1 h2
theorem lv_cand (hn : NetOk n) (hs : StOk n m rs fz) (hm : m ≤ 4) {l : Nat} (hl : l < n.caps.length) (hu : usedB n fz l = true) : LV n fz rs ≤ candQ n fz rs l :=
  Rat.le_trans (lst2_le hn hs hm (Nat.le_refl _) (lst1_att.1 ⟨l, hl, hu⟩)).1 (lst1_le hn hs hm (Nat.le_refl _) l hl hu)
theorem lv_dem (hn : NetOk n) (hs : StOk n m rs fz) (hm : m ≤ 4) {i : Nat} (hi : i < n.flows.length) (h1 : isF fz i = false) (h2 : (flo n i).b = true) : LV n fz rs ≤ Dem n i := by
  obtain ⟨x, hx⟩ := List.exists_mem_of_ne_nil _ (hn.lk _ (flo_mem hi).2).1
  obtain ⟨l, -, hl, hu⟩ := used_of hn hi h1 hx
  exact (lst2_le hn hs hm (Nat.le_refl _) (lst1_att.1 ⟨l, hl, hu⟩)).2 i hi h1 h2
theorem lv_att (hn : NetOk n) (hs : StOk n m rs fz) (ho : fz.contains false = true) : (∃ l, l < n.caps.length ∧ usedB n fz l = true ∧ candQ n fz rs l = LV n fz rs) ∨ ∃ i, i < n.flows.length ∧ isF fz i = false ∧ (flo n i).b = true ∧ Dem n i = LV n fz rs := by
  have hm := level_few hn hs ho
  rcases lst2_att.2 (found_of (rs := rs) hn hs.lz ho) with ⟨l, hl, hu, he⟩ | ⟨i, hi, h1, h2, he⟩
  · exact .inl ⟨l, hl, hu, by unfold LV leastQ; rw [he, val_cq]⟩
  · exact .inr ⟨i, hi, h1, h2, by unfold LV leastQ Dem; rw [he]⟩
/-- What is at most all and one of all is the level's value. -/
theorem lv_uniq (hn : NetOk n) (hs : StOk n m rs fz) (ho : fz.contains false = true) {v : Rat} (h1 : ∀ l, l < n.caps.length → usedB n fz l = true → v ≤ candQ n fz rs l) (h2 : ∀ i, i < n.flows.length → isF fz i = false → (flo n i).b = true → v ≤ Dem n i)
    (h3 : (∃ l, l < n.caps.length ∧ usedB n fz l = true ∧ candQ n fz rs l = v) ∨ ∃ i, i < n.flows.length ∧ isF fz i = false ∧ (flo n i).b = true ∧ Dem n i = v) : LV n fz rs = v := by
  have hm := level_few hn hs ho
  apply Rat.le_antisymm
  · rcases h3 with ⟨l, hl, hu, rfl⟩ | ⟨i, hi, g1, g2, rfl⟩
    · exact lv_cand hn hs hm hl hu
    · exact lv_dem hn hs hm hi g1 g2
  · rcases lv_att hn hs ho with ⟨l, hl, hu, he⟩ | ⟨i, hi, g1, g2, he⟩
    · rw [← he]; exact h1 l hl hu
    · rw [← he]; exact h2 i hi g1 g2
theorem linkEq_iff (hn : NetOk n) (hs : StOk n m rs fz) (hm : m ≤ 4) {l : Nat} (hl : l < n.caps.length) : linkEq n fz rs (l : Int) = true ↔ usedB n fz l = true ∧ candQ n fz rs l = LV n fz rs := by
  unfold linkEq
  rw [Int.toNat_natCast, Bool.and_eq_true]
  constructor
  · rintro ⟨hu, hc⟩
    have := (cmpQ_val (cand_sm hn hs hm hl hu).ok (least_good hn hs hm).1).2.1 (by simpa using hc)
    rw [val_cq] at this
    exact ⟨hu, this⟩
  · rintro ⟨hu, hc⟩
    refine ⟨hu, ?_⟩
    have := (cmpQ_val (cand_sm hn hs hm hl hu).ok (least_good hn hs hm).1).2.2 (by rw [val_cq]; exact hc)
    rw [this]; rfl
theorem here_iff (hn : NetOk n) (hs : StOk n m rs fz) (hm : m ≤ 4) {i : Nat} (hi : i < n.flows.length) : hereB n fz rs (flo n i) = true ↔ ((flo n i).b = true ∧ Dem n i = LV n fz rs) ∨ ∃ l, l < n.caps.length ∧ usesL n.flows i l = true ∧ usedB n fz l = true ∧ candQ n fz rs l = LV n fz rs := by
  obtain ⟨hp, hmem⟩ := flo_mem hi
  have hd := hn.dem _ hmem
  unfold hereB
  rw [Bool.or_eq_true, Bool.and_eq_true, List.any_eq_true]
  have e1 : (cmpQ (flo n i).d (leastQ n fz rs) == 0) = true ↔ Dem n i = LV n fz rs := by
    rw [beq_iff_eq]
    exact (cmpQ_val hd.1 (least_good hn hs hm).1).2
  rw [e1]
  constructor
  · rintro (h | ⟨x, hx, he⟩)
    · exact .inl h
    · have hr := (hn.lk _ hmem).2 x hx
      obtain ⟨l, rfl⟩ : ∃ l : Nat, x = l := ⟨x.toNat, by omega⟩
      have hl : l < n.caps.length := by omega
      obtain ⟨h1, h2⟩ := (linkEq_iff hn hs hm hl).1 he
      exact .inr ⟨l, hl, by rw [uses_of hp, List.contains_iff_mem]; exact hx, h1, h2⟩
  · rintro (h | ⟨l, hl, hu, h1, h2⟩)
    · exact .inl h
    · rw [uses_of hp, List.contains_iff_mem] at hu
      exact .inr ⟨_, hu, (linkEq_iff hn hs hm hl).2 ⟨h1, h2⟩⟩
theorem frzL_iff {i : Nat} : (i : Int) ∈ frzL n fz rs n.flows.length ↔ i < n.flows.length ∧ isF fz i = false ∧ hereB n fz rs (flo n i) = true := by
  rw [frzL_mem]
  constructor
  · rintro ⟨j, h1, h2⟩
    obtain rfl : i = j := by omega
    exact h2
  · intro h; exact ⟨i, rfl, h⟩
theorem isF_step {i : Nat} (hz : fz.length = n.flows.length) (hi : i < n.flows.length) : isF (stepS n (rs, fz)).2 i = (isF fz i || (!isF fz i && hereB n fz rs (flo n i))) := by
  unfold stepS
  dsimp only
  rw [isF_putF (by omega)]
  cases h : isF fz i with
  | true => rfl
  | false =>
    rw [Bool.false_or, Bool.false_or, Bool.not_false, Bool.true_and]
    cases hh : hereB n fz rs (flo n i) with
    | true => exact any_mem.2 ⟨(i : Int), frzL_iff.2 ⟨hi, h, hh⟩, by simp⟩
    | false =>
      rw [← Bool.not_eq_true]
      intro h2
      obtain ⟨x, hx, hxi⟩ := any_mem.1 h2
      obtain ⟨j, rfl, h3, h4, h5⟩ := frzL_mem.1 hx
      rw [Int.toNat_natCast] at hxi
      subst hxi
      rw [hh] at h5
      cases h5
/-- The rate of flow i. -/
def rt (rs : List Rq) (i : Nat) : Rat := val (rs.getD i ⟨0, 0⟩)
theorem rt_step {i : Nat} (hn : NetOk n) (hs : StOk n m rs fz) (hm : m ≤ 4) (hi : i < n.flows.length) : rt (stepS n (rs, fz)).1 i = if (!isF fz i && hereB n fz rs (flo n i)) = true then LV n fz rs else rt rs i := by
  have hR := rate_val (least_good hn hs hm).1
  unfold rt stepS
  dsimp only
  rw [List.getD_eq_getElem?_getD, putR_get _ _ _ _ (by rw [hs.lr]; exact hi), Option.getD_some]
  have e : ((frzL n fz rs n.flows.length).any fun x => x.toNat == i) = true ↔ (!isF fz i && hereB n fz rs (flo n i)) = true := by
    rw [any_mem, Bool.and_eq_true, Bool.not_eq_true']
    constructor
    · rintro ⟨x, hx, hxi⟩
      obtain ⟨j, rfl, h3, h4, h5⟩ := frzL_mem.1 hx
      rw [Int.toNat_natCast] at hxi
      subst hxi
      exact ⟨h4, h5⟩
    · rintro ⟨h1, h2⟩; exact ⟨(i : Int), frzL_iff.2 ⟨hi, h1, h2⟩, by simp⟩
  by_cases h : ((frzL n fz rs n.flows.length).any fun x => x.toNat == i) = true
  · rw [if_pos h, if_pos (e.1 h), hR.1]; rfl
  · rw [if_neg h, if_neg (fun h2 => h (e.2 h2))]
end
/-- Two nets alike but for a factor; a link of the second stands for one of the first. -/
structure Sim (n n' : PNet) (k : Rat) (f : Nat → Nat) : Prop where
  k0 : 0 < k
  nf : n'.flows.length = n.flows.length
  bd : ∀ i, i < n.flows.length → (flo n' i).b = (flo n i).b ∧ Dem n' i = Dem n i * k
  lk : ∀ l, l < n'.caps.length → f l < n.caps.length ∧ val (n'.caps.getD l ⟨0, 0⟩) = val (n.caps.getD (f l) ⟨0, 0⟩) * k ∧ ∀ i, i < n.flows.length → usesL n'.flows i l = usesL n.flows i (f l)
  onto : ∀ l, l < n.caps.length → ∃ l', l' < n'.caps.length ∧ f l' = l
section
variable {n n' : PNet} {k : Rat} {f : Nat → Nat}
theorem sim_ocnt (h : Sim n n' k f) (fz : List Bool) {l : Nat} (hl : l < n'.caps.length) {q : Nat} (hq : q ≤ n.flows.length) : ocnt n'.flows fz l q = ocnt n.flows fz (f l) q := by
  induction q with
  | zero => rfl
  | succ q ih => rw [ocnt, ocnt, ih (by omega), (h.lk l hl).2.2 q (by omega)]
theorem sim_osum (h : Sim n n' k f) {fz : List Bool} {rs rs' : List Rq} (hr : ∀ i, i < n.flows.length → isF fz i = true → rt rs' i = rt rs i * k) {l : Nat} (hl : l < n'.caps.length) {q : Nat} (hq : q ≤ n.flows.length) : osum n'.flows fz rs' l q = osum n.flows fz rs (f l) q * k := by
  induction q with
  | zero => rw [osum, osum, Rat.zero_mul]
  | succ q ih =>
    rw [osum, osum, ih (by omega), (h.lk l hl).2.2 q (by omega), Rat.add_mul]
    congr 1
    split
    · rename_i hc
      simp only [Bool.and_eq_true] at hc
      exact hr q (by omega) hc.1
    · rw [Rat.zero_mul]
theorem sim_cand (h : Sim n n' k f) {fz : List Bool} {rs rs' : List Rq} (hr : ∀ i, i < n.flows.length → isF fz i = true → rt rs' i = rt rs i * k) {l : Nat} (hl : l < n'.caps.length) : candQ n' fz rs' l = candQ n fz rs (f l) * k ∧ usedB n' fz l = usedB n fz (f l) := by
  unfold candQ usedB
  rw [h.nf, sim_ocnt h fz hl (Nat.le_refl _), sim_osum h hr hl (Nat.le_refl _), (h.lk l hl).2.1]
  refine ⟨?_, rfl⟩
  rw [Rat.div_def, Rat.div_def, Rat.sub_eq_add_neg, Rat.sub_eq_add_neg, ← Rat.neg_mul, ← Rat.add_mul, Rat.mul_assoc, Rat.mul_assoc, Rat.mul_comm k]
theorem sim_lv (h : Sim n n' k f) (hn : NetOk n) (hn' : NetOk n') {m : Nat} {fz : List Bool} {rs rs' : List Rq} (hs : StOk n m rs fz) (hs' : StOk n' m rs' fz) (ho : fz.contains false = true) (hr : ∀ i, i < n.flows.length → isF fz i = true → rt rs' i = rt rs i * k) : LV n' fz rs' = LV n fz rs * k := by
  have hm := level_few hn hs ho
  refine lv_uniq hn' hs' ho (fun l hl hu => ?_) (fun i hi h1 h2 => ?_) ?_
  · obtain ⟨e1, e2⟩ := sim_cand h hr hl
    rw [e1]
    exact Rat.mul_le_mul_of_nonneg_right (lv_cand hn hs hm (h.lk l hl).1 (by rw [← e2]; exact hu)) (Rat.le_of_lt h.k0)
  · rw [h.nf] at hi
    rw [(h.bd i hi).2]
    exact Rat.mul_le_mul_of_nonneg_right (lv_dem hn hs hm hi h1 (by rw [← (h.bd i hi).1]; exact h2)) (Rat.le_of_lt h.k0)
  · rcases lv_att hn hs ho with ⟨l, hl, hu, he⟩ | ⟨i, hi, h1, h2, he⟩
    · obtain ⟨l', hl', rfl⟩ := h.onto l hl
      obtain ⟨e1, e2⟩ := sim_cand h hr hl'
      exact .inl ⟨l', hl', by rw [e2]; exact hu, by rw [e1, he]⟩
    · exact .inr ⟨i, by rw [h.nf]; exact hi, h1, by rw [(h.bd i hi).1]; exact h2, by rw [(h.bd i hi).2, he]⟩
theorem mul_inj {a b k : Rat} (hk : 0 < k) (h : a * k = b * k) : a = b :=
  Rat.le_antisymm (Rat.le_of_mul_le_mul_right (by rw [h]; exact Rat.le_refl) hk) (Rat.le_of_mul_le_mul_right (by rw [h]; exact Rat.le_refl) hk)
theorem sim_here (h : Sim n n' k f) (hn : NetOk n) (hn' : NetOk n') {m : Nat} {fz : List Bool} {rs rs' : List Rq} (hs : StOk n m rs fz) (hs' : StOk n' m rs' fz) (ho : fz.contains false = true) (hr : ∀ i, i < n.flows.length → isF fz i = true → rt rs' i = rt rs i * k) {i : Nat} (hi : i < n.flows.length) : hereB n' fz rs' (flo n' i) = hereB n fz rs (flo n i) := by
  have hm := level_few hn hs ho
  have e : hereB n' fz rs' (flo n' i) = true ↔ hereB n fz rs (flo n i) = true := by
    rw [here_iff hn' hs' hm (by rw [h.nf]; exact hi), here_iff hn hs hm hi, sim_lv h hn hn' hs hs' ho hr, (h.bd i hi).1, (h.bd i hi).2]
    constructor
    · rintro (⟨h1, h2⟩ | ⟨l, hl, h1, h2, h3⟩)
      · exact .inl ⟨h1, mul_inj h.k0 h2⟩
      · obtain ⟨e1, e2⟩ := sim_cand h hr hl
        exact .inr ⟨f l, (h.lk l hl).1, by rw [← (h.lk l hl).2.2 i hi]; exact h1, by rw [← e2]; exact h2, mul_inj h.k0 (by rw [← e1]; exact h3)⟩
    · rintro (⟨h1, h2⟩ | ⟨l, hl, h1, h2, h3⟩)
      · exact .inl ⟨h1, by rw [h2]⟩
      · obtain ⟨l', hl', rfl⟩ := h.onto l hl
        obtain ⟨e1, e2⟩ := sim_cand h hr hl'
        exact .inr ⟨l', hl', by rw [(h.lk l' hl').2.2 i hi]; exact h1, by rw [e2]; exact h2, by rw [e1, h3]⟩
  cases h1 : hereB n fz rs (flo n i) with
  | true => exact e.2 h1
  | false =>
    rw [← Bool.not_eq_true]
    intro h2
    rw [e.1 h2] at h1
    cases h1
theorem isF_ext {a b : List Bool} {q : Nat} (ha : a.length = q) (hb : b.length = q) (h : ∀ i, i < q → isF a i = isF b i) : a = b := by
  apply List.ext_getElem (by omega)
  intro i h1 h2
  have := h i (by omega)
  unfold isF at this
  rw [List.getD_eq_getElem?_getD, List.getD_eq_getElem?_getD, List.getElem?_eq_getElem h1, List.getElem?_eq_getElem h2] at this
  simpa using this
/-- The fillings go side by side. -/
theorem sim_itr (h : Sim n n' k f) (hn : NetOk n) (hn' : NetOk n') : ∀ m, (∀ j, j < m → (itr n j).2.contains false = true) → (itr n' m).2 = (itr n m).2 ∧ (∀ i, i < n.flows.length → isF (itr n m).2 i = true → rt (itr n' m).1 i = rt (itr n m).1 i * k) ∧ StOk n m (itr n m).1 (itr n m).2 ∧ StOk n' m (itr n' m).1 (itr n m).2
  | 0, _ => by
    refine ⟨by rw [itr, itr, h.nf], fun i hi h1 => ?_, StOk.start n, ?_⟩
    · exfalso
      rw [itr] at h1
      unfold isF at h1
      rw [List.getD_eq_getElem?_getD, List.getElem?_replicate, if_pos hi] at h1
      cases h1
    · have := StOk.start n'
      rw [itr, itr, h.nf]
      rwa [h.nf] at this
  | m + 1, hj => by
    obtain ⟨e, hr, hs, hs'⟩ := sim_itr h hn hn' m fun j hjm => hj j (by omega)
    have ho := hj m (by omega)
    have hm := level_few hn hs ho
    have hs1 := hs.next hn ho
    have hs1' := hs'.next hn' ho
    have e2 : (stepS n' ((itr n' m).1, (itr n m).2)).2 = (stepS n ((itr n m).1, (itr n m).2)).2 := by
      refine isF_ext (q := n.flows.length) (by have := hs1'.lz; rw [h.nf] at this; exact this) hs1.lz fun i hi => ?_
      rw [isF_step (by rw [h.nf]; exact hs.lz) (by rw [h.nf]; exact hi), isF_step hs.lz hi, sim_here h hn hn' hs hs' ho hr hi]
    have e3 : itr n' (m + 1) = stepS n' ((itr n' m).1, (itr n m).2) := by rw [itr, ← e]
    have e4 : itr n (m + 1) = stepS n ((itr n m).1, (itr n m).2) := by rw [itr]
    rw [e3, e4]
    refine ⟨e2, fun i hi h1 => ?_, hs1, by rw [← e2]; exact hs1'⟩
    rw [rt_step hn' hs' hm (by rw [h.nf]; exact hi), rt_step hn hs hm hi, sim_here h hn hn' hs hs' ho hr hi]
    split
    · exact sim_lv h hn hn' hs hs' ho hr
    · rename_i hc
      rw [isF_step hs.lz hi] at h1
      cases hf : isF (itr n m).2 i with
      | true => exact hr i hi hf
      | false =>
        rw [hf, Bool.false_or] at h1
        rw [hf] at hc
        exact absurd h1 hc
end
end Go.Proofs.Ytjalegdfofogcaa
