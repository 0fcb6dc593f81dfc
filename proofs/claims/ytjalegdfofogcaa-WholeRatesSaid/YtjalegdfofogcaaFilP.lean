/- The filling stays within small numbers, and each level freezes a flow. -/
import Derived.Test.YtjalegdfofogcaaFilF
namespace Go.Proofs.Ytjalegdfofogcaa
set_option linter.unusedVariables false
set_option linter.unusedSimpArgs false
open Go.RowKit
def DD : Nat → Nat
  | 0 => 12
  | 1 => 720
  | 2 => 8640
  | 3 => 51840
  | _ + 4 => 103680
def MM : Nat → Nat
  | 0 => 0
  | m + 1 => 108 + 5 * MM m
theorem dd_dvd {m : Nat} (hm : m ≤ 4) {q : Nat} (h1 : 1 ≤ q) (h2 : q + m ≤ 5) : DD m * q ∣ DD (m + 1) := by
  have hm' : m = 0 ∨ m = 1 ∨ m = 2 ∨ m = 3 ∨ m = 4 := by omega
  rcases hm' with rfl | rfl | rfl | rfl | rfl
  · have : q = 1 ∨ q = 2 ∨ q = 3 ∨ q = 4 ∨ q = 5 := by omega
    rcases this with rfl | rfl | rfl | rfl | rfl <;> decide
  · have : q = 1 ∨ q = 2 ∨ q = 3 ∨ q = 4 := by omega
    rcases this with rfl | rfl | rfl | rfl <;> decide
  · have : q = 1 ∨ q = 2 ∨ q = 3 := by omega
    rcases this with rfl | rfl | rfl <;> decide
  · have : q = 1 ∨ q = 2 := by omega
    rcases this with rfl | rfl <;> decide
  · have : q = 1 := by omega
    subst this; decide
theorem dd_12 {m : Nat} (hm : m ≤ 5) : 12 ∣ DD m ∧ 1 ≤ DD m ∧ DD m ≤ 103680 := by
  have hm' : m = 0 ∨ m = 1 ∨ m = 2 ∨ m = 3 ∨ m = 4 ∨ m = 5 := by omega
  rcases hm' with rfl | rfl | rfl | rfl | rfl | rfl <;> decide
theorem mm_le {m : Nat} (hm : m ≤ 5) : MM m ≤ 84348 := by
  have hm' : m = 0 ∨ m = 1 ∨ m = 2 ∨ m = 3 ∨ m = 4 ∨ m = 5 := by omega
  rcases hm' with rfl | rfl | rfl | rfl | rfl | rfl <;> decide
theorem mm_small {m : Nat} (hm : m ≤ 4) : (108 + 6 * MM m) * DD m ≤ 549755813888 ∧ (108 + 5 * MM m) * DD (m + 1) ≤ 549755813888 := by
  have hm' : m = 0 ∨ m = 1 ∨ m = 2 ∨ m = 3 ∨ m = 4 := by omega
  rcases hm' with rfl | rfl | rfl | rfl | rfl <;> decide
/-- How many of the first k flows are frozen. -/
def tr (fz : List Bool) : Nat → Nat
  | 0 => 0
  | k + 1 => tr fz k + (if isF fz k then 1 else 0)
theorem tr_le (fz : List Bool) (k : Nat) : tr fz k ≤ k := by
  induction k with
  | zero => exact Nat.le_refl _
  | succ k ih => unfold tr; split <;> omega
theorem tr_mono {fz fz' : List Bool} {k : Nat} (h : ∀ i, i < k → isF fz i = true → isF fz' i = true) : tr fz k ≤ tr fz' k := by
  induction k with
  | zero => exact Nat.le_refl _
  | succ k ih =>
    have i1 := ih fun i hi => h i (by omega)
    unfold tr
    cases h1 : isF fz k with
    | false => simp only [Bool.false_eq_true, if_false]; split <;> omega
    | true => rw [h k (by omega) h1]; simp only [if_true]; omega
theorem tr_more {fz fz' : List Bool} {k : Nat} (h : ∀ i, i < k → isF fz i = true → isF fz' i = true) {j : Nat} (hj : j < k) (h1 : isF fz j = false) (h2 : isF fz' j = true) : tr fz k + 1 ≤ tr fz' k := by
  induction k with
  | zero => omega
  | succ k ih =>
    unfold tr
    by_cases e : j = k
    · subst e
      rw [h1, h2]
      have := tr_mono (fz := fz) (fz' := fz') (k := j) fun i hi => h i (by omega)
      simp only [Bool.false_eq_true, if_false, if_true]
      omega
    · have i1 := ih (fun i hi => h i (by omega)) (by omega)
      cases h3 : isF fz k with
      | false => simp only [Bool.false_eq_true, if_false]; omega
      | true => rw [h k (by omega) h3]; omega
theorem tr_open {fz : List Bool} {k i : Nat} (hi : i < k) (h : isF fz i = false) : tr fz k + 1 ≤ k := by
  induction k with
  | zero => omega
  | succ k ih =>
    unfold tr
    by_cases e : i = k
    · subst e; rw [h]; have := tr_le fz i; simp only [Bool.false_eq_true, if_false]; omega
    · have := ih (by omega); split <;> omega
theorem ocnt_tr (flows : List PFlow) (fz : List Bool) (l k : Nat) : ocnt flows fz l k + tr fz k ≤ k := by
  induction k with
  | zero => exact Nat.le_refl _
  | succ k ih =>
    unfold ocnt tr
    cases h : isF fz k with
    | false => simp only [Bool.not_false, Bool.true_and, Bool.false_eq_true, if_false]; split <;> omega
    | true => simp only [Bool.not_true, Bool.false_and, Bool.false_eq_true, if_false, if_true]; omega
theorem ocnt_pos {flows : List PFlow} {fz : List Bool} {l k i : Nat} (hi : i < k) (h1 : isF fz i = false) (h2 : usesL flows i l = true) : 0 < ocnt flows fz l k := by
  induction k with
  | zero => omega
  | succ k ih =>
    unfold ocnt
    by_cases e : i = k
    · subst e; rw [h1, h2]; simp
    · have := ih (by omega); omega
theorem ocnt_ex {flows : List PFlow} {fz : List Bool} {l k : Nat} (h : 0 < ocnt flows fz l k) : ∃ i, i < k ∧ isF fz i = false ∧ usesL flows i l = true := by
  induction k with
  | zero => simp [ocnt] at h
  | succ k ih =>
    unfold ocnt at h
    by_cases e : (!isF fz k && usesL flows k l) = true
    · simp only [Bool.and_eq_true, Bool.not_eq_true'] at e
      exact ⟨k, by omega, e.1, e.2⟩
    · rw [if_neg e] at h
      obtain ⟨i, hi, h1⟩ := ih (by omega)
      exact ⟨i, by omega, h1⟩
/-- A net with small numbers. -/
structure NetOk (n : PNet) : Prop where
  nl : n.caps.length ≤ 5
  nf : n.flows.length ≤ 5
  cap : ∀ c ∈ n.caps, okQ c = true ∧ Gd 12 108 (val c) ∧ 0 ≤ val c
  dem : ∀ p ∈ n.flows, okQ p.d = true ∧ Gd 12 108 (val p.d) ∧ 0 ≤ val p.d
  lk : ∀ p ∈ n.flows, p.ls ≠ [] ∧ ∀ x ∈ p.ls, 0 ≤ x ∧ x < n.caps.length
/-- A state behind m levels. -/
structure StOk (n : PNet) (m : Nat) (rs : List Rq) (fz : List Bool) : Prop where
  lr : rs.length = n.flows.length
  lz : fz.length = n.flows.length
  many : m ≤ tr fz n.flows.length
  rates : RatesOk (DD m) (MM m) fz rs
  r64 : ∀ r ∈ rs, R64 r.n ∧ R64 r.d
theorem StOk.start (n : PNet) : StOk n 0 (List.replicate n.flows.length ⟨0, 0⟩) (List.replicate n.flows.length false) := by
  refine ⟨List.length_replicate, List.length_replicate, Nat.zero_le _, fun k r h => ?_, fun r hr => ?_⟩
  · rw [List.getElem?_replicate] at h
    split at h <;> cases h
  · rw [List.eq_of_mem_replicate hr]
    unfold R64
    dsimp only
    omega
theorem open_of {fz : List Bool} {k : Nat} (hl : fz.length = k) (h : fz.contains false = true) : ∃ i, i < k ∧ isF fz i = false := by
  rw [List.contains_iff_mem] at h
  obtain ⟨i, hi⟩ := List.getElem?_of_mem h
  exact ⟨i, by rw [← hl]; exact (List.getElem?_eq_some_iff.1 hi).1, isF_of hi⟩
theorem flo_mem {n : PNet} {i : Nat} (hi : i < n.flows.length) : n.flows[i]? = some (flo n i) ∧ flo n i ∈ n.flows := by
  obtain ⟨p, hp⟩ := get_some hi
  have := flo_of hp
  rw [this]
  exact ⟨hp, List.mem_of_getElem? hp⟩
section
variable {n : PNet} {m : Nat} {rs : List Rq} {fz : List Bool}
theorem level_few (hn : NetOk n) (hs : StOk n m rs fz) (ho : fz.contains false = true) : m ≤ 4 := by
  obtain ⟨i, hi, h1⟩ := open_of hs.lz ho
  have := tr_open hi h1
  have := hs.many
  have := hn.nf
  omega
theorem cand_gd (hn : NetOk n) (hs : StOk n m rs fz) (hm : m ≤ 4) {l : Nat} (hl : l < n.caps.length) (hu : usedB n fz l = true) : Gd (DD (m + 1)) (MM (m + 1)) (candQ n fz rs l) := by
  have hq := of_decide_eq_true hu
  have h1 := ocnt_tr n.flows fz l n.flows.length
  have h2 := hs.many
  have h3 := hn.nf
  obtain ⟨c, hc⟩ := get_some hl
  have hcm := hn.cap c (List.mem_of_getElem? hc)
  have hg := osum_gd (D := DD m) (M := MM m) (flows := n.flows) (l := l) hs.rates (by rw [hs.lr, hs.lz]) n.flows.length
  unfold candQ
  rw [List.getD_eq_getElem?_getD, hc, Option.getD_some]
  have hk : n.flows.length * MM m ≤ 5 * MM m := Nat.mul_le_mul_right _ h3
  refine (((hcm.2.1.to (dd_12 (by omega)).1).sub hg).div (by omega)).to (dd_dvd hm (by omega) (by omega)) |>.wide ?_
  rw [MM]
  omega
theorem cand_sm (hn : NetOk n) (hs : StOk n m rs fz) (hm : m ≤ 4) {l : Nat} (hl : l < n.caps.length) (hu : usedB n fz l = true) : Sm (candQ n fz rs l) :=
  (cand_gd hn hs hm hl hu).sm (dd_12 (by omega)).2.1 (by have := (dd_12 (m := m + 1) (by omega)).2.2; omega) (mm_small hm).2
def GoodR (m : Nat) (r : Rq) : Prop := okQ r = true ∧ Gd (DD m) (MM m) (val r)
theorem cons1_good {s : Bool × Rq} {r : Rq} {q : Nat} (hs : GoodR q s.2) (hr : GoodR q r) : GoodR q (cons1 s r).2 := by
  unfold cons1; split
  · exact hs
  · exact hr
theorem good_zero (q : Nat) : GoodR q ⟨0, 0⟩ := ⟨rfl, (Gd.zero _).wide (Nat.zero_le _)⟩
theorem lst1_good (hn : NetOk n) (hs : StOk n m rs fz) (hm : m ≤ 4) {k : Nat} (hk : k ≤ n.caps.length) : GoodR (m + 1) (lst1 n fz rs k).2 := by
  induction k with
  | zero => exact good_zero _
  | succ k ih =>
    unfold lst1
    split
    · rename_i h
      exact cons1_good (ih (by omega)) ⟨(cand_sm hn hs hm (by omega) h).ok, by rw [val_cq]; exact cand_gd hn hs hm (by omega) h⟩
    · exact ih (by omega)
theorem dem_good (hn : NetOk n) {q : Nat} (hq : q ≤ 4) {k : Nat} (hk : k < n.flows.length) : GoodR (q + 1) (flo n k).d := by
  have := hn.dem _ (flo_mem hk).2
  exact ⟨this.1, (this.2.1.to (dd_12 (m := q + 1) (by omega)).1).wide (by rw [MM]; omega)⟩
theorem lst2_good (hn : NetOk n) (hs : StOk n m rs fz) (hm : m ≤ 4) {k : Nat} (hk : k ≤ n.flows.length) : GoodR (m + 1) (lst2 n fz rs k).2 := by
  induction k with
  | zero => unfold lst2; exact lst1_good hn hs hm (Nat.le_refl _)
  | succ k ih =>
    unfold lst2
    split
    · exact cons1_good (ih (by omega)) (dem_good hn hm (by omega))
    · exact ih (by omega)
theorem least_good (hn : NetOk n) (hs : StOk n m rs fz) (hm : m ≤ 4) : GoodR (m + 1) (leastQ n fz rs) := lst2_good hn hs hm (Nat.le_refl _)
theorem rate_val (h : okQ (leastQ n fz rs) = true) : val (rateQ n fz rs) = val (leastQ n fz rs) ∧ okQ (rateQ n fz rs) = true ∧ rateQ n fz rs = cq (val (leastQ n fz rs)) := by
  have e := norm_val h
  unfold rateQ
  split
  · rename_i h0
    have hv : val (leastQ n fz rs) = 0 := by unfold val; rw [h0, Rat.zero_mkRat]
    rw [hv]
    exact ⟨rfl, rfl, rfl⟩
  · rename_i h0
    have hd : (leastQ n fz rs).d ≠ 0 := by
      intro hd
      unfold okQ at h
      simp only [Bool.or_eq_true, Bool.and_eq_true, beq_iff_eq, decide_eq_true_eq] at h
      rcases h with ⟨h1, h2⟩ | ⟨⟨⟨⟨h1, h2⟩, h3⟩, h4⟩, h5⟩
      · exact h0 h1
      · omega
    have hN : normQ (leastQ n fz rs) = leastQ n fz rs := by unfold normQ; rw [if_neg hd]
    rw [hN] at e
    exact ⟨rfl, h, e⟩
theorem rate_good (hn : NetOk n) (hs : StOk n m rs fz) (hm : m ≤ 4) : GoodR (m + 1) (rateQ n fz rs) := by
  have h := least_good hn hs hm
  obtain ⟨h1, h2, -⟩ := rate_val h.1
  exact ⟨h2, by rw [h1]; exact h.2⟩
theorem cmpQ_self (a : Rq) : cmpQ a a = 0 := by
  unfold cmpQ sgn
  split
  · rw [if_neg (by omega), if_pos rfl]
  · rfl
theorem lst1_att {k : Nat} : ((∃ l, l < k ∧ usedB n fz l = true) → (lst1 n fz rs k).1 = true) ∧ ((lst1 n fz rs k).1 = true → ∃ l, l < k ∧ usedB n fz l = true ∧ (lst1 n fz rs k).2 = cq (candQ n fz rs l)) := by
  induction k with
  | zero => exact ⟨fun ⟨l, hl, _⟩ => by omega, fun h => by simp [lst1] at h⟩
  | succ k ih =>
    unfold lst1
    split
    · rename_i hu
      unfold cons1
      split
      · rename_i hc
        simp only [Bool.and_eq_true] at hc
        exact ⟨fun _ => hc.1, fun h => by obtain ⟨l, hl, h1⟩ := ih.2 h; exact ⟨l, by omega, h1⟩⟩
      · exact ⟨fun _ => rfl, fun _ => ⟨k, by omega, hu, rfl⟩⟩
    · rename_i hu
      refine ⟨fun ⟨l, hl, h1⟩ => ih.1 ⟨l, ?_, h1⟩, fun h => by obtain ⟨l, hl, h1⟩ := ih.2 h; exact ⟨l, by omega, h1⟩⟩
      by_cases e : l = k
      · subst e; exact absurd h1 hu
      · omega
theorem lst2_att {k : Nat} : ((lst1 n fz rs n.caps.length).1 = true → (lst2 n fz rs k).1 = true) ∧ ((lst2 n fz rs k).1 = true → (∃ l, l < n.caps.length ∧ usedB n fz l = true ∧ (lst2 n fz rs k).2 = cq (candQ n fz rs l)) ∨ ∃ i, i < k ∧ isF fz i = false ∧ (flo n i).b = true ∧ (lst2 n fz rs k).2 = (flo n i).d) := by
  induction k with
  | zero => unfold lst2; exact ⟨id, fun h => .inl (lst1_att.2 h)⟩
  | succ k ih =>
    have up : ∀ {v : Bool × Rq}, ((∃ l, l < n.caps.length ∧ usedB n fz l = true ∧ v.2 = cq (candQ n fz rs l)) ∨ ∃ i, i < k ∧ isF fz i = false ∧ (flo n i).b = true ∧ v.2 = (flo n i).d) → ((∃ l, l < n.caps.length ∧ usedB n fz l = true ∧ v.2 = cq (candQ n fz rs l)) ∨ ∃ i, i < k + 1 ∧ isF fz i = false ∧ (flo n i).b = true ∧ v.2 = (flo n i).d) := by
      rintro v (h | ⟨i, hi, h1⟩)
      · exact .inl h
      · exact .inr ⟨i, by omega, h1⟩
    unfold lst2
    split
    · rename_i hu
      simp only [Bool.and_eq_true, Bool.not_eq_true'] at hu
      unfold cons1
      split
      · exact ⟨ih.1, fun h => up (ih.2 h)⟩
      · exact ⟨fun _ => rfl, fun _ => .inr ⟨k, by omega, hu.1, hu.2, rfl⟩⟩
    · exact ⟨ih.1, fun h => up (ih.2 h)⟩
theorem used_of (hn : NetOk n) {i : Nat} (hi : i < n.flows.length) (ho : isF fz i = false) {x : Int} (hx : x ∈ (flo n i).ls) : ∃ l : Nat, x = l ∧ l < n.caps.length ∧ usedB n fz l = true := by
  obtain ⟨hp, hm⟩ := flo_mem hi
  have h2 := (hn.lk _ hm).2 x hx
  refine ⟨x.toNat, by omega, by omega, ?_⟩
  unfold usedB
  refine decide_eq_true (ocnt_pos hi ho ?_)
  rw [uses_of hp, List.contains_iff_mem]
  rw [show ((x.toNat : Nat) : Int) = x by omega]
  exact hx
theorem found_of (hn : NetOk n) (hz : fz.length = n.flows.length) (ho : fz.contains false = true) : (lst2 n fz rs n.flows.length).1 = true := by
  obtain ⟨i, hi, h1⟩ := open_of hz ho
  obtain ⟨x, hx⟩ := List.exists_mem_of_ne_nil _ (hn.lk _ (flo_mem hi).2).1
  obtain ⟨l, -, hl, hu⟩ := used_of hn hi h1 hx
  exact lst2_att.1 (lst1_att.1 ⟨l, hl, hu⟩)
/-- Each level freezes a flow. -/
theorem progress (hn : NetOk n) (hz : fz.length = n.flows.length) (ho : fz.contains false = true) : ∃ i, i < n.flows.length ∧ isF fz i = false ∧ hereB n fz rs (flo n i) = true := by
  rcases lst2_att.2 (found_of (rs := rs) hn hz ho) with ⟨l, hl, hu, he⟩ | ⟨i, hi, h1, h2, he⟩
  · obtain ⟨i, hi, h1, h2⟩ := ocnt_ex (of_decide_eq_true hu)
    refine ⟨i, hi, h1, ?_⟩
    rw [uses_of (flo_mem hi).1, List.contains_iff_mem] at h2
    unfold hereB
    rw [Bool.or_eq_true]
    refine .inr (List.any_eq_true.2 ⟨_, h2, ?_⟩)
    unfold linkEq leastQ
    rw [Int.toNat_natCast, hu, he, cmpQ_self]
    rfl
  · refine ⟨i, hi, h1, ?_⟩
    unfold hereB leastQ
    rw [he, h2, cmpQ_self]
    rfl
theorem any_mem {fl : List Int} {k : Nat} : (fl.any fun x => x.toNat == k) = true ↔ ∃ x ∈ fl, x.toNat = k := by
  rw [List.any_eq_true]
  constructor
  · rintro ⟨x, h1, h2⟩; exact ⟨x, h1, by simpa using h2⟩
  · rintro ⟨x, h1, h2⟩; exact ⟨x, h1, by simpa using h2⟩
theorem isF_putF {fl : List Int} {k : Nat} (hk : k < fz.length) : isF (putF fz fl) k = (isF fz k || fl.any fun x => x.toNat == k) := isF_of (putF_get fz fl k hk)
theorem StOk.next (hn : NetOk n) (hs : StOk n m rs fz) (ho : fz.contains false = true) : StOk n (m + 1) (stepS n (rs, fz)).1 (stepS n (rs, fz)).2 := by
  have hm := level_few hn hs ho
  have hR := rate_good hn hs hm
  unfold stepS
  dsimp only
  refine ⟨by rw [putR_len]; exact hs.lr, by rw [putF_len]; exact hs.lz, ?_, ?_, ?_⟩
  · obtain ⟨i, hi, h1, h2⟩ := progress (rs := rs) hn hs.lz ho
    have := tr_more (fz := fz) (fz' := putF fz (frzL n fz rs n.flows.length)) (k := n.flows.length) (fun j hj h => by rw [isF_putF (by rw [hs.lz]; exact hj), h]; rfl) hi h1 (by
      rw [isF_putF (by rw [hs.lz]; exact hi), Bool.or_eq_true, any_mem]
      exact .inr ⟨i, frzL_mem.2 ⟨i, rfl, hi, h1, h2⟩, by omega⟩)
    have := hs.many
    omega
  · intro k r hk hr
    have hkz : k < fz.length := by have := (List.getElem?_eq_some_iff.1 hk).1; rwa [putF_len] at this
    have hkr : k < rs.length := by rw [hs.lr, ← hs.lz]; exact hkz
    rw [putR_get _ _ _ _ hkr] at hr
    rw [putF_get _ _ _ hkz] at hk
    injection hr with hr
    injection hk with hk
    by_cases ha : ((frzL n fz rs n.flows.length).any fun x => x.toNat == k) = true
    · rw [if_pos ha] at hr
      rw [← hr]
      exact hR
    · rw [if_neg ha] at hr
      rw [Bool.not_eq_true] at ha
      rw [ha, Bool.or_false] at hk
      obtain ⟨r0, hr0⟩ := get_some hkr
      rw [List.getD_eq_getElem?_getD, hr0, Option.getD_some] at hr
      subst hr
      obtain ⟨b, hb⟩ := get_some hkz
      rw [List.getD_eq_getElem?_getD, hb, Option.getD_some] at hk
      subst hk
      obtain ⟨g1, g2⟩ := hs.rates k r0 hb hr0
      have hd : DD m ∣ DD (m + 1) := by have := dd_dvd (q := 1) hm (by omega) (by omega); rwa [Nat.mul_one] at this
      exact ⟨g1, (g2.to hd).wide (by rw [MM]; omega)⟩
  · intro r hr
    obtain ⟨k, hk⟩ := List.getElem?_of_mem hr
    have hkr : k < rs.length := by have := (List.getElem?_eq_some_iff.1 hk).1; rwa [putR_len] at this
    rw [putR_get _ _ _ _ hkr] at hk
    injection hk with hk
    by_cases ha : ((frzL n fz rs n.flows.length).any fun x => x.toNat == k) = true
    · rw [if_pos ha] at hk
      rw [← hk]
      exact okQ_R64 hR.1
    · rw [if_neg ha] at hk
      obtain ⟨r0, hr0⟩ := get_some hkr
      rw [List.getD_eq_getElem?_getD, hr0, Option.getD_some] at hk
      subst hk
      exact hs.r64 _ (List.mem_of_getElem? hr0)
end
end Go.Proofs.Ytjalegdfofogcaa
