/- Numbers as Lean's own rationals: what Add and Mul answer at small numbers is the sum and the product in lowest terms. -/
import Derived.Test.YtjalegdfofogcaaRatH
namespace Go.Proofs.Ytjalegdfofogcaa
set_option linter.unusedVariables false
set_option linter.unusedSimpArgs false
/-- The value of a number of the program. -/
def val (r : Rq) : Rat := mkRat r.n r.d.toNat
/-- A rational as a number of the program. -/
def cq (x : Rat) : Rq := ⟨x.num, x.den⟩
theorem val_cq (x : Rat) : val (cq x) = x := by unfold val cq; dsimp only [Int.toNat_natCast]; exact Rat.mkRat_self x
theorem norm_val {r : Rq} (h : okQ r = true) : normQ r = cq (val r) := by
  obtain ⟨n, d⟩ := r
  unfold okQ at h
  dsimp only at h
  simp only [Bool.or_eq_true, Bool.and_eq_true, beq_iff_eq, decide_eq_true_eq] at h
  rcases h with ⟨rfl, rfl⟩ | ⟨⟨⟨⟨h1, h2⟩, h3⟩, h4⟩, h5⟩
  · rfl
  · unfold normQ val cq
    dsimp only
    rw [if_neg (by omega)]
    obtain ⟨e, rfl⟩ : ∃ e : Nat, d = e := ⟨d.toNat, by omega⟩
    rw [Int.toNat_natCast]
    rw [Int.natAbs_natCast] at h5
    rw [← Rat.mk_eq_mkRat n e (by omega) h5]
theorem val_norm {r : Rq} (h : okQ r = true) : val (normQ r) = val r := by rw [norm_val h, val_cq]
theorem okQ_cq {x : Rat} (h : x.num.natAbs ≤ 1152921504606846976) (k : x.den ≤ 1152921504606846976) : okQ (cq x) = true := by
  unfold okQ cq
  have := x.den_pos
  have r : Nat.gcd x.num.natAbs x.den = 1 := x.reduced
  simp only [Bool.or_eq_true, Bool.and_eq_true, beq_iff_eq, decide_eq_true_eq]
  refine Or.inr ⟨⟨⟨⟨?_, ?_⟩, ?_⟩, ?_⟩, ?_⟩
  · omega
  · omega
  · omega
  · omega
  · rw [Int.natAbs_natCast]; exact r
theorem add_nd (x y : Rat) (g c : Nat) (N : Int) (hg : g = x.den.gcd y.den) (hN : N = x.num * ((y.den / g : Nat) : Int) + y.num * ((x.den / g : Nat) : Int)) (hc : c = N.natAbs.gcd g) :
    (x + y).num = N / c ∧ (x + y).den = x.den / g * (y.den / c) := by
  have hcy : c ∣ y.den := by rw [hc, hg]; exact Nat.dvd_trans (Nat.gcd_dvd_right _ _) (Nat.gcd_dvd_right _ _)
  have e : x + y = Rat.add x y := rfl
  rw [e]
  unfold Rat.add
  dsimp only
  subst hg
  split
  · rename_i h1
    rw [h1] at hN hc
    rw [Nat.gcd_one_right] at hc
    subst hc
    rw [h1]
    simp only [Nat.div_one] at hN ⊢
    rw [hN]
    exact ⟨(Int.ediv_one _).symm, trivial⟩
  · subst hN
    rw [Rat.maybeNormalize_eq]
    subst hc
    exact ⟨rfl, Nat.mul_div_assoc _ hcy⟩
theorem mul_nd (x y : Rat) (f1 f2 : Nat) (h1 : f1 = Nat.gcd x.num.natAbs y.den) (h2 : f2 = Nat.gcd y.num.natAbs x.den) :
    (x * y).num = x.num / f1 * (y.num / f2) ∧ (x * y).den = x.den / f2 * (y.den / f1) := by
  have e : x * y = Rat.mul x y := rfl
  rw [e]
  unfold Rat.mul
  dsimp only
  rw [Int.divExact_eq_ediv, Int.divExact_eq_ediv, Nat.divExact_eq_div, Nat.divExact_eq_div, ← h1, ← h2]
  exact ⟨rfl, rfl⟩
/-- A sign and an absolute value. -/
theorem sg_div (s : Bool) (S c : Nat) (hc : c ∣ S) : sg s S / (c : Int) = sg s (S / c) := by
  unfold sg
  split
  · rw [Int.neg_ediv_of_dvd (Int.natCast_dvd_natCast.mpr hc), ← Int.natCast_ediv]
  · rw [← Int.natCast_ediv]
theorem natAbs_sg (s : Bool) (S : Nat) : (sg s S).natAbs = S := by unfold sg; split <;> omega
theorem sg_self (n : Int) : sg (decide (n < 0)) n.natAbs = n := by
  unfold sg
  by_cases h : n < 0
  · rw [decide_eq_true h]; simp only [if_true]; omega
  · rw [decide_eq_false h]; simp only [Bool.false_eq_true, if_false]; omega
theorem sg_mul (s : Bool) (a b : Nat) : sg s a * (b : Int) = sg s (a * b) := by
  unfold sg
  split
  · rw [Int.neg_mul, Int.natCast_mul]
  · rw [Int.natCast_mul]
theorem sg_mul2 (s t : Bool) (a b : Nat) : sg s a * sg t b = sg (s != t) (a * b) := by
  unfold sg
  cases s <;> cases t <;> simp [Int.natCast_mul, Int.neg_mul, Int.mul_neg]
theorem sg_add (s t : Bool) (a b : Nat) : sg s a + sg t b = sg (addS s t a b) (addN s t a b) := by
  unfold sg addS addN
  cases s <;> cases t
  · simp
  · simp only [Bool.false_eq_true, if_false, if_true, reduceCtorEq]
    by_cases h : a < b
    · rw [if_pos h, if_pos h, if_pos rfl]; omega
    · rw [if_neg h, if_neg h]; simp only [Bool.false_eq_true, if_false]; omega
  · simp only [Bool.false_eq_true, if_false, if_true, reduceCtorEq]
    by_cases h : a < b
    · rw [if_pos h, if_pos h]; simp only [Bool.false_eq_true, if_false]; omega
    · rw [if_neg h, if_neg h, if_pos rfl]; omega
  · simp only [if_true]; omega
theorem gcd_mod' (g S : Nat) : Nat.gcd g (S % g) = Nat.gcd S g := by rw [Nat.gcd_comm, ← Nat.gcd_rec, Nat.gcd_comm]
/-- Small numbers: their sum and product are found exactly. -/
def Sm (x : Rat) : Prop := x.num.natAbs ≤ 549755813888 ∧ x.den ≤ 1048576
theorem Sm.ok {x : Rat} (h : Sm x) : okQ (cq x) = true := okQ_cq (by have := h.1; omega) (by have := h.2; omega)
theorem res_sg {s : Bool} {n d : Nat} (hn : n ≠ 0) (h1 : n ≤ 1152921504606846976) (h2 : d ≤ 1152921504606846976) : resQ s false n d = ⟨sg s n, d⟩ ∧ resE n d = 0 := by
  unfold resQ resE
  rw [if_neg hn, if_pos ⟨h1, h2⟩, if_neg hn, if_pos ⟨h1, h2⟩]
  exact ⟨rfl, rfl⟩
theorem plus_small {x y : Rat} (hx : Sm x) (hy : Sm y) : plusR (cq x) (cq y) = (cq (x + y), 0) ∧ (plusS (cq x) (cq y)).2 < 18446744073709551616 := by
  obtain ⟨g, hg⟩ : ∃ g, g = x.den.gcd y.den := ⟨_, rfl⟩
  have hg0 : 1 ≤ g := by rw [hg]; exact Nat.gcd_pos_of_pos_left _ x.den_pos
  obtain ⟨l, hl⟩ : ∃ l, l = x.den / g := ⟨_, rfl⟩
  obtain ⟨r, hr⟩ : ∃ r, r = y.den / g := ⟨_, rfl⟩
  have hlb : l ≤ 1048576 := by rw [hl]; exact Nat.le_trans (Nat.div_le_self _ _) hx.2
  have hrb : r ≤ 1048576 := by rw [hr]; exact Nat.le_trans (Nat.div_le_self _ _) hy.2
  obtain ⟨S, hS⟩ : ∃ S, S = addN (decide (x.num < 0)) (decide (y.num < 0)) (x.num.natAbs * r) (y.num.natAbs * l) := ⟨_, rfl⟩
  obtain ⟨T, hT⟩ : ∃ T, T = addS (decide (x.num < 0)) (decide (y.num < 0)) (x.num.natAbs * r) (y.num.natAbs * l) := ⟨_, rfl⟩
  have hPS : plusS (cq x) (cq y) = (T, S) := by
    unfold plusS cq
    dsimp only [Int.toNat_natCast]
    rw [← hg, ← hl, ← hr, ← hS, ← hT]
  have hN : x.num * (r : Int) + y.num * (l : Int) = sg T S := by
    rw [hS, hT, ← sg_add, ← sg_mul, ← sg_mul, sg_self, sg_self]
  have hSb : S ≤ 1152921504606846976 := by
    have e1 := Nat.mul_le_mul hx.1 hrb
    have e2 := Nat.mul_le_mul hy.1 hlb
    rw [hS]
    unfold addN
    split
    · omega
    · split <;> omega
  obtain ⟨c, hc⟩ : ∃ c, c = Nat.gcd S g := ⟨_, rfl⟩
  have hc0 : 1 ≤ c := by rw [hc]; exact Nat.gcd_pos_of_pos_right _ hg0
  have hcS : c ∣ S := by rw [hc]; exact Nat.gcd_dvd_left _ _
  obtain ⟨k1, k2⟩ := add_nd x y g c (sg T S) hg (by rw [← hN, hl, hr]) (by rw [natAbs_sg]; exact hc)
  rw [hPS]
  refine ⟨?_, by dsimp only; omega⟩
  unfold plusR
  rw [hPS]
  dsimp only
  by_cases h0 : S = 0
  · rw [if_pos h0]
    subst h0
    have hn : (x + y).num = 0 := by rw [k1]; unfold sg; split <;> simp
    have hz := Rat.num_eq_zero.mp hn
    rw [hz]
    rfl
  · rw [if_neg h0]
    show (resQ T false (S / Nat.gcd (Nat.gcd ((x.den : Int)).toNat ((y.den : Int)).toNat) (S % Nat.gcd ((x.den : Int)).toNat ((y.den : Int)).toNat)) (((x.den : Int)).toNat / Nat.gcd ((x.den : Int)).toNat ((y.den : Int)).toNat * (((y.den : Int)).toNat / Nat.gcd (Nat.gcd ((x.den : Int)).toNat ((y.den : Int)).toNat) (S % Nat.gcd ((x.den : Int)).toNat ((y.den : Int)).toNat))), _) = _
    dsimp only [Int.toNat_natCast]
    unfold cq
    dsimp only [Int.toNat_natCast]
    rw [← hg, gcd_mod', ← hc]
    have hb1 : S / c ≤ 1152921504606846976 := Nat.le_trans (Nat.div_le_self _ _) hSb
    have hb2 : x.den / g * (y.den / c) ≤ 1152921504606846976 := by
      have := Nat.mul_le_mul (Nat.le_trans (Nat.div_le_self x.den g) hx.2) (Nat.le_trans (Nat.div_le_self y.den c) hy.2)
      omega
    have hz : S / c ≠ 0 := by
      have := Nat.div_pos (Nat.le_of_dvd (by omega) hcS) (by omega)
      omega
    obtain ⟨r1, r2⟩ := res_sg (s := T) hz hb1 hb2
    rw [r1, r2, k1, k2, sg_div T S c hcS]
theorem times_small {x y : Rat} (hx : Sm x) (hy : Sm y) (hn : x.num.natAbs * y.num.natAbs ≤ 1152921504606846976) : mulR (cq x) (cq y) = (cq (x * y), 0) := by
  unfold mulR
  have hx0 : (cq x).n = x.num := rfl
  have hy0 : (cq y).n = y.num := rfl
  rw [hx0, hy0]
  by_cases h0 : x.num = 0 ∨ y.num = 0
  · rw [if_pos h0]
    have : x * y = 0 := by
      rcases h0 with h | h
      · rw [Rat.num_eq_zero.mp h, Rat.zero_mul]
      · rw [Rat.num_eq_zero.mp h, Rat.mul_zero]
    rw [this]
    rfl
  · rw [if_neg h0]
    unfold cq
    dsimp only [Int.toNat_natCast]
    obtain ⟨f1, h1⟩ : ∃ f, f = Nat.gcd x.num.natAbs y.den := ⟨_, rfl⟩
    obtain ⟨f2, h2⟩ : ∃ f, f = Nat.gcd y.num.natAbs x.den := ⟨_, rfl⟩
    obtain ⟨k1, k2⟩ := mul_nd x y f1 f2 h1 h2
    rw [← h1, ← h2]
    have d1 : f1 ∣ x.num.natAbs := by rw [h1]; exact Nat.gcd_dvd_left _ _
    have d2 : f2 ∣ y.num.natAbs := by rw [h2]; exact Nat.gcd_dvd_left _ _
    have p1 : 1 ≤ f1 := by rw [h1]; exact Nat.gcd_pos_of_pos_right _ y.den_pos
    have p2 : 1 ≤ f2 := by rw [h2]; exact Nat.gcd_pos_of_pos_right _ x.den_pos
    have b1 := Nat.div_le_self x.num.natAbs f1
    have b2 := Nat.div_le_self y.num.natAbs f2
    have b3 := Nat.mul_le_mul b1 b2
    have b4 := Nat.mul_le_mul (Nat.le_trans (Nat.div_le_self x.den f2) hx.2) (Nat.le_trans (Nat.div_le_self y.den f1) hy.2)
    have z1 : 1 ≤ x.num.natAbs / f1 := Nat.div_pos (Nat.le_of_dvd (by omega) d1) (by omega)
    have z2 : 1 ≤ y.num.natAbs / f2 := Nat.div_pos (Nat.le_of_dvd (by omega) d2) (by omega)
    have z3 := Nat.mul_pos z1 z2
    obtain ⟨r1, r2⟩ := res_sg (s := decide (x.num < 0) != decide (y.num < 0)) (n := x.num.natAbs / f1 * (y.num.natAbs / f2)) (d := x.den / f2 * (y.den / f1)) (by omega) (by omega) (by omega)
    rw [r1, r2, k1, k2]
    have e1 : x.num / (f1 : Int) = sg (decide (x.num < 0)) (x.num.natAbs / f1) := by rw [← sg_div _ _ _ d1, sg_self]
    have e2 : y.num / (f2 : Int) = sg (decide (y.num < 0)) (y.num.natAbs / f2) := by rw [← sg_div _ _ _ d2, sg_self]
    rw [e1, e2, sg_mul2]
end Go.Proofs.Ytjalegdfofogcaa
