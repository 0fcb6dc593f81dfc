/- What Add and Mul answer at all valid numbers, by values. Add, Sub, Div at all valid numbers, by values. -/
import Derived.Test.YtjalegdfofogcaaRatP
import Derived.Test.YtjalegdfofogcaaRatH
import Derived.Test.YtjalegdfofogcaaRatX
import Derived.Test.YtjalegdfofogcaaRatQ
namespace Go.Proofs.Ytjalegdfofogcaa
set_option linter.unusedVariables false
set_option linter.unusedSimpArgs false
open Go.RowKit
/-- A result: the number in lowest terms, or the error 'too big'. -/
def fitsR (z : Rat) : Bool := decide (z.num.natAbs ≤ 1152921504606846976) && decide (z.den ≤ 1152921504606846976)
def opR (z : Rat) : Rq × Int := if fitsR z then (cq z, 0) else (⟨0, 0⟩, 10)
theorem fitsR_iff {z : Rat} : fitsR z = true ↔ z.num.natAbs ≤ 1152921504606846976 ∧ z.den ≤ 1152921504606846976 := by
  unfold fitsR; rw [Bool.and_eq_true, decide_eq_true_eq, decide_eq_true_eq]
theorem opR_ok {z : Rat} (h : fitsR z = true) : opR z = (cq z, 0) ∧ okQ (cq z) = true := by
  refine ⟨by unfold opR; rw [if_pos h], ?_⟩
  obtain ⟨h1, h2⟩ := fitsR_iff.1 h
  exact okQ_cq h1 h2
theorem opR_no {z : Rat} (h : fitsR z = false) : opR z = (⟨0, 0⟩, 10) := by unfold opR; rw [if_neg (by rw [h]; decide)]
theorem Sm.fits {x : Rat} (h : Sm x) : fitsR x = true := fitsR_iff.2 ⟨by have := h.1; omega, by have := h.2; omega⟩
theorem res_opR {s : Bool} {n d : Nat} {z : Rat} (hn : n ≠ 0) (h1 : z.num = sg s n) (h2 : z.den = d) : (resQ s false n d, resE n d) = opR z := by
  unfold resQ resE opR
  rw [if_neg hn, if_neg hn]
  by_cases h : n ≤ 1152921504606846976 ∧ d ≤ 1152921504606846976
  · rw [if_pos h, if_pos h, if_pos (fitsR_iff.2 (by rw [h1, h2, natAbs_sg]; exact h))]
    unfold cq
    rw [h1, h2]
    rfl
  · rw [if_neg h, if_neg h, if_neg (fun hh => h (by have := fitsR_iff.1 hh; rwa [h1, h2, natAbs_sg] at this))]
theorem plus_all (x y : Rat) : plusR (cq x) (cq y) = opR (x + y) := by
  obtain ⟨g, hg⟩ : ∃ g, g = x.den.gcd y.den := ⟨_, rfl⟩
  have hg0 : 1 ≤ g := by rw [hg]; exact Nat.gcd_pos_of_pos_left _ x.den_pos
  obtain ⟨l, hl⟩ : ∃ l, l = x.den / g := ⟨_, rfl⟩
  obtain ⟨r, hr⟩ : ∃ r, r = y.den / g := ⟨_, rfl⟩
  obtain ⟨S, hS⟩ : ∃ S, S = addN (decide (x.num < 0)) (decide (y.num < 0)) (x.num.natAbs * r) (y.num.natAbs * l) := ⟨_, rfl⟩
  obtain ⟨T, hT⟩ : ∃ T, T = addS (decide (x.num < 0)) (decide (y.num < 0)) (x.num.natAbs * r) (y.num.natAbs * l) := ⟨_, rfl⟩
  have hPS : plusS (cq x) (cq y) = (T, S) := by
    unfold plusS cq
    dsimp only [Int.toNat_natCast]
    rw [← hg, ← hl, ← hr, ← hS, ← hT]
  have hN : x.num * (r : Int) + y.num * (l : Int) = sg T S := by
    rw [hS, hT, ← sg_add, ← sg_mul, ← sg_mul, sg_self, sg_self]
  obtain ⟨c, hc⟩ : ∃ c, c = Nat.gcd S g := ⟨_, rfl⟩
  have hc0 : 1 ≤ c := by rw [hc]; exact Nat.gcd_pos_of_pos_right _ hg0
  have hcS : c ∣ S := by rw [hc]; exact Nat.gcd_dvd_left _ _
  obtain ⟨k1, k2⟩ := add_nd x y g c (sg T S) hg (by rw [← hN, hl, hr]) (by rw [natAbs_sg]; exact hc)
  unfold plusR
  rw [hPS]
  dsimp only
  by_cases h0 : S = 0
  · rw [if_pos h0]
    subst h0
    have hn : (x + y).num = 0 := by rw [k1]; unfold sg; split <;> simp
    have hz := Rat.num_eq_zero.mp hn
    rw [hz]
    rfl
  · rw [if_neg h0]
    show (resQ T false (S / Nat.gcd (Nat.gcd ((x.den : Int)).toNat ((y.den : Int)).toNat) (S % Nat.gcd ((x.den : Int)).toNat ((y.den : Int)).toNat)) (((x.den : Int)).toNat / Nat.gcd ((x.den : Int)).toNat ((y.den : Int)).toNat * (((y.den : Int)).toNat / Nat.gcd (Nat.gcd ((x.den : Int)).toNat ((y.den : Int)).toNat) (S % Nat.gcd ((x.den : Int)).toNat ((y.den : Int)).toNat))), _) = _
    dsimp only [Int.toNat_natCast]
    unfold cq
    dsimp only [Int.toNat_natCast]
    rw [← hg, gcd_mod', ← hc]
    have hz : S / c ≠ 0 := by
      have := Nat.div_pos (Nat.le_of_dvd (by omega) hcS) (by omega)
      omega
    exact res_opR hz (by rw [k1, sg_div T S c hcS]) k2
theorem times_all (x y : Rat) : mulR (cq x) (cq y) = opR (x * y) := by
  unfold mulR
  have hx0 : (cq x).n = x.num := rfl
  have hy0 : (cq y).n = y.num := rfl
  rw [hx0, hy0]
  by_cases h0 : x.num = 0 ∨ y.num = 0
  · rw [if_pos h0]
    have : x * y = 0 := by
      rcases h0 with h | h
      · rw [Rat.num_eq_zero.mp h, Rat.zero_mul]
      · rw [Rat.num_eq_zero.mp h, Rat.mul_zero]
    rw [this]
    rfl
  · rw [if_neg h0]
    unfold cq
    dsimp only [Int.toNat_natCast]
    obtain ⟨f1, h1⟩ : ∃ f, f = Nat.gcd x.num.natAbs y.den := ⟨_, rfl⟩
    obtain ⟨f2, h2⟩ : ∃ f, f = Nat.gcd y.num.natAbs x.den := ⟨_, rfl⟩
    obtain ⟨k1, k2⟩ := mul_nd x y f1 f2 h1 h2
    rw [← h1, ← h2]
    have d1 : f1 ∣ x.num.natAbs := by rw [h1]; exact Nat.gcd_dvd_left _ _
    have d2 : f2 ∣ y.num.natAbs := by rw [h2]; exact Nat.gcd_dvd_left _ _
    have p1 : 1 ≤ f1 := by rw [h1]; exact Nat.gcd_pos_of_pos_right _ y.den_pos
    have p2 : 1 ≤ f2 := by rw [h2]; exact Nat.gcd_pos_of_pos_right _ x.den_pos
    have z1 : 1 ≤ x.num.natAbs / f1 := Nat.div_pos (Nat.le_of_dvd (by omega) d1) (by omega)
    have z2 : 1 ≤ y.num.natAbs / f2 := Nat.div_pos (Nat.le_of_dvd (by omega) d2) (by omega)
    have z3 := Nat.mul_pos z1 z2
    have e1 : x.num / (f1 : Int) = sg (decide (x.num < 0)) (x.num.natAbs / f1) := by rw [← sg_div _ _ _ d1, sg_self]
    have e2 : y.num / (f2 : Int) = sg (decide (y.num < 0)) (y.num.natAbs / f2) := by rw [← sg_div _ _ _ d2, sg_self]
    exact res_opR (by omega) (by rw [k1, e1, e2, sg_mul2]) k2
end Go.Proofs.Ytjalegdfofogcaa
namespace Go.Proofs.Ytjalegdfofogcaa
set_option linter.unusedVariables false
set_option linter.unusedSimpArgs false
open Go.RowKit
theorem add_all (a b : Rq) (w : World) (hA : okQ a = true) (hB : okQ b = true) : Calls Try.prog 26 #[rqv a, rqv b] w fun e w' => e = .returned (.tuple #[rqv (opR (val a + val b)).1, .int .i64 (opR (val a + val b)).2]) ∧ Below w.heap.size w w' := by
  have := plus_g a b w (okQ_R64 hA) (okQ_R64 hB) hA hB
  rwa [norm_val hA, norm_val hB, plus_all] at this
theorem mul_all (a b : Rq) (w : World) (hA : okQ a = true) (hB : okQ b = true) : Calls Try.prog 8 #[rqv a, rqv b] w fun e w' => e = .returned (.tuple #[rqv (opR (val a * val b)).1, .int .i64 (opR (val a * val b)).2]) ∧ Below w.heap.size w w' := by
  have := times_c a b w (okQ_R64 hA) (okQ_R64 hB) hA hB
  rwa [norm_val hA, norm_val hB, times_all] at this
set_option maxRecDepth 100000 in
set_option maxHeartbeats 4000000 in
theorem sub_all (a b : Rq) (w : World) (hA : okQ a = true) (hB : okQ b = true) : Calls Try.prog 76 #[rqv a, rqv b] w fun e w' => e = .returned (.tuple #[rqv (opR (val a - val b)).1, .int .i64 (opR (val a - val b)).2]) ∧ Below w.heap.size w w' := by
  have CC := fun w => add_all a ⟨-b.n, b.d⟩ w hA (okQ_neg hB)
  rw [val_neg, ← Rat.sub_eq_add_neg] at CC
  obtain ⟨Q, hQ⟩ : ∃ Q, Q = (opR (val a - val b)).1 := ⟨_, rfl⟩
  obtain ⟨E, hE⟩ : ∃ E, E = (opR (val a - val b)).2 := ⟨_, rfl⟩
  rw [← hQ, ← hE] at CC ⊢
  have HQ := Kept.mk hQ
  have HE := Kept.mk hE
  clear hQ hE
  have hng : IntKind.i64.wrap (-b.n) = -b.n := by
    obtain ⟨h1, h2⟩ := okQ_R64 (okQ_neg hB)
    unfold R64 at h1
    dsimp only at h1
    rw [IntKind.wrap_i64]
    omega
  obtain ⟨a0, a1⟩ := okQ_R64 hA
  obtain ⟨b0, b1⟩ := okQ_R64 hB
  have V1 := fun w => valid_c a w a0.1 a0.2 a1.1 a1.2
  have V2 := fun w => valid_c b w b0.1 b0.2 b1.1 b1.2
  unfold rqv at V1 V2 CC ⊢
  go_enter Try.func76, Try.ntmps76
  go_upto_region 1 with fail
  obtain ⟨X, hX, HX⟩ : ∃ X, X = ((w.alloc (.cells #[.int .i64 a.n, .int .i64 a.d] 32)).alloc (.cells #[.int .i64 b.n, .int .i64 b.d] 32)).alloc (.cells #[.int .i64 0, .int .i64 0] 32) ∧ Kept (A2 w X a b) := ⟨_, rfl, ⟨A2.start w a b⟩⟩
  rw [← hX]
  clear hX
  obtain ⟨⟨k0, k1⟩, m0, m1⟩ := HX.out.cells
  have tok1 : True := trivial
  go_upto_region 3 with (first | (go_at_call 22; have _t := tok1; refine (V1 _).mono ?_; rintro e w1 ⟨rfl, hb1⟩; rw [hA]; have HX1 := Kept.mk (HX.out.new_ hb1); clear hb1 tok1 _t k0 k1 m0 m1; obtain ⟨⟨k0, k1⟩, m0, m1⟩ := HX1.out.cells; have tok3 : True := trivial) | (go_at_call 22; have _t := tok3; refine (V2 _).mono ?_; rintro e w2 ⟨rfl, hb2⟩; rw [hB]; have HX2 := Kept.mk (HX1.out.new_ hb2); clear hb2 tok3 _t k0 k1 m0 m1; obtain ⟨⟨k0, k1⟩, m0, m1⟩ := HX2.out.cells))
  have z0 := HX2.out.z.cell 0 (v := .int .i64 0) rfl
  have z1 := HX2.out.z.cell 1 (v := .int .i64 0) rfl
  have zf0 := HX2.out.z.free 0
  have zf1 := HX2.out.z.free 1
  have lz := HX2.out.z.lt
  go_wp2_with (go_at_call 26; refine (CC _).mono ?_; rintro e w6 ⟨rfl, hb6⟩; have HU6 := Kept.mk (HX2.out.new_ hb6); clear z0 z1 zf0 zf1 lz k0 k1 m0 m1; have z0 := HU6.out.z.cell 0 (v := .int .i64 0) rfl; have z1 := HU6.out.z.cell 1 (v := .int .i64 0) rfl; have zf0 := HU6.out.z.free 0; have zf1 := HU6.out.z.free 1; have lz := HU6.out.z.lt)
  obtain ⟨W9, hW9, s0, s1, hb⟩ := HU6.out.fin (.int .i64 Q.n) (.int .i64 Q.d)
  rw [← hW9]
  clear hW9
  exact bodyPost_ret (v := .tuple #[.agg #[.int .i64 Q.n, .int .i64 Q.d], .int .i64 E]) (by simp [results, Try.results76, go_sem, s0, s1]) rfl ⟨rfl, hb⟩
set_option maxRecDepth 100000 in
set_option maxHeartbeats 4000000 in
theorem div_all (a : Rq) (k : Nat) (w : World) (hA : okQ a = true) (h0 : 1 ≤ k) (h1 : k ≤ 1000000) : Calls Try.prog 75 #[rqv a, rqv ⟨(k : Int), 1⟩] w fun e w' => e = .returned (.tuple #[rqv (opR (val a / (k : Rat))).1, .int .i64 (opR (val a / (k : Rat))).2]) ∧ Below w.heap.size w w' := by
  obtain ⟨b, hb⟩ : ∃ b : Rq, b = ⟨(k : Int), 1⟩ := ⟨_, rfl⟩
  have hB : okQ b = true := by rw [hb]; exact okQ_int h1
  have CC := fun w => mul_all a ⟨1, (k : Int)⟩ w hA (okQ_one h0 h1)
  rw [val_one h0, ← Rat.div_def] at CC
  obtain ⟨Q, hQ⟩ : ∃ Q, Q = (opR (val a / (k : Rat))).1 := ⟨_, rfl⟩
  obtain ⟨E, hE⟩ : ∃ E, E = (opR (val a / (k : Rat))).2 := ⟨_, rfl⟩
  rw [← hQ, ← hE] at CC ⊢
  have HQ := Kept.mk hQ
  have HE := Kept.mk hE
  clear hQ hE
  have hk : ((k : Int) == 0) = false := beq_false_of_ne (by omega)
  have hk2 : ¬ (k : Int) < 0 := by omega
  have hk3 : ¬ (k : Int) = 0 := by omega
  rw [← hb]
  obtain ⟨bn, bd⟩ := b
  injection hb with e1 e2
  subst e1 e2
  obtain ⟨a0, a1⟩ := okQ_R64 hA
  obtain ⟨b0, b1⟩ := okQ_R64 hB
  have V1 := fun w => valid_c a w a0.1 a0.2 a1.1 a1.2
  have V2 := fun w => valid_c ⟨(k : Int), 1⟩ w b0.1 b0.2 b1.1 b1.2
  unfold rqv at V1 V2 CC ⊢
  dsimp only at V2 CC b0 b1 ⊢
  go_enter Try.func75, Try.ntmps75
  go_upto_region 1 with fail
  obtain ⟨X, hX, HX⟩ : ∃ X, X = ((w.alloc (.cells #[.int .i64 a.n, .int .i64 a.d] 32)).alloc (.cells #[.int .i64 (k : Int), .int .i64 1] 32)).alloc (.cells #[.int .i64 0, .int .i64 0] 32) ∧ Kept (A2 w X a ⟨(k : Int), 1⟩) := ⟨_, rfl, ⟨A2.start w a ⟨(k : Int), 1⟩⟩⟩
  rw [← hX]
  clear hX
  obtain ⟨⟨k0, k1⟩, m0, m1⟩ := HX.out.cells
  dsimp only at m0 m1
  have tok1 : True := trivial
  go_upto_region 3 with (first | (go_at_call 22; have _t := tok1; refine (V1 _).mono ?_; rintro e w1 ⟨rfl, hb1⟩; rw [hA]; have HX1 := Kept.mk (HX.out.new_ hb1); clear hb1 tok1 _t k0 k1 m0 m1; obtain ⟨⟨k0, k1⟩, m0, m1⟩ := HX1.out.cells; dsimp only at m0 m1; have tok3 : True := trivial) | (go_at_call 22; have _t := tok3; refine (V2 _).mono ?_; rintro e w2 ⟨rfl, hb2⟩; rw [hB]; have HX2 := Kept.mk (HX1.out.new_ hb2); clear hb2 tok3 _t k0 k1 m0 m1; obtain ⟨⟨k0, k1⟩, m0, m1⟩ := HX2.out.cells; dsimp only at m0 m1))
  have z0 := HX2.out.z.cell 0 (v := .int .i64 0) rfl
  have z1 := HX2.out.z.cell 1 (v := .int .i64 0) rfl
  have zf0 := HX2.out.z.free 0
  have zf1 := HX2.out.z.free 1
  have lz := HX2.out.z.lt
  go_wp2_with (go_at_call 8; refine (CC _).mono ?_; rintro e w6 ⟨rfl, hb6⟩; have HU6 := Kept.mk (HX2.out.new_ hb6); clear z0 z1 zf0 zf1 lz k0 k1 m0 m1; have z0 := HU6.out.z.cell 0 (v := .int .i64 0) rfl; have z1 := HU6.out.z.cell 1 (v := .int .i64 0) rfl; have zf0 := HU6.out.z.free 0; have zf1 := HU6.out.z.free 1; have lz := HU6.out.z.lt)
  obtain ⟨W9, hW9, s0, s1, hb⟩ := HU6.out.fin (.int .i64 Q.n) (.int .i64 Q.d)
  rw [← hW9]
  clear hW9
  exact bodyPost_ret (v := .tuple #[.agg #[.int .i64 Q.n, .int .i64 Q.d], .int .i64 E]) (by simp [results, Try.results75, go_sem, s0, s1]) rfl ⟨rfl, hb⟩
end Go.Proofs.Ytjalegdfofogcaa
