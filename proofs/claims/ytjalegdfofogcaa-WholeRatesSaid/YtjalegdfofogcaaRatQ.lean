/- The program's arithmetic at small numbers, by values: sum, difference, product, quotient by a count, comparison. -/
import Derived.Test.YtjalegdfofogcaaRatG
import Derived.Test.YtjalegdfofogcaaRatP
namespace Go.Proofs.Ytjalegdfofogcaa
set_option linter.unusedVariables false
set_option linter.unusedSimpArgs false
open Go.RowKit
theorem okQ_R64 {a : Rq} (h : okQ a = true) : R64 a.n ∧ R64 a.d := by
  unfold okQ at h
  simp only [Bool.or_eq_true, Bool.and_eq_true, beq_iff_eq, decide_eq_true_eq] at h
  unfold R64
  rcases h with ⟨h1, h2⟩ | ⟨⟨⟨⟨h1, h2⟩, h3⟩, h4⟩, h5⟩ <;> omega
theorem add_q (a b : Rq) (w : World) (hA : okQ a = true) (hB : okQ b = true) (sa : Sm (val a)) (sb : Sm (val b)) : Calls Try.prog 26 #[rqv a, rqv b] w fun e w' => e = .returned (.tuple #[rqv (cq (val a + val b)), .int .i64 0]) ∧ Below w.heap.size w w' := by
  obtain ⟨p1, p2⟩ := plus_small sa sb
  have := plus_c a b w (okQ_R64 hA) (okQ_R64 hB) hA hB (by rw [norm_val hA, norm_val hB]; exact p2)
  rwa [norm_val hA, norm_val hB, p1] at this
theorem mul_q (a b : Rq) (w : World) (hA : okQ a = true) (hB : okQ b = true) (sa : Sm (val a)) (sb : Sm (val b)) (hn : (val a).num.natAbs * (val b).num.natAbs ≤ 1152921504606846976) : Calls Try.prog 8 #[rqv a, rqv b] w fun e w' => e = .returned (.tuple #[rqv (cq (val a * val b)), .int .i64 0]) ∧ Below w.heap.size w w' := by
  have := times_c a b w (okQ_R64 hA) (okQ_R64 hB) hA hB
  rwa [norm_val hA, norm_val hB, times_small sa sb hn] at this
theorem okQ_neg {b : Rq} (h : okQ b = true) : okQ ⟨-b.n, b.d⟩ = true := by
  unfold okQ at h ⊢
  dsimp only
  rw [Int.natAbs_neg]
  simp only [Bool.or_eq_true, Bool.and_eq_true, beq_iff_eq, decide_eq_true_eq] at h ⊢
  rcases h with ⟨h1, h2⟩ | ⟨⟨⟨⟨h1, h2⟩, h3⟩, h4⟩, h5⟩
  · exact Or.inl ⟨by omega, h2⟩
  · exact Or.inr ⟨⟨⟨⟨h1, h2⟩, by omega⟩, by omega⟩, h5⟩
theorem val_neg (b : Rq) : val ⟨-b.n, b.d⟩ = -val b := by unfold val; dsimp only; rw [Rat.neg_mkRat]
theorem Sm.neg {x : Rat} (h : Sm x) : Sm (-x) := by
  unfold Sm at *
  rw [Rat.neg_num, Rat.neg_den, Int.natAbs_neg]
  exact h
set_option maxRecDepth 100000 in
set_option maxHeartbeats 4000000 in
theorem sub_q (a b : Rq) (w : World) (hA : okQ a = true) (hB : okQ b = true) (sa : Sm (val a)) (sb : Sm (val b)) : Calls Try.prog 76 #[rqv a, rqv b] w fun e w' => e = .returned (.tuple #[rqv (cq (val a - val b)), .int .i64 0]) ∧ Below w.heap.size w w' := by
  have CC := fun w => add_q a ⟨-b.n, b.d⟩ w hA (okQ_neg hB) sa (by rw [val_neg]; exact sb.neg)
  rw [val_neg, ← Rat.sub_eq_add_neg] at CC
  obtain ⟨Q, hQ⟩ : ∃ Q, Q = cq (val a - val b) := ⟨_, rfl⟩
  rw [← hQ] at CC ⊢
  have HQ := Kept.mk hQ
  clear hQ
  have hng : IntKind.i64.wrap (-b.n) = -b.n := by
    obtain ⟨h1, h2⟩ := okQ_R64 (okQ_neg hB)
    unfold R64 at h1
    dsimp only at h1
    rw [IntKind.wrap_i64]
    omega
  obtain ⟨a0, a1⟩ := okQ_R64 hA
  obtain ⟨b0, b1⟩ := okQ_R64 hB
  have V1 := fun w => valid_c a w a0.1 a0.2 a1.1 a1.2
  have V2 := fun w => valid_c b w b0.1 b0.2 b1.1 b1.2
  unfold rqv at V1 V2 CC ⊢
  go_enter Try.func76, Try.ntmps76
  go_upto_region 1 with fail
  obtain ⟨X, hX, HX⟩ : ∃ X, X = ((w.alloc (.cells #[.int .i64 a.n, .int .i64 a.d] 32)).alloc (.cells #[.int .i64 b.n, .int .i64 b.d] 32)).alloc (.cells #[.int .i64 0, .int .i64 0] 32) ∧ Kept (A2 w X a b) := ⟨_, rfl, ⟨A2.start w a b⟩⟩
  rw [← hX]
  clear hX
  obtain ⟨⟨k0, k1⟩, m0, m1⟩ := HX.out.cells
  have tok1 : True := trivial
  go_upto_region 3 with (first | (go_at_call 22; have _t := tok1; refine (V1 _).mono ?_; rintro e w1 ⟨rfl, hb1⟩; rw [hA]; have HX1 := Kept.mk (HX.out.new_ hb1); clear hb1 tok1 _t k0 k1 m0 m1; obtain ⟨⟨k0, k1⟩, m0, m1⟩ := HX1.out.cells; have tok3 : True := trivial) | (go_at_call 22; have _t := tok3; refine (V2 _).mono ?_; rintro e w2 ⟨rfl, hb2⟩; rw [hB]; have HX2 := Kept.mk (HX1.out.new_ hb2); clear hb2 tok3 _t k0 k1 m0 m1; obtain ⟨⟨k0, k1⟩, m0, m1⟩ := HX2.out.cells))
  have z0 := HX2.out.z.cell 0 (v := .int .i64 0) rfl
  have z1 := HX2.out.z.cell 1 (v := .int .i64 0) rfl
  have zf0 := HX2.out.z.free 0
  have zf1 := HX2.out.z.free 1
  have lz := HX2.out.z.lt
  go_wp2_with (go_at_call 26; refine (CC _).mono ?_; rintro e w6 ⟨rfl, hb6⟩; have HU6 := Kept.mk (HX2.out.new_ hb6); clear z0 z1 zf0 zf1 lz k0 k1 m0 m1; have z0 := HU6.out.z.cell 0 (v := .int .i64 0) rfl; have z1 := HU6.out.z.cell 1 (v := .int .i64 0) rfl; have zf0 := HU6.out.z.free 0; have zf1 := HU6.out.z.free 1; have lz := HU6.out.z.lt)
  obtain ⟨W9, hW9, s0, s1, hb⟩ := HU6.out.fin (.int .i64 Q.n) (.int .i64 Q.d)
  rw [← hW9]
  clear hW9
  exact bodyPost_ret (v := .tuple #[.agg #[.int .i64 Q.n, .int .i64 Q.d], .int .i64 0]) (by simp [results, Try.results76, go_sem, s0, s1]) rfl ⟨rfl, hb⟩
theorem okQ_one {k : Nat} (h0 : 1 ≤ k) (h1 : k ≤ 1000000) : okQ ⟨1, (k : Int)⟩ = true := by
  unfold okQ
  simp only [Bool.or_eq_true, Bool.and_eq_true, beq_iff_eq, decide_eq_true_eq]
  refine Or.inr ⟨⟨⟨⟨by omega, by omega⟩, by omega⟩, by omega⟩, ?_⟩
  exact Nat.gcd_one_left _
theorem okQ_int {k : Nat} (h1 : k ≤ 1000000) : okQ ⟨(k : Int), 1⟩ = true := by
  unfold okQ
  simp only [Bool.or_eq_true, Bool.and_eq_true, beq_iff_eq, decide_eq_true_eq]
  refine Or.inr ⟨⟨⟨⟨by omega, by omega⟩, by omega⟩, by omega⟩, ?_⟩
  exact Nat.gcd_one_right _
theorem val_one {k : Nat} (h0 : 1 ≤ k) : val ⟨1, (k : Int)⟩ = (k : Rat)⁻¹ := by
  unfold val
  dsimp only [Int.toNat_natCast]
  rw [Rat.mkRat_eq_div, Rat.div_def]
  have : ((1 : Int) : Rat) = 1 := rfl
  rw [this, Rat.one_mul]
theorem val_int (k : Int) : val ⟨k, 1⟩ = (k : Rat) := by
  unfold val
  exact Rat.mkRat_self (k : Rat)
theorem Sm.inv {k : Nat} (h0 : 1 ≤ k) (h1 : k ≤ 1000000) : Sm (k : Rat)⁻¹ := by
  unfold Sm
  rw [Rat.num_inv, Rat.den_inv, Rat.num_natCast, Rat.den_natCast, if_neg (by omega)]
  rw [Int.sign_eq_one_of_pos (by omega)]
  omega
set_option maxRecDepth 100000 in
set_option maxHeartbeats 4000000 in
theorem div_q (a : Rq) (k : Nat) (w : World) (hA : okQ a = true) (h0 : 1 ≤ k) (h1 : k ≤ 1000000) (sa : Sm (val a)) : Calls Try.prog 75 #[rqv a, rqv ⟨(k : Int), 1⟩] w fun e w' => e = .returned (.tuple #[rqv (cq (val a / (k : Rat))), .int .i64 0]) ∧ Below w.heap.size w w' := by
  obtain ⟨b, hb⟩ : ∃ b : Rq, b = ⟨(k : Int), 1⟩ := ⟨_, rfl⟩
  have hB : okQ b = true := by rw [hb]; exact okQ_int h1
  have CC := fun w => mul_q a ⟨1, (k : Int)⟩ w hA (okQ_one h0 h1) sa (by rw [val_one h0]; exact Sm.inv h0 h1) (by
    rw [val_one h0, Rat.num_inv, Rat.num_natCast, Rat.den_natCast, Int.sign_eq_one_of_pos (by omega)]
    have := sa.1
    rw [show ((1 : Int) * ((1 : Nat) : Int)).natAbs = 1 from rfl, Nat.mul_one]
    omega)
  rw [val_one h0, ← Rat.div_def] at CC
  obtain ⟨Q, hQ⟩ : ∃ Q, Q = cq (val a / (k : Rat)) := ⟨_, rfl⟩
  rw [← hQ] at CC ⊢
  have HQ := Kept.mk hQ
  clear hQ
  have hk : ((k : Int) == 0) = false := beq_false_of_ne (by omega)
  have hk2 : ¬ (k : Int) < 0 := by omega
  have hk3 : ¬ (k : Int) = 0 := by omega
  rw [← hb]
  obtain ⟨bn, bd⟩ := b
  injection hb with e1 e2
  subst e1 e2
  obtain ⟨a0, a1⟩ := okQ_R64 hA
  obtain ⟨b0, b1⟩ := okQ_R64 hB
  have V1 := fun w => valid_c a w a0.1 a0.2 a1.1 a1.2
  have V2 := fun w => valid_c ⟨(k : Int), 1⟩ w b0.1 b0.2 b1.1 b1.2
  unfold rqv at V1 V2 CC ⊢
  dsimp only at V2 CC b0 b1 ⊢
  go_enter Try.func75, Try.ntmps75
  go_upto_region 1 with fail
  obtain ⟨X, hX, HX⟩ : ∃ X, X = ((w.alloc (.cells #[.int .i64 a.n, .int .i64 a.d] 32)).alloc (.cells #[.int .i64 (k : Int), .int .i64 1] 32)).alloc (.cells #[.int .i64 0, .int .i64 0] 32) ∧ Kept (A2 w X a ⟨(k : Int), 1⟩) := ⟨_, rfl, ⟨A2.start w a ⟨(k : Int), 1⟩⟩⟩
  rw [← hX]
  clear hX
  obtain ⟨⟨k0, k1⟩, m0, m1⟩ := HX.out.cells
  dsimp only at m0 m1
  have tok1 : True := trivial
  go_upto_region 3 with (first | (go_at_call 22; have _t := tok1; refine (V1 _).mono ?_; rintro e w1 ⟨rfl, hb1⟩; rw [hA]; have HX1 := Kept.mk (HX.out.new_ hb1); clear hb1 tok1 _t k0 k1 m0 m1; obtain ⟨⟨k0, k1⟩, m0, m1⟩ := HX1.out.cells; dsimp only at m0 m1; have tok3 : True := trivial) | (go_at_call 22; have _t := tok3; refine (V2 _).mono ?_; rintro e w2 ⟨rfl, hb2⟩; rw [hB]; have HX2 := Kept.mk (HX1.out.new_ hb2); clear hb2 tok3 _t k0 k1 m0 m1; obtain ⟨⟨k0, k1⟩, m0, m1⟩ := HX2.out.cells; dsimp only at m0 m1))
  have z0 := HX2.out.z.cell 0 (v := .int .i64 0) rfl
  have z1 := HX2.out.z.cell 1 (v := .int .i64 0) rfl
  have zf0 := HX2.out.z.free 0
  have zf1 := HX2.out.z.free 1
  have lz := HX2.out.z.lt
  go_wp2_with (go_at_call 8; refine (CC _).mono ?_; rintro e w6 ⟨rfl, hb6⟩; have HU6 := Kept.mk (HX2.out.new_ hb6); clear z0 z1 zf0 zf1 lz k0 k1 m0 m1; have z0 := HU6.out.z.cell 0 (v := .int .i64 0) rfl; have z1 := HU6.out.z.cell 1 (v := .int .i64 0) rfl; have zf0 := HU6.out.z.free 0; have zf1 := HU6.out.z.free 1; have lz := HU6.out.z.lt)
  obtain ⟨W9, hW9, s0, s1, hb⟩ := HU6.out.fin (.int .i64 Q.n) (.int .i64 Q.d)
  rw [← hW9]
  clear hW9
  exact bodyPost_ret (v := .tuple #[.agg #[.int .i64 Q.n, .int .i64 Q.d], .int .i64 0]) (by simp [results, Try.results75, go_sem, s0, s1]) rfl ⟨rfl, hb⟩
end Go.Proofs.Ytjalegdfofogcaa
