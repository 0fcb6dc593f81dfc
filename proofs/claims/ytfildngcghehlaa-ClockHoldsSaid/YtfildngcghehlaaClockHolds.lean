/- For every clock and all numbers the statement ClockHolds returns true: the true time between two readings is within the bounds. No condition. -/
import Derived.Test.YtfildngcghehlaaBase
import Derived.Test.YtfildngcghehlaaWalksB
namespace Go.Proofs.Ytfildngcghehlaa
open Go.ChangeShapes Go.WideShapes Go.ChangeAt Go.RowKit
set_option linter.unusedVariables false
set_option maxHeartbeats 4000000 in
theorem walkClockHolds (s n d x y z : Int) (w : World) (_ : (Lit.int .i64 s).wf = true) (_ : (Lit.int .i64 n).wf = true) (_ : (Lit.int .i64 d).wf = true) (_ : (Lit.int .i64 x).wf = true) (_ : (Lit.int .i64 y).wf = true) (_ : (Lit.int .i64 z).wf = true) :
    Calls Try.prog 8 #[.agg #[.int .i64 s, .int .i64 n, .int .i64 d], .int .i64 x, .int .i64 y, .int .i64 z] w fun e w' => e = .returned (.bool true) ∧ Below w.heap.size w w' := by
  by_cases hv : withinB s n d x = true
  · by_cases hi : insideB y 1073741824 = true
    · obtain ⟨t1, t2⟩ := inside_iff.1 hi
      by_cases hz : 0 ≤ z
      · by_cases hz2 : z ≤ 268435456
        · by_cases hi' : insideB (y + z) 1073741824 = true
          · obtain ⟨hv1, ⟨p1, p2⟩, n1, n2⟩ := within_iff.1 hv
            obtain ⟨b1, b2, b3, b4, b5, b6, b7, b8⟩ := valid_iff.1 hv1
            have e1 : showV s n d y = s + y * n / d := by simp [showV, hv1, hi]
            have e2 : showE s n d y = 0 := by simp [showE, hv1, hi]
            have e3 : showV s n d (y + z) = s + (y + z) * n / d := by simp [showV, hv1, hi']
            have e4 : showE s n d (y + z) = 0 := by simp [showE, hv1, hi']
            have hh := holds_bd (f := y) b1 b3 hz p1 p2 n1 n2
            obtain ⟨u1, u2, u3⟩ := hh
            have m := mul_bd t1 t2 (b := n) (by omega) b2
            have q := div_bd m.1 m.2 b3
            have m' := mul_bd (a := y + z) (A := 1073741824) (by omega) (inside_iff.1 hi').2 (b := n) (by omega) b2
            have q' := div_bd m'.1 m'.2 b3
            have q1 := q.1
            have q2 := q.2
            have q1' := q'.1
            have q2' := q'.2
            have es : s + (y + z) * n / d - (s + y * n / d) = (y + z) * n / d - y * n / d := by omega
            have el : (y + z) * n / d - y * n / d ≤ 2 * z + 1 := by
              have a1 := div_spec ((y + z) * n) d b3
              have a2 := div_spec (y * n) d b3
              have a3 : (y + z) * n = y * n + z * n := Int.add_mul _ _ _
              have a4 : z * n ≤ z * (2 * d) := Int.mul_le_mul_of_nonneg_left b6 hz
              have a5 : z * (2 * d) = 2 * z * d := by rw [Int.mul_comm 2 d, ← Int.mul_assoc, Int.mul_comm _ 2, Int.mul_assoc]
              generalize (y + z) * n / d = r2 at *
              generalize y * n / d = r1 at *
              have a6 : (r2 - r1) * d < (2 * z + 2) * d := by rw [Int.sub_mul, Int.add_mul]; omega
              have := Int.lt_of_mul_lt_mul_right a6 (by omega)
              omega
            have hin : insideB ((y + z) * n / d - y * n / d) 1073741824 = true := inside_iff.2 ⟨u3, by omega⟩
            have hip : insideB x 100000 = true := inside_iff.2 ⟨p1, p2⟩
            have g1 : bLow ((y + z) * n / d - y * n / d) x ≤ z := by simpa [bLow, boundsB, hin, hip] using u1
            have g2 : z ≤ bHigh ((y + z) * n / d - y * n / d) x := by simpa [bHigh, boundsB, hin, hip] using u2
            have g3 : bErr ((y + z) * n / d - y * n / d) x = 0 := by simp [bErr, boundsB, hin, hip]
            clear m q m' q' u1 u2 u3 n1 n2 el hin hip
            go_enter Try.func8, Try.ntmps8; go_wp2_with (first
        | (go_at_call 9; refine (awake_c _).mono ?_; rintro e w9 ⟨rfl, hb9⟩; obtain ⟨hc9, hf9⟩ := bcell hb9; have hz9 := lt1 (w := w) (by first | assumption | simp) hb9; have hj9 := join (w := w) (by go_grown) hb9; clear hb9)
        | (go_at_call 10; refine (valid_c _ _ _ _).mono ?_; rintro e w10 ⟨rfl, hb10⟩; obtain ⟨hc10, hf10⟩ := bcell hb10; have hz10 := lt1 (w := w) (by first | assumption | simp) hb10; have hj10 := join (w := w) (by go_grown) hb10; clear hb10)
        | (go_at_call 11; refine (lawValid_c _ _ _ _).mono ?_; rintro e w11 ⟨rfl, hb11⟩; obtain ⟨hc11, hf11⟩ := bcell hb11; have hz11 := lt1 (w := w) (by first | assumption | simp) hb11; have hj11 := join (w := w) (by go_grown) hb11; clear hb11)
        | (go_at_call 12; refine (show_c _ _ _ _ _).mono ?_; rintro e w12 ⟨rfl, hb12⟩; obtain ⟨hc12, hf12⟩ := bcell hb12; have hz12 := lt1 (w := w) (by first | assumption | simp) hb12; have hj12 := join (w := w) (by go_grown) hb12; clear hb12)
        | (go_at_call 13; refine (first_c _ _ _ _ _).mono ?_; rintro e w13 ⟨rfl, hb13⟩; obtain ⟨hc13, hf13⟩ := bcell hb13; have hz13 := lt1 (w := w) (by first | assumption | simp) hb13; have hj13 := join (w := w) (by go_grown) hb13; clear hb13)
        | (go_at_call 17; refine (within_c _ _ _ _ _).mono ?_; rintro e w17 ⟨rfl, hb17⟩; obtain ⟨hc17, hf17⟩ := bcell hb17; have hz17 := lt1 (w := w) (by first | assumption | simp) hb17; have hj17 := join (w := w) (by go_grown) hb17; clear hb17)
        | (go_at_call 14; refine (ticks_c _ _).mono ?_; rintro e w14 ⟨rfl, rfl⟩)
        | (go_at_call 18; refine (parts_c _ _).mono ?_; rintro e w18 ⟨rfl, rfl⟩)
        | (go_at_call 20; refine (bounds_c _ _ _).mono ?_; rintro e w20 ⟨rfl, rfl⟩)); all_goals go_ret; all_goals exact ⟨by first | rfl | exact ret_bool (by simp <;> omega), by go_grown⟩
          · have hi' : insideB (y + z) 1073741824 = false := by simpa using hi'
            go_enter Try.func8, Try.ntmps8; go_wp2_with (first
        | (go_at_call 9; refine (awake_c _).mono ?_; rintro e w9 ⟨rfl, hb9⟩; obtain ⟨hc9, hf9⟩ := bcell hb9; have hz9 := lt1 (w := w) (by first | assumption | simp) hb9; have hj9 := join (w := w) (by go_grown) hb9; clear hb9)
        | (go_at_call 10; refine (valid_c _ _ _ _).mono ?_; rintro e w10 ⟨rfl, hb10⟩; obtain ⟨hc10, hf10⟩ := bcell hb10; have hz10 := lt1 (w := w) (by first | assumption | simp) hb10; have hj10 := join (w := w) (by go_grown) hb10; clear hb10)
        | (go_at_call 11; refine (lawValid_c _ _ _ _).mono ?_; rintro e w11 ⟨rfl, hb11⟩; obtain ⟨hc11, hf11⟩ := bcell hb11; have hz11 := lt1 (w := w) (by first | assumption | simp) hb11; have hj11 := join (w := w) (by go_grown) hb11; clear hb11)
        | (go_at_call 12; refine (show_c _ _ _ _ _).mono ?_; rintro e w12 ⟨rfl, hb12⟩; obtain ⟨hc12, hf12⟩ := bcell hb12; have hz12 := lt1 (w := w) (by first | assumption | simp) hb12; have hj12 := join (w := w) (by go_grown) hb12; clear hb12)
        | (go_at_call 13; refine (first_c _ _ _ _ _).mono ?_; rintro e w13 ⟨rfl, hb13⟩; obtain ⟨hc13, hf13⟩ := bcell hb13; have hz13 := lt1 (w := w) (by first | assumption | simp) hb13; have hj13 := join (w := w) (by go_grown) hb13; clear hb13)
        | (go_at_call 17; refine (within_c _ _ _ _ _).mono ?_; rintro e w17 ⟨rfl, hb17⟩; obtain ⟨hc17, hf17⟩ := bcell hb17; have hz17 := lt1 (w := w) (by first | assumption | simp) hb17; have hj17 := join (w := w) (by go_grown) hb17; clear hb17)
        | (go_at_call 14; refine (ticks_c _ _).mono ?_; rintro e w14 ⟨rfl, rfl⟩)
        | (go_at_call 18; refine (parts_c _ _).mono ?_; rintro e w18 ⟨rfl, rfl⟩)
        | (go_at_call 20; refine (bounds_c _ _ _).mono ?_; rintro e w20 ⟨rfl, rfl⟩)); all_goals go_ret; all_goals exact ⟨by first | rfl | exact ret_bool (by simp <;> omega), by go_grown⟩
        · go_enter Try.func8, Try.ntmps8; go_wp2_with (first
        | (go_at_call 9; refine (awake_c _).mono ?_; rintro e w9 ⟨rfl, hb9⟩; obtain ⟨hc9, hf9⟩ := bcell hb9; have hz9 := lt1 (w := w) (by first | assumption | simp) hb9; have hj9 := join (w := w) (by go_grown) hb9; clear hb9)
        | (go_at_call 10; refine (valid_c _ _ _ _).mono ?_; rintro e w10 ⟨rfl, hb10⟩; obtain ⟨hc10, hf10⟩ := bcell hb10; have hz10 := lt1 (w := w) (by first | assumption | simp) hb10; have hj10 := join (w := w) (by go_grown) hb10; clear hb10)
        | (go_at_call 11; refine (lawValid_c _ _ _ _).mono ?_; rintro e w11 ⟨rfl, hb11⟩; obtain ⟨hc11, hf11⟩ := bcell hb11; have hz11 := lt1 (w := w) (by first | assumption | simp) hb11; have hj11 := join (w := w) (by go_grown) hb11; clear hb11)
        | (go_at_call 12; refine (show_c _ _ _ _ _).mono ?_; rintro e w12 ⟨rfl, hb12⟩; obtain ⟨hc12, hf12⟩ := bcell hb12; have hz12 := lt1 (w := w) (by first | assumption | simp) hb12; have hj12 := join (w := w) (by go_grown) hb12; clear hb12)
        | (go_at_call 13; refine (first_c _ _ _ _ _).mono ?_; rintro e w13 ⟨rfl, hb13⟩; obtain ⟨hc13, hf13⟩ := bcell hb13; have hz13 := lt1 (w := w) (by first | assumption | simp) hb13; have hj13 := join (w := w) (by go_grown) hb13; clear hb13)
        | (go_at_call 17; refine (within_c _ _ _ _ _).mono ?_; rintro e w17 ⟨rfl, hb17⟩; obtain ⟨hc17, hf17⟩ := bcell hb17; have hz17 := lt1 (w := w) (by first | assumption | simp) hb17; have hj17 := join (w := w) (by go_grown) hb17; clear hb17)
        | (go_at_call 14; refine (ticks_c _ _).mono ?_; rintro e w14 ⟨rfl, rfl⟩)
        | (go_at_call 18; refine (parts_c _ _).mono ?_; rintro e w18 ⟨rfl, rfl⟩)
        | (go_at_call 20; refine (bounds_c _ _ _).mono ?_; rintro e w20 ⟨rfl, rfl⟩)); all_goals go_ret; all_goals exact ⟨by first | rfl | exact ret_bool (by simp <;> omega), by go_grown⟩
      · go_enter Try.func8, Try.ntmps8; go_wp2_with (first
        | (go_at_call 9; refine (awake_c _).mono ?_; rintro e w9 ⟨rfl, hb9⟩; obtain ⟨hc9, hf9⟩ := bcell hb9; have hz9 := lt1 (w := w) (by first | assumption | simp) hb9; have hj9 := join (w := w) (by go_grown) hb9; clear hb9)
        | (go_at_call 10; refine (valid_c _ _ _ _).mono ?_; rintro e w10 ⟨rfl, hb10⟩; obtain ⟨hc10, hf10⟩ := bcell hb10; have hz10 := lt1 (w := w) (by first | assumption | simp) hb10; have hj10 := join (w := w) (by go_grown) hb10; clear hb10)
        | (go_at_call 11; refine (lawValid_c _ _ _ _).mono ?_; rintro e w11 ⟨rfl, hb11⟩; obtain ⟨hc11, hf11⟩ := bcell hb11; have hz11 := lt1 (w := w) (by first | assumption | simp) hb11; have hj11 := join (w := w) (by go_grown) hb11; clear hb11)
        | (go_at_call 12; refine (show_c _ _ _ _ _).mono ?_; rintro e w12 ⟨rfl, hb12⟩; obtain ⟨hc12, hf12⟩ := bcell hb12; have hz12 := lt1 (w := w) (by first | assumption | simp) hb12; have hj12 := join (w := w) (by go_grown) hb12; clear hb12)
        | (go_at_call 13; refine (first_c _ _ _ _ _).mono ?_; rintro e w13 ⟨rfl, hb13⟩; obtain ⟨hc13, hf13⟩ := bcell hb13; have hz13 := lt1 (w := w) (by first | assumption | simp) hb13; have hj13 := join (w := w) (by go_grown) hb13; clear hb13)
        | (go_at_call 17; refine (within_c _ _ _ _ _).mono ?_; rintro e w17 ⟨rfl, hb17⟩; obtain ⟨hc17, hf17⟩ := bcell hb17; have hz17 := lt1 (w := w) (by first | assumption | simp) hb17; have hj17 := join (w := w) (by go_grown) hb17; clear hb17)
        | (go_at_call 14; refine (ticks_c _ _).mono ?_; rintro e w14 ⟨rfl, rfl⟩)
        | (go_at_call 18; refine (parts_c _ _).mono ?_; rintro e w18 ⟨rfl, rfl⟩)
        | (go_at_call 20; refine (bounds_c _ _ _).mono ?_; rintro e w20 ⟨rfl, rfl⟩)); all_goals go_ret; all_goals exact ⟨by first | rfl | exact ret_bool (by simp <;> omega), by go_grown⟩
    · have hi : insideB y 1073741824 = false := by simpa using hi
      go_enter Try.func8, Try.ntmps8; go_wp2_with (first
        | (go_at_call 9; refine (awake_c _).mono ?_; rintro e w9 ⟨rfl, hb9⟩; obtain ⟨hc9, hf9⟩ := bcell hb9; have hz9 := lt1 (w := w) (by first | assumption | simp) hb9; have hj9 := join (w := w) (by go_grown) hb9; clear hb9)
        | (go_at_call 10; refine (valid_c _ _ _ _).mono ?_; rintro e w10 ⟨rfl, hb10⟩; obtain ⟨hc10, hf10⟩ := bcell hb10; have hz10 := lt1 (w := w) (by first | assumption | simp) hb10; have hj10 := join (w := w) (by go_grown) hb10; clear hb10)
        | (go_at_call 11; refine (lawValid_c _ _ _ _).mono ?_; rintro e w11 ⟨rfl, hb11⟩; obtain ⟨hc11, hf11⟩ := bcell hb11; have hz11 := lt1 (w := w) (by first | assumption | simp) hb11; have hj11 := join (w := w) (by go_grown) hb11; clear hb11)
        | (go_at_call 12; refine (show_c _ _ _ _ _).mono ?_; rintro e w12 ⟨rfl, hb12⟩; obtain ⟨hc12, hf12⟩ := bcell hb12; have hz12 := lt1 (w := w) (by first | assumption | simp) hb12; have hj12 := join (w := w) (by go_grown) hb12; clear hb12)
        | (go_at_call 13; refine (first_c _ _ _ _ _).mono ?_; rintro e w13 ⟨rfl, hb13⟩; obtain ⟨hc13, hf13⟩ := bcell hb13; have hz13 := lt1 (w := w) (by first | assumption | simp) hb13; have hj13 := join (w := w) (by go_grown) hb13; clear hb13)
        | (go_at_call 17; refine (within_c _ _ _ _ _).mono ?_; rintro e w17 ⟨rfl, hb17⟩; obtain ⟨hc17, hf17⟩ := bcell hb17; have hz17 := lt1 (w := w) (by first | assumption | simp) hb17; have hj17 := join (w := w) (by go_grown) hb17; clear hb17)
        | (go_at_call 14; refine (ticks_c _ _).mono ?_; rintro e w14 ⟨rfl, rfl⟩)
        | (go_at_call 18; refine (parts_c _ _).mono ?_; rintro e w18 ⟨rfl, rfl⟩)
        | (go_at_call 20; refine (bounds_c _ _ _).mono ?_; rintro e w20 ⟨rfl, rfl⟩)); all_goals go_ret; all_goals exact ⟨by first | rfl | exact ret_bool (by simp <;> omega), by go_grown⟩
  · have hv : withinB s n d x = false := by simpa using hv
    go_enter Try.func8, Try.ntmps8; go_wp2_with (first
        | (go_at_call 9; refine (awake_c _).mono ?_; rintro e w9 ⟨rfl, hb9⟩; obtain ⟨hc9, hf9⟩ := bcell hb9; have hz9 := lt1 (w := w) (by first | assumption | simp) hb9; have hj9 := join (w := w) (by go_grown) hb9; clear hb9)
        | (go_at_call 10; refine (valid_c _ _ _ _).mono ?_; rintro e w10 ⟨rfl, hb10⟩; obtain ⟨hc10, hf10⟩ := bcell hb10; have hz10 := lt1 (w := w) (by first | assumption | simp) hb10; have hj10 := join (w := w) (by go_grown) hb10; clear hb10)
        | (go_at_call 11; refine (lawValid_c _ _ _ _).mono ?_; rintro e w11 ⟨rfl, hb11⟩; obtain ⟨hc11, hf11⟩ := bcell hb11; have hz11 := lt1 (w := w) (by first | assumption | simp) hb11; have hj11 := join (w := w) (by go_grown) hb11; clear hb11)
        | (go_at_call 12; refine (show_c _ _ _ _ _).mono ?_; rintro e w12 ⟨rfl, hb12⟩; obtain ⟨hc12, hf12⟩ := bcell hb12; have hz12 := lt1 (w := w) (by first | assumption | simp) hb12; have hj12 := join (w := w) (by go_grown) hb12; clear hb12)
        | (go_at_call 13; refine (first_c _ _ _ _ _).mono ?_; rintro e w13 ⟨rfl, hb13⟩; obtain ⟨hc13, hf13⟩ := bcell hb13; have hz13 := lt1 (w := w) (by first | assumption | simp) hb13; have hj13 := join (w := w) (by go_grown) hb13; clear hb13)
        | (go_at_call 17; refine (within_c _ _ _ _ _).mono ?_; rintro e w17 ⟨rfl, hb17⟩; obtain ⟨hc17, hf17⟩ := bcell hb17; have hz17 := lt1 (w := w) (by first | assumption | simp) hb17; have hj17 := join (w := w) (by go_grown) hb17; clear hb17)
        | (go_at_call 14; refine (ticks_c _ _).mono ?_; rintro e w14 ⟨rfl, rfl⟩)
        | (go_at_call 18; refine (parts_c _ _).mono ?_; rintro e w18 ⟨rfl, rfl⟩)
        | (go_at_call 20; refine (bounds_c _ _ _).mono ?_; rintro e w20 ⟨rfl, rfl⟩)); all_goals go_ret; all_goals exact ⟨by first | rfl | exact ret_bool (by simp <;> omega), by go_grown⟩
set_option maxRecDepth 100000 in
theorem liftedClockHolds (os : Os) (started : os.Started) (H : Type) (enc : TypeId × Value → H) :
    ReturnsInHanded {} Try.checked os 8 .any (Rows.clockHoldsSpec.pre6 enc Try.prog Try.f8 Rows.clockHoldsRow.domain false) (Rows.clockHoldsSpec.post enc Try.prog Try.f8 false true false false) := by
  refine returnsInHanded_of_change (C := Try.checked) own started (by kernel_rfl) Try.func8
    (ChangeSpec.witness6 (enc := enc) (C := Try.checked) false ⟨#[], #[.agg #[.int .i64 0, .int .i64 0, .int .i64 0], .int .i64 0, .int .i64 0, .int .i64 0], []⟩ 8 (by kernel_rfl) (by kernel_rfl) (by kernel_rfl) (by kernel_rfl)) ?_
  intro W base args ds gs before hval0 hW hcnd _
  have hval : ∀ (j : Nat) t v, Try.f8.params[j]? = some t → args[j]? = some v → Value.okWide Try.prog W .any base t v := hval0
  have hW' := hW
  obtain ⟨p, q, hA0, hV, rfl, hfz, hnd⟩ := hW
  have hA : DataW.TrodAll enc Try.prog W 0 (fun _ => true) true Try.f8.params.toList args.toList ds p := hA0
  rw [Try.params8] at hA hval
  obtain ⟨v0, vs0, d0, ds0, p0, q0, hargs, rfl, rfl, h0, r0⟩ := trodAll_cons hA
  obtain ⟨v1, vs1, d1, ds1, p1, q1, rfl, rfl, rfl, h1, r1⟩ := trodAll_cons r0
  obtain ⟨v2, vs2, d2, ds2, p2, q2, rfl, rfl, rfl, h2, r2⟩ := trodAll_cons r1
  obtain ⟨v3, vs3, d3, ds3, p3, q3, rfl, rfl, rfl, h3, r3⟩ := trodAll_cons r2
  obtain ⟨rfl, rfl, rfl⟩ := trodAll_nil r3
  obtain rfl : args = #[v0, v1, v2, v3] := by cases args; simp_all
  obtain ⟨rfl, rfl⟩ := trodVars_none hV
  have k0 := h0
  have lt0 : ∀ x ∈ p0, x.block < W.heap.size := by obtain ⟨m, hm⟩ := k0; exact DataW.trod_lt m _ _ _ hm
  have k1 := h1
  have lt1 : ∀ x ∈ p1, x.block < W.heap.size := by obtain ⟨m, hm⟩ := k1; exact DataW.trod_lt m _ _ _ hm
  have k2 := h2
  have lt2 : ∀ x ∈ p2, x.block < W.heap.size := by obtain ⟨m, hm⟩ := k2; exact DataW.trod_lt m _ _ _ hm
  have k3 := h3
  have lt3 : ∀ x ∈ p3, x.block < W.heap.size := by obtain ⟨m, hm⟩ := k3; exact DataW.trod_lt m _ _ _ hm
  obtain ⟨c0_0, c0_1, c0_2, y0_0, y0_1, y0_2, m0, rfl, -, -, hy0_0, hy0_1, hy0_2⟩ := Joins.open_agg3 Try.underlying23 (by kernel_rfl) (show Try.prog.cellsOf 23 = 3 by kernel_rfl) (hval 0 23 v0 rfl rfl) h0
  obtain ⟨a0_0, e0_0, -, w0_0⟩ := DataW.trod_int Try.underlying3 hy0_0
  simp only [List.cons.injEq, and_true] at e0_0; subst e0_0
  obtain ⟨a0_1, e0_1, -, w0_1⟩ := DataW.trod_int Try.underlying3 hy0_1
  simp only [List.cons.injEq, and_true] at e0_1; subst e0_1
  obtain ⟨a0_2, e0_2, -, w0_2⟩ := DataW.trod_int Try.underlying3 hy0_2
  simp only [List.cons.injEq, and_true] at e0_2; subst e0_2
  obtain ⟨a1, rfl, -, -, w1⟩ := open_int Try.underlying3 (hval 1 3 v1 rfl rfl) h1
  obtain ⟨a2, rfl, -, -, w2⟩ := open_int Try.underlying3 (hval 2 3 v2 rfl rfl) h2
  obtain ⟨a3, rfl, -, -, w3⟩ := open_int Try.underlying3 (hval 3 3 v3 rfl rfl) h3
  clear hA0 hval0
  refine (walkClockHolds a0_0 a0_1 a0_2 a1 a2 a3 W w0_0 w0_1 w0_2 w1 w2 w3).mono fun e W' ⟨he, bel⟩ => ?_
  subst he
  exact ⟨_, rfl, _, _, _, [], _, [], hW', trodAll_mk1 (shut_bool Try.underlying4 _), (trodAll_cons_mk (Below.trod laidOut (by kernel_rfl) (of_decide_eq_true (by kernel_rfl)) k0 bel lt0) (trodAll_cons_mk (Below.trod laidOut (by kernel_rfl) (of_decide_eq_true (by kernel_rfl)) k1 bel lt1) (trodAll_cons_mk (Below.trod laidOut (by kernel_rfl) (of_decide_eq_true (by kernel_rfl)) k2 bel lt2) (trodAll_cons_mk (Below.trod laidOut (by kernel_rfl) (of_decide_eq_true (by kernel_rfl)) k3 bel lt3) trodAll_mk0)))), rfl, bel.frame _, fun h => by cases h⟩
/-- The given statement. -/
theorem clockHolds_holds : Rows.ClockHoldsSaid :=
  OpenClaim.holds_of_wide 8 Try.f8 rfl rfl rfl rfl rfl rfl rfl ⟨rfl, rfl, rfl, rfl, rfl⟩ rfl rfl rfl rfl rfl (by kernel_rfl) Try.func8 (by kernel_rfl)
    (of_decide_eq_true (by kernel_rfl)) (by unfold Func.isWrapper; first | (rw [if_pos (by decide +kernel)]; kernel_rfl) | (rw [if_neg (by decide +kernel)]; exact ⟨rfl, rfl⟩))
    (fun os started H enc _ => liftedClockHolds os started H enc)
#print axioms clockHolds_holds
end Go.Proofs.Ytfildngcghehlaa
