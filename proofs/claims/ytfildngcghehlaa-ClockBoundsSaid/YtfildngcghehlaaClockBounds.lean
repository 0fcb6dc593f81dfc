/- For all numbers the statement ClockBounds returns true: the bounds are those of the reference, or the error. No condition. -/
import Derived.Test.YtfildngcghehlaaBase
import Derived.Test.YtfildngcghehlaaWalksB
namespace Go.Proofs.Ytfildngcghehlaa
open Go.ChangeShapes Go.WideShapes Go.ChangeAt Go.RowKit
set_option linter.unusedVariables false
set_option maxHeartbeats 4000000 in
theorem walkClockBounds (x y : Int) (w : World) (_ : (Lit.int .i64 x).wf = true) (_ : (Lit.int .i64 y).wf = true) :
    Calls Try.prog 7 #[.int .i64 x, .int .i64 y] w fun e w' => e = .returned (.bool true) ∧ Below w.heap.size w w' := by
  by_cases h1 : insideB x 1073741824 = true
  · by_cases h2 : insideB y 100000 = true
    · obtain ⟨t1, t2⟩ := inside_iff.1 h1
      obtain ⟨p1, p2⟩ := inside_iff.1 h2
      have e1 : bLow x y = lowI x y := by simp [bLow, boundsB, h1, h2]
      have e2 : bHigh x y = highI x y := by simp [bHigh, boundsB, h1, h2]
      have e3 : bErr x y = 0 := by simp [bErr, boundsB, h1, h2]
      have e4 : lowI x y ≤ highI x y := Int.le_trans (low_bd t1 p1).2 (high_bd t1 p1 p2).1
      go_enter Try.func7, Try.ntmps7; go_wp2_with (first
        | (go_at_call 9; refine (awake_c _).mono ?_; rintro e w9 ⟨rfl, hb9⟩)
        | (go_at_call 14; refine (ticks_c _ _).mono ?_; rintro e w14 ⟨rfl, rfl⟩)
        | (go_at_call 18; refine (parts_c _ _).mono ?_; rintro e w18 ⟨rfl, rfl⟩)
        | (go_at_call 20; refine (bounds_c _ _ _).mono ?_; rintro e w20 ⟨rfl, rfl⟩)
        | (go_at_call 21; refine (refLow_c _ _ _ t1 t2 p1 p2).mono ?_; rintro e w21 ⟨rfl, rfl⟩)
        | (go_at_call 22; refine (refHigh_c _ _ _ t1 t2 p1 p2).mono ?_; rintro e w22 ⟨rfl, rfl⟩)); all_goals go_ret; all_goals exact ⟨by first | rfl | exact ret_bool (by simp <;> omega), by go_grown⟩
    · have h2 : insideB y 100000 = false := by simpa using h2
      have e1 : bLow x y = 0 := by simp [bLow, boundsB, h2]
      have e2 : bHigh x y = 0 := by simp [bHigh, boundsB, h2]
      have e3 : bErr x y = 2 := by simp [bErr, boundsB, h2]
      go_enter Try.func7, Try.ntmps7; go_wp2_with (first
        | (go_at_call 9; refine (awake_c _).mono ?_; rintro e w9 ⟨rfl, hb9⟩)
        | (go_at_call 14; refine (ticks_c _ _).mono ?_; rintro e w14 ⟨rfl, rfl⟩)
        | (go_at_call 18; refine (parts_c _ _).mono ?_; rintro e w18 ⟨rfl, rfl⟩)
        | (go_at_call 20; refine (bounds_c _ _ _).mono ?_; rintro e w20 ⟨rfl, rfl⟩)); all_goals go_ret; all_goals exact ⟨by first | rfl | exact ret_bool (by simp <;> omega), by go_grown⟩
  · have h1 : insideB x 1073741824 = false := by simpa using h1
    have e1 : bLow x y = 0 := by simp [bLow, boundsB, h1]
    have e2 : bHigh x y = 0 := by simp [bHigh, boundsB, h1]
    have e3 : bErr x y = 2 := by simp [bErr, boundsB, h1]
    go_enter Try.func7, Try.ntmps7; go_wp2_with (first
        | (go_at_call 9; refine (awake_c _).mono ?_; rintro e w9 ⟨rfl, hb9⟩)
        | (go_at_call 14; refine (ticks_c _ _).mono ?_; rintro e w14 ⟨rfl, rfl⟩)
        | (go_at_call 18; refine (parts_c _ _).mono ?_; rintro e w18 ⟨rfl, rfl⟩)
        | (go_at_call 20; refine (bounds_c _ _ _).mono ?_; rintro e w20 ⟨rfl, rfl⟩)); all_goals go_ret; all_goals exact ⟨by first | rfl | exact ret_bool (by simp <;> omega), by go_grown⟩
set_option maxRecDepth 100000 in
theorem liftedClockBounds (os : Os) (started : os.Started) (H : Type) (enc : TypeId × Value → H) :
    ReturnsInHanded {} Try.checked os 7 .any (Rows.clockBoundsSpec.pre6 enc Try.prog Try.f7 Rows.clockBoundsRow.domain false) (Rows.clockBoundsSpec.post enc Try.prog Try.f7 false true false false) := by
  refine returnsInHanded_of_change (C := Try.checked) own started (by kernel_rfl) Try.func7
    (ChangeSpec.witness6 (enc := enc) (C := Try.checked) false ⟨#[], #[.int .i64 0, .int .i64 0], []⟩ 8 (by kernel_rfl) (by kernel_rfl) (by kernel_rfl) (by kernel_rfl)) ?_
  intro W base args ds gs before hval0 hW hcnd _
  have hval : ∀ (j : Nat) t v, Try.f7.params[j]? = some t → args[j]? = some v → Value.okWide Try.prog W .any base t v := hval0
  have hW' := hW
  obtain ⟨p, q, hA0, hV, rfl, hfz, hnd⟩ := hW
  have hA : DataW.TrodAll enc Try.prog W 0 (fun _ => true) true Try.f7.params.toList args.toList ds p := hA0
  rw [Try.params7] at hA hval
  obtain ⟨v0, vs0, d0, ds0, p0, q0, hargs, rfl, rfl, h0, r0⟩ := trodAll_cons hA
  obtain ⟨v1, vs1, d1, ds1, p1, q1, rfl, rfl, rfl, h1, r1⟩ := trodAll_cons r0
  obtain ⟨rfl, rfl, rfl⟩ := trodAll_nil r1
  obtain rfl : args = #[v0, v1] := by cases args; simp_all
  obtain ⟨rfl, rfl⟩ := trodVars_none hV
  have k0 := h0
  have lt0 : ∀ x ∈ p0, x.block < W.heap.size := by obtain ⟨m, hm⟩ := k0; exact DataW.trod_lt m _ _ _ hm
  have k1 := h1
  have lt1 : ∀ x ∈ p1, x.block < W.heap.size := by obtain ⟨m, hm⟩ := k1; exact DataW.trod_lt m _ _ _ hm
  obtain ⟨a0, rfl, -, -, w0⟩ := open_int Try.underlying3 (hval 0 3 v0 rfl rfl) h0
  obtain ⟨a1, rfl, -, -, w1⟩ := open_int Try.underlying3 (hval 1 3 v1 rfl rfl) h1
  clear hA0 hval0
  refine (walkClockBounds a0 a1 W w0 w1).mono fun e W' ⟨he, bel⟩ => ?_
  subst he
  exact ⟨_, rfl, _, _, _, [], _, [], hW', trodAll_mk1 (shut_bool Try.underlying4 _), (trodAll_cons_mk (Below.trod laidOut (by kernel_rfl) (of_decide_eq_true (by kernel_rfl)) k0 bel lt0) (trodAll_cons_mk (Below.trod laidOut (by kernel_rfl) (of_decide_eq_true (by kernel_rfl)) k1 bel lt1) trodAll_mk0)), rfl, bel.frame _, fun h => by cases h⟩
/-- The given statement. -/
theorem clockBounds_holds : Rows.ClockBoundsSaid :=
  OpenClaim.holds_of_wide 7 Try.f7 rfl rfl rfl rfl rfl rfl rfl ⟨rfl, rfl, rfl, rfl, rfl⟩ rfl rfl rfl rfl rfl (by kernel_rfl) Try.func7 (by kernel_rfl)
    (of_decide_eq_true (by kernel_rfl)) (by unfold Func.isWrapper; first | (rw [if_pos (by decide +kernel)]; kernel_rfl) | (rw [if_neg (by decide +kernel)]; exact ⟨rfl, rfl⟩))
    (fun os started H enc _ => liftedClockBounds os started H enc)
#print axioms clockBounds_holds
end Go.Proofs.Ytfildngcghehlaa
