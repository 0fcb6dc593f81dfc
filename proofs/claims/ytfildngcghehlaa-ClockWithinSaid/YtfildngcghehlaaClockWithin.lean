/- For every clock and all numbers of parts the statement ClockWithin returns true: whether the drift is within a number of parts is what the reference says. No condition. -/
import Derived.Test.YtfildngcghehlaaBase
import Derived.Test.YtfildngcghehlaaWalksB
namespace Go.Proofs.Ytfildngcghehlaa
open Go.ChangeShapes Go.WideShapes Go.ChangeAt Go.RowKit
set_option linter.unusedVariables false
theorem within_more {s n d p p' : Int} (h : withinB s n d p = true) (hp : p ≤ p') (h2 : insideB p' 100000 = true) : withinB s n d p' = true := by
  rw [within_iff] at h ⊢
  obtain ⟨h1, h3, h4, h5⟩ := h
  have := valid_iff.1 h1
  have : p * d ≤ p' * d := Int.mul_le_mul_of_nonneg_right hp (by omega)
  exact ⟨h1, inside_iff.1 h2, by omega, by omega⟩
set_option maxHeartbeats 4000000 in
theorem walkClockWithin (s n d x y : Int) (w : World) (_ : (Lit.int .i64 s).wf = true) (_ : (Lit.int .i64 n).wf = true) (_ : (Lit.int .i64 d).wf = true) (_ : (Lit.int .i64 x).wf = true) (_ : (Lit.int .i64 y).wf = true) :
    Calls Try.prog 6 #[.agg #[.int .i64 s, .int .i64 n, .int .i64 d], .int .i64 x, .int .i64 y] w fun e w' => e = .returned (.bool true) ∧ Below w.heap.size w w' := by
  by_cases hv : validB s n d = true
  · by_cases hi : insideB x 100000 = true
    · obtain ⟨b1, b2, b3, b4, b5, b6, b7, b8⟩ := valid_iff.1 hv
      obtain ⟨t1, t2⟩ := inside_iff.1 hi
      by_cases hn : nearB n d x = true
      · have hw : withinB s n d x = true := by simp [withinB, hv, hi, hn]
        by_cases hm : insideB y 100000 = true
        · by_cases hl : x ≤ y
          · have hw2 := within_more hw hl hm
            go_enter Try.func6, Try.ntmps6; go_wp2_with (first
        | (go_at_call 9; refine (awake_c _).mono ?_; rintro e w9 ⟨rfl, hb9⟩; obtain ⟨hc9, hf9⟩ := bcell hb9; have hz9 := lt1 (w := w) (by first | assumption | simp) hb9; have hj9 := join (w := w) (by go_grown) hb9; clear hb9)
        | (go_at_call 10; refine (valid_c _ _ _ _).mono ?_; rintro e w10 ⟨rfl, hb10⟩; obtain ⟨hc10, hf10⟩ := bcell hb10; have hz10 := lt1 (w := w) (by first | assumption | simp) hb10; have hj10 := join (w := w) (by go_grown) hb10; clear hb10)
        | (go_at_call 11; refine (lawValid_c _ _ _ _).mono ?_; rintro e w11 ⟨rfl, hb11⟩; obtain ⟨hc11, hf11⟩ := bcell hb11; have hz11 := lt1 (w := w) (by first | assumption | simp) hb11; have hj11 := join (w := w) (by go_grown) hb11; clear hb11)
        | (go_at_call 17; refine (within_c _ _ _ _ _).mono ?_; rintro e w17 ⟨rfl, hb17⟩; obtain ⟨hc17, hf17⟩ := bcell hb17; have hz17 := lt1 (w := w) (by first | assumption | simp) hb17; have hj17 := join (w := w) (by go_grown) hb17; clear hb17)
        | (go_at_call 14; refine (ticks_c _ _).mono ?_; rintro e w14 ⟨rfl, rfl⟩)
        | (go_at_call 18; refine (parts_c _ _).mono ?_; rintro e w18 ⟨rfl, rfl⟩)
        | (go_at_call 19; refine (refWithin_c _ _ _ _ b1 b2 b3 b4 t1 t2).mono ?_; rintro e w19 ⟨rfl, rfl⟩)); all_goals go_ret; all_goals exact ⟨by first | rfl | exact ret_bool (by simp <;> omega), by go_grown⟩
          · go_enter Try.func6, Try.ntmps6; go_wp2_with (first
        | (go_at_call 9; refine (awake_c _).mono ?_; rintro e w9 ⟨rfl, hb9⟩; obtain ⟨hc9, hf9⟩ := bcell hb9; have hz9 := lt1 (w := w) (by first | assumption | simp) hb9; have hj9 := join (w := w) (by go_grown) hb9; clear hb9)
        | (go_at_call 10; refine (valid_c _ _ _ _).mono ?_; rintro e w10 ⟨rfl, hb10⟩; obtain ⟨hc10, hf10⟩ := bcell hb10; have hz10 := lt1 (w := w) (by first | assumption | simp) hb10; have hj10 := join (w := w) (by go_grown) hb10; clear hb10)
        | (go_at_call 11; refine (lawValid_c _ _ _ _).mono ?_; rintro e w11 ⟨rfl, hb11⟩; obtain ⟨hc11, hf11⟩ := bcell hb11; have hz11 := lt1 (w := w) (by first | assumption | simp) hb11; have hj11 := join (w := w) (by go_grown) hb11; clear hb11)
        | (go_at_call 17; refine (within_c _ _ _ _ _).mono ?_; rintro e w17 ⟨rfl, hb17⟩; obtain ⟨hc17, hf17⟩ := bcell hb17; have hz17 := lt1 (w := w) (by first | assumption | simp) hb17; have hj17 := join (w := w) (by go_grown) hb17; clear hb17)
        | (go_at_call 14; refine (ticks_c _ _).mono ?_; rintro e w14 ⟨rfl, rfl⟩)
        | (go_at_call 18; refine (parts_c _ _).mono ?_; rintro e w18 ⟨rfl, rfl⟩)
        | (go_at_call 19; refine (refWithin_c _ _ _ _ b1 b2 b3 b4 t1 t2).mono ?_; rintro e w19 ⟨rfl, rfl⟩)); all_goals go_ret; all_goals exact ⟨by first | rfl | exact ret_bool (by simp <;> omega), by go_grown⟩
        · have hm : insideB y 100000 = false := by simpa using hm
          go_enter Try.func6, Try.ntmps6; go_wp2_with (first
        | (go_at_call 9; refine (awake_c _).mono ?_; rintro e w9 ⟨rfl, hb9⟩; obtain ⟨hc9, hf9⟩ := bcell hb9; have hz9 := lt1 (w := w) (by first | assumption | simp) hb9; have hj9 := join (w := w) (by go_grown) hb9; clear hb9)
        | (go_at_call 10; refine (valid_c _ _ _ _).mono ?_; rintro e w10 ⟨rfl, hb10⟩; obtain ⟨hc10, hf10⟩ := bcell hb10; have hz10 := lt1 (w := w) (by first | assumption | simp) hb10; have hj10 := join (w := w) (by go_grown) hb10; clear hb10)
        | (go_at_call 11; refine (lawValid_c _ _ _ _).mono ?_; rintro e w11 ⟨rfl, hb11⟩; obtain ⟨hc11, hf11⟩ := bcell hb11; have hz11 := lt1 (w := w) (by first | assumption | simp) hb11; have hj11 := join (w := w) (by go_grown) hb11; clear hb11)
        | (go_at_call 17; refine (within_c _ _ _ _ _).mono ?_; rintro e w17 ⟨rfl, hb17⟩; obtain ⟨hc17, hf17⟩ := bcell hb17; have hz17 := lt1 (w := w) (by first | assumption | simp) hb17; have hj17 := join (w := w) (by go_grown) hb17; clear hb17)
        | (go_at_call 14; refine (ticks_c _ _).mono ?_; rintro e w14 ⟨rfl, rfl⟩)
        | (go_at_call 18; refine (parts_c _ _).mono ?_; rintro e w18 ⟨rfl, rfl⟩)
        | (go_at_call 19; refine (refWithin_c _ _ _ _ b1 b2 b3 b4 t1 t2).mono ?_; rintro e w19 ⟨rfl, rfl⟩)); all_goals go_ret; all_goals exact ⟨by first | rfl | exact ret_bool (by simp <;> omega), by go_grown⟩
      · have hn : nearB n d x = false := by simpa using hn
        have hw : withinB s n d x = false := by simp [withinB, hn]
        go_enter Try.func6, Try.ntmps6; go_wp2_with (first
        | (go_at_call 9; refine (awake_c _).mono ?_; rintro e w9 ⟨rfl, hb9⟩; obtain ⟨hc9, hf9⟩ := bcell hb9; have hz9 := lt1 (w := w) (by first | assumption | simp) hb9; have hj9 := join (w := w) (by go_grown) hb9; clear hb9)
        | (go_at_call 10; refine (valid_c _ _ _ _).mono ?_; rintro e w10 ⟨rfl, hb10⟩; obtain ⟨hc10, hf10⟩ := bcell hb10; have hz10 := lt1 (w := w) (by first | assumption | simp) hb10; have hj10 := join (w := w) (by go_grown) hb10; clear hb10)
        | (go_at_call 11; refine (lawValid_c _ _ _ _).mono ?_; rintro e w11 ⟨rfl, hb11⟩; obtain ⟨hc11, hf11⟩ := bcell hb11; have hz11 := lt1 (w := w) (by first | assumption | simp) hb11; have hj11 := join (w := w) (by go_grown) hb11; clear hb11)
        | (go_at_call 17; refine (within_c _ _ _ _ _).mono ?_; rintro e w17 ⟨rfl, hb17⟩; obtain ⟨hc17, hf17⟩ := bcell hb17; have hz17 := lt1 (w := w) (by first | assumption | simp) hb17; have hj17 := join (w := w) (by go_grown) hb17; clear hb17)
        | (go_at_call 14; refine (ticks_c _ _).mono ?_; rintro e w14 ⟨rfl, rfl⟩)
        | (go_at_call 18; refine (parts_c _ _).mono ?_; rintro e w18 ⟨rfl, rfl⟩)
        | (go_at_call 19; refine (refWithin_c _ _ _ _ b1 b2 b3 b4 t1 t2).mono ?_; rintro e w19 ⟨rfl, rfl⟩)); all_goals go_ret; all_goals exact ⟨by first | rfl | exact ret_bool (by simp <;> omega), by go_grown⟩
    · have hi : insideB x 100000 = false := by simpa using hi
      have hw : withinB s n d x = false := by simp [withinB, hi]
      go_enter Try.func6, Try.ntmps6; go_wp2_with (first
        | (go_at_call 9; refine (awake_c _).mono ?_; rintro e w9 ⟨rfl, hb9⟩; obtain ⟨hc9, hf9⟩ := bcell hb9; have hz9 := lt1 (w := w) (by first | assumption | simp) hb9; have hj9 := join (w := w) (by go_grown) hb9; clear hb9)
        | (go_at_call 10; refine (valid_c _ _ _ _).mono ?_; rintro e w10 ⟨rfl, hb10⟩; obtain ⟨hc10, hf10⟩ := bcell hb10; have hz10 := lt1 (w := w) (by first | assumption | simp) hb10; have hj10 := join (w := w) (by go_grown) hb10; clear hb10)
        | (go_at_call 11; refine (lawValid_c _ _ _ _).mono ?_; rintro e w11 ⟨rfl, hb11⟩; obtain ⟨hc11, hf11⟩ := bcell hb11; have hz11 := lt1 (w := w) (by first | assumption | simp) hb11; have hj11 := join (w := w) (by go_grown) hb11; clear hb11)
        | (go_at_call 12; refine (show_c _ _ _ _ _).mono ?_; rintro e w12 ⟨rfl, hb12⟩; obtain ⟨hc12, hf12⟩ := bcell hb12; have hz12 := lt1 (w := w) (by first | assumption | simp) hb12; have hj12 := join (w := w) (by go_grown) hb12; clear hb12)
        | (go_at_call 13; refine (first_c _ _ _ _ _).mono ?_; rintro e w13 ⟨rfl, hb13⟩; obtain ⟨hc13, hf13⟩ := bcell hb13; have hz13 := lt1 (w := w) (by first | assumption | simp) hb13; have hj13 := join (w := w) (by go_grown) hb13; clear hb13)
        | (go_at_call 17; refine (within_c _ _ _ _ _).mono ?_; rintro e w17 ⟨rfl, hb17⟩; obtain ⟨hc17, hf17⟩ := bcell hb17; have hz17 := lt1 (w := w) (by first | assumption | simp) hb17; have hj17 := join (w := w) (by go_grown) hb17; clear hb17)
        | (go_at_call 14; refine (ticks_c _ _).mono ?_; rintro e w14 ⟨rfl, rfl⟩)
        | (go_at_call 18; refine (parts_c _ _).mono ?_; rintro e w18 ⟨rfl, rfl⟩)
        | (go_at_call 20; refine (bounds_c _ _ _).mono ?_; rintro e w20 ⟨rfl, rfl⟩)); all_goals go_ret; all_goals exact ⟨by first | rfl | exact ret_bool (by simp <;> omega), by go_grown⟩
  · have hv : validB s n d = false := by simpa using hv
    have hw : withinB s n d x = false := by simp [withinB, hv]
    go_enter Try.func6, Try.ntmps6; go_wp2_with (first
        | (go_at_call 9; refine (awake_c _).mono ?_; rintro e w9 ⟨rfl, hb9⟩; obtain ⟨hc9, hf9⟩ := bcell hb9; have hz9 := lt1 (w := w) (by first | assumption | simp) hb9; have hj9 := join (w := w) (by go_grown) hb9; clear hb9)
        | (go_at_call 10; refine (valid_c _ _ _ _).mono ?_; rintro e w10 ⟨rfl, hb10⟩; obtain ⟨hc10, hf10⟩ := bcell hb10; have hz10 := lt1 (w := w) (by first | assumption | simp) hb10; have hj10 := join (w := w) (by go_grown) hb10; clear hb10)
        | (go_at_call 11; refine (lawValid_c _ _ _ _).mono ?_; rintro e w11 ⟨rfl, hb11⟩; obtain ⟨hc11, hf11⟩ := bcell hb11; have hz11 := lt1 (w := w) (by first | assumption | simp) hb11; have hj11 := join (w := w) (by go_grown) hb11; clear hb11)
        | (go_at_call 12; refine (show_c _ _ _ _ _).mono ?_; rintro e w12 ⟨rfl, hb12⟩; obtain ⟨hc12, hf12⟩ := bcell hb12; have hz12 := lt1 (w := w) (by first | assumption | simp) hb12; have hj12 := join (w := w) (by go_grown) hb12; clear hb12)
        | (go_at_call 13; refine (first_c _ _ _ _ _).mono ?_; rintro e w13 ⟨rfl, hb13⟩; obtain ⟨hc13, hf13⟩ := bcell hb13; have hz13 := lt1 (w := w) (by first | assumption | simp) hb13; have hj13 := join (w := w) (by go_grown) hb13; clear hb13)
        | (go_at_call 17; refine (within_c _ _ _ _ _).mono ?_; rintro e w17 ⟨rfl, hb17⟩; obtain ⟨hc17, hf17⟩ := bcell hb17; have hz17 := lt1 (w := w) (by first | assumption | simp) hb17; have hj17 := join (w := w) (by go_grown) hb17; clear hb17)
        | (go_at_call 14; refine (ticks_c _ _).mono ?_; rintro e w14 ⟨rfl, rfl⟩)
        | (go_at_call 18; refine (parts_c _ _).mono ?_; rintro e w18 ⟨rfl, rfl⟩)
        | (go_at_call 20; refine (bounds_c _ _ _).mono ?_; rintro e w20 ⟨rfl, rfl⟩)); all_goals go_ret; all_goals exact ⟨by first | rfl | exact ret_bool (by simp <;> omega), by go_grown⟩
set_option maxRecDepth 100000 in
theorem liftedClockWithin (os : Os) (started : os.Started) (H : Type) (enc : TypeId × Value → H) :
    ReturnsInHanded {} Try.checked os 6 .any (Rows.clockWithinSpec.pre6 enc Try.prog Try.f6 Rows.clockWithinRow.domain false) (Rows.clockWithinSpec.post enc Try.prog Try.f6 false true false false) := by
  refine returnsInHanded_of_change (C := Try.checked) own started (by kernel_rfl) Try.func6
    (ChangeSpec.witness6 (enc := enc) (C := Try.checked) false ⟨#[], #[.agg #[.int .i64 0, .int .i64 0, .int .i64 0], .int .i64 0, .int .i64 0], []⟩ 8 (by kernel_rfl) (by kernel_rfl) (by kernel_rfl) (by kernel_rfl)) ?_
  intro W base args ds gs before hval0 hW hcnd _
  have hval : ∀ (j : Nat) t v, Try.f6.params[j]? = some t → args[j]? = some v → Value.okWide Try.prog W .any base t v := hval0
  have hW' := hW
  obtain ⟨p, q, hA0, hV, rfl, hfz, hnd⟩ := hW
  have hA : DataW.TrodAll enc Try.prog W 0 (fun _ => true) true Try.f6.params.toList args.toList ds p := hA0
  rw [Try.params6] at hA hval
  obtain ⟨v0, vs0, d0, ds0, p0, q0, hargs, rfl, rfl, h0, r0⟩ := trodAll_cons hA
  obtain ⟨v1, vs1, d1, ds1, p1, q1, rfl, rfl, rfl, h1, r1⟩ := trodAll_cons r0
  obtain ⟨v2, vs2, d2, ds2, p2, q2, rfl, rfl, rfl, h2, r2⟩ := trodAll_cons r1
  obtain ⟨rfl, rfl, rfl⟩ := trodAll_nil r2
  obtain rfl : args = #[v0, v1, v2] := by cases args; simp_all
  obtain ⟨rfl, rfl⟩ := trodVars_none hV
  have k0 := h0
  have lt0 : ∀ x ∈ p0, x.block < W.heap.size := by obtain ⟨m, hm⟩ := k0; exact DataW.trod_lt m _ _ _ hm
  have k1 := h1
  have lt1 : ∀ x ∈ p1, x.block < W.heap.size := by obtain ⟨m, hm⟩ := k1; exact DataW.trod_lt m _ _ _ hm
  have k2 := h2
  have lt2 : ∀ x ∈ p2, x.block < W.heap.size := by obtain ⟨m, hm⟩ := k2; exact DataW.trod_lt m _ _ _ hm
  obtain ⟨c0_0, c0_1, c0_2, y0_0, y0_1, y0_2, m0, rfl, -, -, hy0_0, hy0_1, hy0_2⟩ := Joins.open_agg3 Try.underlying23 (by kernel_rfl) (show Try.prog.cellsOf 23 = 3 by kernel_rfl) (hval 0 23 v0 rfl rfl) h0
  obtain ⟨a0_0, e0_0, -, w0_0⟩ := DataW.trod_int Try.underlying3 hy0_0
  simp only [List.cons.injEq, and_true] at e0_0; subst e0_0
  obtain ⟨a0_1, e0_1, -, w0_1⟩ := DataW.trod_int Try.underlying3 hy0_1
  simp only [List.cons.injEq, and_true] at e0_1; subst e0_1
  obtain ⟨a0_2, e0_2, -, w0_2⟩ := DataW.trod_int Try.underlying3 hy0_2
  simp only [List.cons.injEq, and_true] at e0_2; subst e0_2
  obtain ⟨a1, rfl, -, -, w1⟩ := open_int Try.underlying3 (hval 1 3 v1 rfl rfl) h1
  obtain ⟨a2, rfl, -, -, w2⟩ := open_int Try.underlying3 (hval 2 3 v2 rfl rfl) h2
  clear hA0 hval0
  refine (walkClockWithin a0_0 a0_1 a0_2 a1 a2 W w0_0 w0_1 w0_2 w1 w2).mono fun e W' ⟨he, bel⟩ => ?_
  subst he
  exact ⟨_, rfl, _, _, _, [], _, [], hW', trodAll_mk1 (shut_bool Try.underlying4 _), (trodAll_cons_mk (Below.trod laidOut (by kernel_rfl) (of_decide_eq_true (by kernel_rfl)) k0 bel lt0) (trodAll_cons_mk (Below.trod laidOut (by kernel_rfl) (of_decide_eq_true (by kernel_rfl)) k1 bel lt1) (trodAll_cons_mk (Below.trod laidOut (by kernel_rfl) (of_decide_eq_true (by kernel_rfl)) k2 bel lt2) trodAll_mk0))), rfl, bel.frame _, fun h => by cases h⟩
/-- The given statement. -/
theorem clockWithin_holds : Rows.ClockWithinSaid :=
  OpenClaim.holds_of_wide 6 Try.f6 rfl rfl rfl rfl rfl rfl rfl ⟨rfl, rfl, rfl, rfl, rfl⟩ rfl rfl rfl rfl rfl (by kernel_rfl) Try.func6 (by kernel_rfl)
    (of_decide_eq_true (by kernel_rfl)) (by unfold Func.isWrapper; first | (rw [if_pos (by decide +kernel)]; kernel_rfl) | (rw [if_neg (by decide +kernel)]; exact ⟨rfl, rfl⟩))
    (fun os started H enc _ => liftedClockWithin os started H enc)
#print axioms clockWithin_holds
end Go.Proofs.Ytfildngcghehlaa
