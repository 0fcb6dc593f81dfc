/- For all numbers the statement LinkupBounds returns true: sides are made for exactly the permitted incarnations and numbers of ticks. No condition. -/
import Derived.Test.YtaonnglopajkcaaBase
import Derived.Test.YtaonnglopajkcaaAwake
namespace Go.Proofs.Ytaonnglopajkcaa
open Go.ChangeShapes Go.WideShapes Go.ChangeAt Go.RowKit
set_option linter.unusedVariables false
set_option maxHeartbeats 2000000 in
theorem walkLinkupBounds (a0 a1 : Int) (w : World) (w0 : (Lit.int .i64 a0).wf = true) (w1 : (Lit.int .i64 a1).wf = true) :
    Calls Try.prog 4 #[.int .i64 a0, .int .i64 a1] w fun e w' => e = .returned (.bool true) ∧ Below w.heap.size w w' := by
  clear w0 w1
  cases hn : newB a0 a1 with
  | true =>
    obtain ⟨⟨b1, b2⟩, b3, b4⟩ := newB_iff.1 hn
    go_enter Try.func4, Try.ntmps4
    go_wp2_with fail
    refine (awake_c _).mono ?_
    rintro e wa ⟨rfl, hba⟩
    go_wp2_with fail
    refine (new_c _ _ _ hn).mono ?_
    rintro e wb ⟨rfl, rfl⟩
    go_wp2_with fail
    refine (tick_c ⟨a0, a1, 0, 0, 0, 0, 0⟩ _ wa.heap.size (Blk.new _ _ _) (by simp) (by simp) (by simp) (by simp)).mono ?_
    rintro e wc ⟨rfl, hS, hO⟩
    have hb := joinO (w := w) (B := w.heap.size) (W := wa.alloc (.cells (cells (new a0 a1)) 56)) (hba.alloc hba.size _) hO hba.size (Nat.le_refl _)
    rw [show (tick ⟨a0, a1, 0, 0, 0, 0, 0⟩).peer = 0 from rfl]
    clear hO hS
    go_wp2_with fail
    go_ret
    exact ⟨rfl, hb⟩
  | false =>
    by_cases b1 : 1 ≤ a0
    · by_cases b2 : a0 ≤ 1099511627775
      · by_cases b3 : 1 ≤ a1
        · have b4 : ¬ a1 ≤ 1000 := by
            intro b4
            rw [newB_iff.2 ⟨⟨b1, b2⟩, b3, b4⟩] at hn
            cases hn
          go_enter Try.func4, Try.ntmps4
          go_wp2_with (first | (go_at_call 11; refine (awake_c _).mono ?_; rintro e wa ⟨rfl, hba⟩) | (go_at_call 12; refine (newNot_c _ _ _ hn).mono ?_; rintro e wb ⟨rfl, rfl⟩))
          go_ret
          exact ⟨rfl, hba⟩
        · go_enter Try.func4, Try.ntmps4
          go_wp2_with (first | (go_at_call 11; refine (awake_c _).mono ?_; rintro e wa ⟨rfl, hba⟩) | (go_at_call 12; refine (newNot_c _ _ _ hn).mono ?_; rintro e wb ⟨rfl, rfl⟩))
          go_ret
          exact ⟨rfl, hba⟩
      · go_enter Try.func4, Try.ntmps4
        go_wp2_with (first | (go_at_call 11; refine (awake_c _).mono ?_; rintro e wa ⟨rfl, hba⟩) | (go_at_call 12; refine (newNot_c _ _ _ hn).mono ?_; rintro e wb ⟨rfl, rfl⟩))
        go_ret
        exact ⟨rfl, hba⟩
    · go_enter Try.func4, Try.ntmps4
      go_wp2_with (first | (go_at_call 11; refine (awake_c _).mono ?_; rintro e wa ⟨rfl, hba⟩) | (go_at_call 12; refine (newNot_c _ _ _ hn).mono ?_; rintro e wb ⟨rfl, rfl⟩))
      go_ret
      exact ⟨rfl, hba⟩

set_option maxRecDepth 100000 in
theorem liftedLinkupBounds (os : Os) (started : os.Started) (H : Type) (enc : TypeId × Value → H) :
    ReturnsInHanded {} Try.checked os 4 .any (Rows.linkupBoundsSpec.pre6 enc Try.prog Try.f4 Rows.linkupBoundsRow.domain false) (Rows.linkupBoundsSpec.post enc Try.prog Try.f4 false true false false) := by
  refine returnsInHanded_of_change (C := Try.checked) own started (by kernel_rfl) Try.func4
    (ChangeSpec.witness6 (enc := enc) (C := Try.checked) false ⟨#[], #[.int .i64 0, .int .i64 0], []⟩ 8 (by kernel_rfl) (by kernel_rfl) (by kernel_rfl) (by kernel_rfl)) ?_
  intro W base args ds gs before hval0 hW hcnd _
  have hval : ∀ (j : Nat) t v, Try.f4.params[j]? = some t → args[j]? = some v → Value.okWide Try.prog W .any base t v := hval0
  have hW' := hW
  obtain ⟨p, q, hA0, hV, rfl, hfz, hnd⟩ := hW
  have hA : DataW.TrodAll enc Try.prog W 0 (fun _ => true) true Try.f4.params.toList args.toList ds p := hA0
  rw [Try.params4] at hA hval
  obtain ⟨v0, vs0, d0, ds0, p0, q0, hargs, rfl, rfl, h0, r0⟩ := trodAll_cons hA
  obtain ⟨v1, vs1, d1, ds1, p1, q1, rfl, rfl, rfl, h1, r1⟩ := trodAll_cons r0
  obtain ⟨rfl, rfl, rfl⟩ := trodAll_nil r1
  obtain rfl : args = #[v0, v1] := by cases args; simp_all
  obtain ⟨rfl, rfl⟩ := trodVars_none hV
  have k0 := h0
  have lt0 : ∀ x ∈ p0, x.block < W.heap.size := by obtain ⟨m, hm⟩ := k0; exact DataW.trod_lt m _ _ _ hm
  have k1 := h1
  have lt1 : ∀ x ∈ p1, x.block < W.heap.size := by obtain ⟨m, hm⟩ := k1; exact DataW.trod_lt m _ _ _ hm
  obtain ⟨a0, rfl, -, -, w0⟩ := open_int Try.underlying3 (hval 0 3 v0 rfl rfl) h0
  obtain ⟨a1, rfl, -, -, w1⟩ := open_int Try.underlying3 (hval 1 3 v1 rfl rfl) h1
  clear hA0 hval0
  refine (walkLinkupBounds a0 a1 W w0 w1).mono fun e W' ⟨he, bel⟩ => ?_
  subst he
  exact ⟨_, rfl, _, _, _, [], _, [], hW', trodAll_mk1 (shut_bool Try.underlying4 _), (trodAll_cons_mk (Below.trod laidOut (by kernel_rfl) (of_decide_eq_true (by kernel_rfl)) k0 bel lt0) (trodAll_cons_mk (Below.trod laidOut (by kernel_rfl) (of_decide_eq_true (by kernel_rfl)) k1 bel lt1) trodAll_mk0)), rfl, bel.frame _, fun h => by cases h⟩
/-- The given statement. -/
theorem linkupBounds_holds : Rows.LinkupBoundsSaid :=
  OpenClaim.holds_of_wide 4 Try.f4 rfl rfl rfl rfl rfl rfl rfl ⟨rfl, rfl, rfl, rfl, rfl⟩ rfl rfl rfl rfl rfl (by kernel_rfl) Try.func4 (by kernel_rfl)
    (of_decide_eq_true (by kernel_rfl)) (by unfold Func.isWrapper; first | (rw [if_pos (by decide +kernel)]; kernel_rfl) | (rw [if_neg (by decide +kernel)]; exact ⟨rfl, rfl⟩))
    (fun os started H enc _ => liftedLinkupBounds os started H enc)
#print axioms linkupBounds_holds
end Go.Proofs.Ytaonnglopajkcaa
