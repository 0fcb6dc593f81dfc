/- For all arguments the statement KeepaliveSafe returns true: Safe is what the reference says, and stays true under easier conditions. No condition. -/
import Derived.Test.YthkilfainkcmgaaBase
import Derived.Test.YthkilfainkcmgaaRefS
namespace Go.Proofs.Ythkilfainkcmgaa
open Go.ChangeShapes Go.WideShapes Go.ChangeAt Go.RowKit
set_option linter.unusedVariables false
set_option linter.unusedSimpArgs false
set_option maxRecDepth 100000 in
set_option maxHeartbeats 2000000 in
theorem walkKeepaliveSafe (a0 a1 a2 a3 a4 a5 a6 : Int) (w : World) (w0 : (Lit.int .i64 a0).wf = true) (w1 : (Lit.int .i64 a1).wf = true) (w2 : (Lit.int .i64 a2).wf = true) (w3 : (Lit.int .i64 a3).wf = true) (w4 : (Lit.int .u16 a4).wf = true) (w5 : (Lit.int .u16 a5).wf = true) (w6 : (Lit.int .u16 a6).wf = true) :
    Calls Try.prog 6 #[.int .i64 a0, .int .i64 a1, .int .i64 a2, .int .i64 a3, .int .u16 a4, .int .u16 a5, .int .u16 a6] w fun e w' => e = .returned (.bool true) ∧ Below w.heap.size w w' := by
  obtain ⟨b1, b2⟩ := bounds_u16 w4
  obtain ⟨b3, b4⟩ := bounds_u16 w5
  obtain ⟨b5, b6⟩ := bounds_u16 w6
  clear w0 w1 w2 w3 w4 w5 w6
  cases hs : safeB a0 a1 a2 a3 with
  | false =>
    have HS := Kept.mk hs
    clear hs
    go_enter Try.func6, Try.ntmps6
    go_wp2_with fail
    refine (awake_c _).mono ?_
    rintro e wa ⟨rfl, hba⟩
    have HBA := Kept.mk hba
    clear hba
    go_wp2_with fail
    refine (safe_c _ _ _ _ _).mono ?_
    rintro e wb ⟨rfl, hbb⟩
    have HBB := Kept.mk (join HBA.out hbb)
    rw [HS.out]
    clear hbb
    go_wp2_with fail
    refine (refSafe_c _ _ _ _ _).mono ?_
    rintro e w' ⟨rfl, rfl⟩
    rw [HS.out]
    go_wp2_with fail
    go_ret
    exact ⟨rfl, HBB.out⟩
  | true =>
    obtain ⟨⟨g1, g2, g3, g4⟩, g5, g6, g7, g8⟩ := arg_iff.1 (safe_iff.1 hs).1
    have HS := Kept.mk hs
    have HM := Kept.mk (fun (h : a1 + a4 ≤ 1048576) => safe_easier hs (show a1 ≤ a1 + a4 by omega) h (Int.le_refl _) g5 (Int.le_refl _) g7)
    have HY := Kept.mk (fun (y : Int) (h : y ≤ a2) (h0 : 0 ≤ y) => safe_easier hs (Int.le_refl _) g4 h h0 (Int.le_refl _) g7)
    have HPP := Kept.mk (fun (p : Int) (h : p ≤ a3) (h0 : 0 ≤ p) => safe_easier hs (Int.le_refl _) g4 (Int.le_refl _) g5 h h0)
    clear hs
    rcases (by omega : 0 < a2 - a5 ∨ a2 - a5 ≤ 0) with hy | hy
    all_goals
      rcases (by omega : 0 < a3 - a6 ∨ a3 - a6 ≤ 0) with hp | hp
      all_goals
        by_cases hd : a1 + a4 ≤ 1048576
        · go_enter Try.func6, Try.ntmps6
          go_wp2_with fail
          refine (awake_c _).mono ?_
          rintro e wa ⟨rfl, hba⟩
          have HBA := Kept.mk hba
          clear hba
          go_wp2_with fail
          refine (safe_c _ _ _ _ _).mono ?_
          rintro e wb ⟨rfl, hbb⟩
          have HBB := Kept.mk (join HBA.out hbb)
          rw [HS.out]
          clear hbb
          go_wp2_with fail
          refine (refSafe_c _ _ _ _ _).mono ?_
          rintro e w' ⟨rfl, rfl⟩
          rw [HS.out]
          go_wp2_with fail
          refine (safe_c a0 (a1 + a4) a2 a3 _).mono ?_
          rintro e wc ⟨rfl, hbc⟩
          have HBB := Kept.mk (join HBB.out hbc)
          rw [HM.out hd]
          clear hbc
          go_wp2_with fail
          refine (safe_c _ _ _ _ _).mono ?_
          rintro e wd ⟨rfl, hbd⟩
          have HBB := Kept.mk (join HBB.out hbd)
          rw [HY.out _ (by omega) (by omega)]
          clear hbd
          go_wp2_with fail
          refine (safe_c _ _ _ _ _).mono ?_
          rintro e we ⟨rfl, hbe⟩
          have HBB := Kept.mk (join HBB.out hbe)
          rw [HPP.out _ (by omega) (by omega)]
          clear hbe
          go_wp2_with fail
          go_ret
          exact ⟨rfl, HBB.out⟩
        · go_enter Try.func6, Try.ntmps6
          go_wp2_with fail
          refine (awake_c _).mono ?_
          rintro e wa ⟨rfl, hba⟩
          have HBA := Kept.mk hba
          clear hba
          go_wp2_with fail
          refine (safe_c _ _ _ _ _).mono ?_
          rintro e wb ⟨rfl, hbb⟩
          have HBB := Kept.mk (join HBA.out hbb)
          rw [HS.out]
          clear hbb
          go_wp2_with fail
          refine (refSafe_c _ _ _ _ _).mono ?_
          rintro e w' ⟨rfl, rfl⟩
          rw [HS.out]
          go_wp2_with fail
          refine (safe_c _ _ _ _ _).mono ?_
          rintro e wd ⟨rfl, hbd⟩
          have HBB := Kept.mk (join HBB.out hbd)
          rw [HY.out _ (by omega) (by omega)]
          clear hbd
          go_wp2_with fail
          refine (safe_c _ _ _ _ _).mono ?_
          rintro e we ⟨rfl, hbe⟩
          have HBB := Kept.mk (join HBB.out hbe)
          rw [HPP.out _ (by omega) (by omega)]
          clear hbe
          go_wp2_with fail
          go_ret
          exact ⟨rfl, HBB.out⟩

set_option maxRecDepth 100000 in
theorem liftedKeepaliveSafe (os : Os) (started : os.Started) (H : Type) (enc : TypeId × Value → H) :
    ReturnsInHanded {} Try.checked os 6 .any (Rows.keepaliveSafeSpec.pre6 enc Try.prog Try.f6 Rows.keepaliveSafeRow.domain false) (Rows.keepaliveSafeSpec.post enc Try.prog Try.f6 false true false false) := by
  refine returnsInHanded_of_change (C := Try.checked) own started (by kernel_rfl) Try.func6
    (ChangeSpec.witness6 (enc := enc) (C := Try.checked) false ⟨#[], #[.int .i64 0, .int .i64 0, .int .i64 0, .int .i64 0, .int .u16 0, .int .u16 0, .int .u16 0], []⟩ 8 (by kernel_rfl) (by kernel_rfl) (by kernel_rfl) (by kernel_rfl)) ?_
  intro W base args ds gs before hval0 hW hcnd _
  have hval : ∀ (j : Nat) t v, Try.f6.params[j]? = some t → args[j]? = some v → Value.okWide Try.prog W .any base t v := hval0
  have hW' := hW
  obtain ⟨p, q, hA0, hV, rfl, hfz, hnd⟩ := hW
  have hA : DataW.TrodAll enc Try.prog W 0 (fun _ => true) true Try.f6.params.toList args.toList ds p := hA0
  rw [Try.params6] at hA hval
  obtain ⟨v0, vs0, d0, ds0, p0, q0, hargs, rfl, rfl, h0, r0⟩ := trodAll_cons hA
  obtain ⟨v1, vs1, d1, ds1, p1, q1, rfl, rfl, rfl, h1, r1⟩ := trodAll_cons r0
  obtain ⟨v2, vs2, d2, ds2, p2, q2, rfl, rfl, rfl, h2, r2⟩ := trodAll_cons r1
  obtain ⟨v3, vs3, d3, ds3, p3, q3, rfl, rfl, rfl, h3, r3⟩ := trodAll_cons r2
  obtain ⟨v4, vs4, d4, ds4, p4, q4, rfl, rfl, rfl, h4, r4⟩ := trodAll_cons r3
  obtain ⟨v5, vs5, d5, ds5, p5, q5, rfl, rfl, rfl, h5, r5⟩ := trodAll_cons r4
  obtain ⟨v6, vs6, d6, ds6, p6, q6, rfl, rfl, rfl, h6, r6⟩ := trodAll_cons r5
  obtain ⟨rfl, rfl, rfl⟩ := trodAll_nil r6
  obtain rfl : args = #[v0, v1, v2, v3, v4, v5, v6] := by cases args; simp_all
  obtain ⟨rfl, rfl⟩ := trodVars_none hV
  have k0 := h0
  have lt0 : ∀ x ∈ p0, x.block < W.heap.size := by obtain ⟨m, hm⟩ := k0; exact DataW.trod_lt m _ _ _ hm
  have k1 := h1
  have lt1 : ∀ x ∈ p1, x.block < W.heap.size := by obtain ⟨m, hm⟩ := k1; exact DataW.trod_lt m _ _ _ hm
  have k2 := h2
  have lt2 : ∀ x ∈ p2, x.block < W.heap.size := by obtain ⟨m, hm⟩ := k2; exact DataW.trod_lt m _ _ _ hm
  have k3 := h3
  have lt3 : ∀ x ∈ p3, x.block < W.heap.size := by obtain ⟨m, hm⟩ := k3; exact DataW.trod_lt m _ _ _ hm
  have k4 := h4
  have lt4 : ∀ x ∈ p4, x.block < W.heap.size := by obtain ⟨m, hm⟩ := k4; exact DataW.trod_lt m _ _ _ hm
  have k5 := h5
  have lt5 : ∀ x ∈ p5, x.block < W.heap.size := by obtain ⟨m, hm⟩ := k5; exact DataW.trod_lt m _ _ _ hm
  have k6 := h6
  have lt6 : ∀ x ∈ p6, x.block < W.heap.size := by obtain ⟨m, hm⟩ := k6; exact DataW.trod_lt m _ _ _ hm
  obtain ⟨a0, rfl, -, -, w0⟩ := open_int Try.underlying3 (hval 0 3 v0 rfl rfl) h0
  obtain ⟨a1, rfl, -, -, w1⟩ := open_int Try.underlying3 (hval 1 3 v1 rfl rfl) h1
  obtain ⟨a2, rfl, -, -, w2⟩ := open_int Try.underlying3 (hval 2 3 v2 rfl rfl) h2
  obtain ⟨a3, rfl, -, -, w3⟩ := open_int Try.underlying3 (hval 3 3 v3 rfl rfl) h3
  obtain ⟨a4, rfl, -, -, w4⟩ := open_int Try.underlying44 (hval 4 44 v4 rfl rfl) h4
  obtain ⟨a5, rfl, -, -, w5⟩ := open_int Try.underlying44 (hval 5 44 v5 rfl rfl) h5
  obtain ⟨a6, rfl, -, -, w6⟩ := open_int Try.underlying44 (hval 6 44 v6 rfl rfl) h6
  clear hA0 hval0
  refine (walkKeepaliveSafe a0 a1 a2 a3 a4 a5 a6 W w0 w1 w2 w3 w4 w5 w6).mono fun e W' ⟨he, bel⟩ => ?_
  subst he
  exact ⟨_, rfl, _, _, _, [], _, [], hW', trodAll_mk1 (shut_bool Try.underlying4 _), (trodAll_cons_mk (Below.trod laidOut (by kernel_rfl) (of_decide_eq_true (by kernel_rfl)) k0 bel lt0) (trodAll_cons_mk (Below.trod laidOut (by kernel_rfl) (of_decide_eq_true (by kernel_rfl)) k1 bel lt1) (trodAll_cons_mk (Below.trod laidOut (by kernel_rfl) (of_decide_eq_true (by kernel_rfl)) k2 bel lt2) (trodAll_cons_mk (Below.trod laidOut (by kernel_rfl) (of_decide_eq_true (by kernel_rfl)) k3 bel lt3) (trodAll_cons_mk (Below.trod laidOut (by kernel_rfl) (of_decide_eq_true (by kernel_rfl)) k4 bel lt4) (trodAll_cons_mk (Below.trod laidOut (by kernel_rfl) (of_decide_eq_true (by kernel_rfl)) k5 bel lt5) (trodAll_cons_mk (Below.trod laidOut (by kernel_rfl) (of_decide_eq_true (by kernel_rfl)) k6 bel lt6) trodAll_mk0))))))), rfl, bel.frame _, fun h => by cases h⟩
/-- The given statement. -/
theorem keepaliveSafe_holds : Rows.KeepaliveSafeSaid :=
  OpenClaim.holds_of_wide 6 Try.f6 rfl rfl rfl rfl rfl rfl rfl ⟨rfl, rfl, rfl, rfl, rfl⟩ rfl rfl rfl rfl rfl (by kernel_rfl) Try.func6 (by kernel_rfl)
    (of_decide_eq_true (by kernel_rfl)) (by unfold Func.isWrapper; first | (rw [if_pos (by decide +kernel)]; kernel_rfl) | (rw [if_neg (by decide +kernel)]; exact ⟨rfl, rfl⟩))
    (fun os started H enc _ => liftedKeepaliveSafe os started H enc)
#print axioms keepaliveSafe_holds
end Go.Proofs.Ythkilfainkcmgaa
