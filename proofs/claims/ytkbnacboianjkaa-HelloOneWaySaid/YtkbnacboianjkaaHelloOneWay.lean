/- For all intervals the statement HelloOneWay returns true: a port whose messages do not arrive does not stay TwoWay. No condition. -/
import Derived.Test.YtkbnacboianjkaaBase
namespace Go.Proofs.Ytkbnacboianjkaa
open Go.ChangeShapes Go.WideShapes Go.ChangeAt Go.RowKit
set_option linter.unusedVariables false
set_option linter.unusedSimpArgs false
set_option maxHeartbeats 2000000 in
theorem walkHelloOneWay (a0 a1 : Int) (w : World) (w0 : (Lit.int .u8 a0).wf = true) (w1 : (Lit.int .u8 a1).wf = true) :
    Calls Try.prog 3 #[.int .u8 a0, .int .u8 a1] w fun e w' => e = .returned (.bool true) ∧ Below w.heap.size w w' := by
  obtain ⟨b1, b2⟩ := bounds_u8 w0
  obtain ⟨b3, b4⟩ := bounds_u8 w1
  have hx := oneWay_all ⟨(a0 % 6).toNat, by omega⟩ ⟨(a1 % 9).toNat, by omega⟩
  simp only [oneWay, goX_eq] at hx
  obtain ⟨n, hn⟩ : ∃ n : Nat, 1 + a0 % 6 = (n : Int) := ⟨(1 + a0 % 6).toNat, by omega⟩
  obtain ⟨d, hd⟩ : ∃ d : Nat, (n : Int) + 1 + a1 % 9 = (d : Int) := ⟨((n : Int) + 1 + a1 % 9).toNat, by omega⟩
  have en : 1 + (a0 % 6).toNat = n := by omega
  have ed : n + 1 + (a1 % 9).toNat = d := by omega
  rw [en, ed] at hx
  have n1 : 1 ≤ n := by omega
  have n2 : n ≤ 6 := by omega
  have m1 : 1 ≤ d := by omega
  have m2 : d ≤ 20 := by omega
  have HX := hid hx
  clear hx en ed w0 w1
  go_enter Try.func3, Try.ntmps3
  go_wp2_with fail
  refine (awake_c _).mono ?_
  rintro e wa ⟨rfl, hba⟩
  have HBA := hid hba
  clear hba
  go_wp2_with fail
  refine (pair_c n d _ n1 (by omega) m1 (by omega)).mono ?_
  rintro e wb ⟨rfl, hP, hbb⟩
  have HP := hid hP
  have HBB := hid (join HBA.out hbb)
  have hB := HBA.out.size
  clear hP hbb HBA
  generalize wa.heap.size = B at *
  go_wp2_with fail
  go_loopw [34] (fun v34 wr => ∃ k : Nat, k ≤ 2 * n + 2 ∧ v34 = .int .i64 k ∧ Pr wr B k (16 * k) (runX false false k (pairT n d)) ∧ Below w.heap.size w wr) (fun v34 _ => 2 * n + 2 - (intOf v34).toNat)
  case atStart => exact ⟨0, by omega, rfl, HP.out, HBB.out⟩
  case round =>
    obtain ⟨k, hk, rfl, hPr, hb⟩ := hrel
    have HPr := hid hPr
    have HB := hid hb
    clear hPr hb HP HBB
    by_cases hlt : k < 2 * n + 2
    · go_wp2_with fail
      refine (exchP_c _ _ B k (16 * k) HPr.out (by omega) (by omega) false false).mono ?_
      rintro e w' ⟨rfl, hP', hb'⟩
      have HP' := hid hP'
      have HB' := hid (HB.out.trans (hb'.mono hB))
      clear hP' hb'
      go_wp2_with fail
      go_roundw
      case rel => exact ⟨k + 1, by omega, by go_num, HP'.out, HB'.out⟩
      case measure => simp [intOf]; omega
    · have HK := hid (show k = 2 * n + 2 by omega)
      obtain ⟨k1, rfl⟩ : ∃ k1 : Nat, k1 = k := ⟨_, rfl⟩
      obtain ⟨wo, rfl⟩ : ∃ wo : World, wo = wr := ⟨_, rfl⟩
      go_wp2_with fail
      go_loopw [45] (fun v45 wr => ∃ k : Nat, k ≤ d + 2 * n + 2 ∧ v45 = .int .i64 k ∧ Pr wr B (k1 + k) (16 * (k1 + k)) (runX true false k (runX false false k1 (pairT n d))) ∧ Below w.heap.size w wr) (fun v45 _ => d + 2 * n + 2 - (intOf v45).toNat)
      case atStart => exact ⟨0, by omega, rfl, HPr.out, HB.out⟩
      case round =>
        obtain ⟨k, hk, rfl, hPr, hb⟩ := hrel
        clear HPr HB
        have HPr := hid hPr
        have HB := hid hb
        clear hPr hb
        by_cases hlt : k < d + 2 * n + 2
        · go_wp2_with fail
          refine (exchP_c _ _ B _ _ HPr.out (by omega) (by omega) true false).mono ?_
          rintro e w' ⟨rfl, hP', hb'⟩
          have HP' := hid hP'
          have HB' := hid (HB.out.trans (hb'.mono hB))
          clear hP' hb'
          go_wp2_with fail
          go_roundw
          case rel => exact ⟨k + 1, by omega, by go_num, HP'.out, HB'.out⟩
          case measure => simp [intOf]; omega
        · have hk' : k = d + 2 * n + 2 := by omega
          have hx := HX.out
          rw [← HK.out, ← hk'] at hx
          have HPr2 := hid HPr.out
          simp only [Bool.and_eq_true, beq_iff_eq] at hx
          have HX1 := hid hx.1
          have HX2 := hid hx.2
          clear hx
          clear hk'
          generalize runX true false k (runX false false k1 (pairT n d)) = s at *
          go_wp2_with fail
          refine (state_c _ _ _ _ _ HPr.out.b).mono ?_
          rintro e w1 ⟨rfl, rfl⟩
          rw [HX1.out]
          go_wp2_with fail
          refine (state_c _ _ _ _ _ HPr.out.a).mono ?_
          rintro e w1 ⟨rfl, rfl⟩
          rw [HX2.out]
          go_wp2_with fail
          go_ret
          exact ⟨rfl, HB.out⟩

set_option maxRecDepth 100000 in
theorem liftedHelloOneWay (os : Os) (started : os.Started) (H : Type) (enc : TypeId × Value → H) :
    ReturnsInHanded {} Try.checked os 3 .any (Rows.helloOneWaySpec.pre6 enc Try.prog Try.f3 Rows.helloOneWayRow.domain false) (Rows.helloOneWaySpec.post enc Try.prog Try.f3 false true false false) := by
  refine returnsInHanded_of_change (C := Try.checked) own started (by kernel_rfl) Try.func3
    (ChangeSpec.witness6 (enc := enc) (C := Try.checked) false ⟨#[], #[.int .u8 0, .int .u8 0], []⟩ 8 (by kernel_rfl) (by kernel_rfl) (by kernel_rfl) (by kernel_rfl)) ?_
  intro W base args ds gs before hval0 hW hcnd _
  have hval : ∀ (j : Nat) t v, Try.f3.params[j]? = some t → args[j]? = some v → Value.okWide Try.prog W .any base t v := hval0
  have hW' := hW
  obtain ⟨p, q, hA0, hV, rfl, hfz, hnd⟩ := hW
  have hA : DataW.TrodAll enc Try.prog W 0 (fun _ => true) true Try.f3.params.toList args.toList ds p := hA0
  rw [Try.params3] at hA hval
  obtain ⟨v0, vs0, d0, ds0, p0, q0, hargs, rfl, rfl, h0, r0⟩ := trodAll_cons hA
  obtain ⟨v1, vs1, d1, ds1, p1, q1, rfl, rfl, rfl, h1, r1⟩ := trodAll_cons r0
  obtain ⟨rfl, rfl, rfl⟩ := trodAll_nil r1
  obtain rfl : args = #[v0, v1] := by cases args; simp_all
  obtain ⟨rfl, rfl⟩ := trodVars_none hV
  have k0 := h0
  have lt0 : ∀ x ∈ p0, x.block < W.heap.size := by obtain ⟨m, hm⟩ := k0; exact DataW.trod_lt m _ _ _ hm
  have k1 := h1
  have lt1 : ∀ x ∈ p1, x.block < W.heap.size := by obtain ⟨m, hm⟩ := k1; exact DataW.trod_lt m _ _ _ hm
  obtain ⟨a0, rfl, -, -, w0⟩ := open_int Try.underlying5 (hval 0 5 v0 rfl rfl) h0
  obtain ⟨a1, rfl, -, -, w1⟩ := open_int Try.underlying5 (hval 1 5 v1 rfl rfl) h1
  clear hA0 hval0
  refine (walkHelloOneWay a0 a1 W w0 w1).mono fun e W' ⟨he, bel⟩ => ?_
  subst he
  exact ⟨_, rfl, _, _, _, [], _, [], hW', trodAll_mk1 (shut_bool Try.underlying4 _), (trodAll_cons_mk (Below.trod laidOut (by kernel_rfl) (of_decide_eq_true (by kernel_rfl)) k0 bel lt0) (trodAll_cons_mk (Below.trod laidOut (by kernel_rfl) (of_decide_eq_true (by kernel_rfl)) k1 bel lt1) trodAll_mk0)), rfl, bel.frame _, fun h => by cases h⟩
/-- The given statement. -/
theorem helloOneWay_holds : Rows.HelloOneWaySaid :=
  OpenClaim.holds_of_wide 3 Try.f3 rfl rfl rfl rfl rfl rfl rfl ⟨rfl, rfl, rfl, rfl, rfl⟩ rfl rfl rfl rfl rfl (by kernel_rfl) Try.func3 (by kernel_rfl)
    (of_decide_eq_true (by kernel_rfl)) (by unfold Func.isWrapper; first | (rw [if_pos (by decide +kernel)]; kernel_rfl) | (rw [if_neg (by decide +kernel)]; exact ⟨rfl, rfl⟩))
    (fun os started H enc _ => liftedHelloOneWay os started H enc)
#print axioms helloOneWay_holds
end Go.Proofs.Ytkbnacboianjkaa
