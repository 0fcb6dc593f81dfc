/- For all intervals the statement HelloCut returns true: both ports are Silent after dead ticks without messages, not before. No condition. -/
import Derived.Test.YtkbnacboianjkaaBase
import Derived.Test.YtkbnacboianjkaaPairB
namespace Go.Proofs.Ytkbnacboianjkaa
open Go.ChangeShapes Go.WideShapes Go.ChangeAt Go.RowKit
set_option linter.unusedVariables false
set_option linter.unusedSimpArgs false
set_option maxHeartbeats 4000000 in
theorem walkHelloCut (a0 a1 : Int) (w : World) (w0 : (Lit.int .u8 a0).wf = true) (w1 : (Lit.int .u8 a1).wf = true) :
    Calls Try.prog 6 #[.int .u8 a0, .int .u8 a1] w fun e w' => e = .returned (.bool true) ∧ Below w.heap.size w w' := by
  obtain ⟨b1, b2⟩ := bounds_u8 w0
  obtain ⟨b3, b4⟩ := bounds_u8 w1
  have hx := cut_all ⟨(a0 % 6).toNat, by omega⟩ ⟨(a1 % 9).toNat, by omega⟩
  simp only [cut, goX_eq] at hx
  obtain ⟨n, hn⟩ : ∃ n : Nat, 1 + a0 % 6 = (n : Int) := ⟨(1 + a0 % 6).toNat, by omega⟩
  obtain ⟨d, hd⟩ : ∃ d : Nat, (n : Int) + 1 + a1 % 9 = (d : Int) := ⟨((n : Int) + 1 + a1 % 9).toNat, by omega⟩
  have en : 1 + (a0 % 6).toNat = n := by omega
  have ed : n + 1 + (a1 % 9).toNat = d := by omega
  rw [en, ed] at hx
  have n1 : 1 ≤ n := by omega
  have n2 : n ≤ 6 := by omega
  have m1 : 1 ≤ d := by omega
  have m2 : d ≤ 20 := by omega
  have HX := hid hx
  clear hx en ed w0 w1
  go_enter Try.func6, Try.ntmps6
  go_wp2_with fail
  refine (awake_c _).mono ?_
  rintro e wa ⟨rfl, hba⟩
  have HBA := hid hba
  clear hba
  go_wp2_with fail
  refine (pair_c n d _ n1 (by omega) m1 (by omega)).mono ?_
  rintro e wb ⟨rfl, hP, hbb⟩
  have HP := hid hP
  have HBB := hid (join HBA.out hbb)
  have hB := HBA.out.size
  clear hP hbb HBA
  generalize wa.heap.size = B at *
  go_wp2_with fail
  go_loopw [36] (fun v36 wr => ∃ k : Nat, k ≤ 2 * n + 1 ∧ v36 = .int .i64 k ∧ Pr wr B k (16 * k) (runX false false k (pairT n d)) ∧ Below w.heap.size w wr) (fun v36 _ => 2 * n + 1 - (intOf v36).toNat)
  case atStart => exact ⟨0, by omega, rfl, HP.out, HBB.out⟩
  case round =>
    obtain ⟨k, hk, rfl, hPr, hb⟩ := hrel
    have HPr := hid hPr
    have HB := hid hb
    clear hPr hb HP HBB
    by_cases hlt : k < 2 * n + 1
    · go_wp2_with fail
      refine (exchP_c _ _ B k (16 * k) HPr.out (by omega) (by omega) false false).mono ?_
      rintro e w' ⟨rfl, hP', hb'⟩
      have HP' := hid hP'
      have HB' := hid (HB.out.trans (hb'.mono hB))
      clear hP' hb'
      go_wp2_with fail
      go_roundw
      case rel => exact ⟨k + 1, by omega, by go_num, HP'.out, HB'.out⟩
      case measure => simp [intOf]; omega
    · have hK : k = 2 * n + 1 := by omega
      have hx := HX.out
      rw [← hK] at hx
      clear HX hK
      have hq : k ≤ 13 := by omega
      simp only [Bool.and_eq_true, beq_iff_eq] at hx
      obtain ⟨⟨⟨⟨hx1, hx2⟩, hx3⟩, hx4⟩, hx5⟩ := hx
      have HA := hid (allX_get _ _ _ hx1)
      have HX2 := hid hx2
      have HX3 := hid hx3
      have HX4 := hid hx4
      have HX5 := hid hx5
      clear hx1 hx2 hx3 hx4 hx5
      generalize runX false false k (pairT n d) = s1 at *
      obtain ⟨k1, rfl⟩ : ∃ k1 : Nat, k1 = k := ⟨_, rfl⟩
      obtain ⟨wo, rfl⟩ : ∃ wo : World, wo = wr := ⟨_, rfl⟩
      go_wp2_with fail
      go_loopw [10, 11, 43] (fun v10 v11 v43 wr => ∃ k : Nat, k ≤ d ∧ v43 = .int .i64 k ∧ Pr wr B (k1 + k) (16 * (k1 + k)) (runX true true k s1) ∧ Below w.heap.size w wr) (fun _ _ v43 _ => d - (intOf v43).toNat)
      case atStart => exact ⟨0, by omega, rfl, HPr.out, HB.out⟩
      case round =>
        obtain ⟨k, hk, rfl, hPr, hb⟩ := hrel
        clear HPr HB
        have HPr := hid hPr
        have HB := hid hb
        clear hPr hb
        by_cases hlt : k < d
        · have hc := HA.out k hlt
          rw [Nat.zero_add] at hc
          simp only [cutP, Bool.and_eq_true, Bool.not_eq_true'] at hc
          obtain ⟨⟨g1, g2⟩, g3⟩ := hc
          have g4 : (((k : Int) == (d : Int) - 1) = true ∧ ((exch true true (runX true true k s1).1 (runX true true k s1).2).2.1.version != (runX true true k s1).1.version) = true) ∨ (((k : Int) == (d : Int) - 1) = false ∧ ((exch true true (runX true true k s1).1 (runX true true k s1).2).2.1.version != (runX true true k s1).1.version) = false) := by
            revert g3
            cases ((exch true true (runX true true k s1).1 (runX true true k s1).2).2.1.version != (runX true true k s1).1.version) <;> cases ((k : Int) == (d : Int) - 1) <;> simp
          have HE : Hid (runX true true (k + 1) s1 = (exch true true (runX true true k s1).1 (runX true true k s1).2).2) := rfl
          clear g3
          generalize runX true true k s1 = s2 at *
          go_wp2_with fail
          refine (state_c _ _ _ _ _ HPr.out.a).mono ?_
          rintro e w1 ⟨rfl, rfl⟩
          go_wp2_with fail
          refine (state_c _ _ _ _ _ HPr.out.b).mono ?_
          rintro e w1 ⟨rfl, rfl⟩
          go_wp2_with fail
          refine (version_c _ _ _ _ HPr.out.a).mono ?_
          rintro e w1 ⟨rfl, rfl⟩
          go_wp2_with fail
          refine (exchP_c _ _ B _ _ HPr.out (by omega) (by omega) true true).mono ?_
          rintro e w' ⟨rfl, hP', hb'⟩
          have HP' := hid hP'
          have HB' := hid (HB.out.trans (hb'.mono hB))
          clear hP' hb'
          generalize exch true true s2.1 s2.2 = r at *
          go_wp2_with fail
          refine (version_c _ _ _ _ HP'.out.a).mono ?_
          rintro e w1 ⟨rfl, rfl⟩
          rcases g4 with ⟨g5, g6⟩ | ⟨g5, g6⟩
          all_goals
            go_wp2_with fail
            go_roundw
            case rel => exact ⟨k + 1, by omega, by go_num, by rw [HE.out]; exact HP'.out, HB'.out⟩
            case measure => simp [intOf]; omega
        · have hK : k = d := by omega
          rw [← hK] at HX2 HX3 HX4 HX5
          clear hK HA
          have hq2 : k ≤ 20 := by omega
          generalize runX true true k s1 = s2 at *
          obtain ⟨k2, rfl⟩ : ∃ k2 : Nat, k2 = k := ⟨_, rfl⟩
          obtain ⟨wo2, rfl⟩ : ∃ wo2 : World, wo2 = wr := ⟨_, rfl⟩
          go_wp2_with fail
          refine (state_c _ _ _ _ _ HPr.out.a).mono ?_
          rintro e w1 ⟨rfl, rfl⟩
          rw [HX2.out]
          go_wp2_with fail
          refine (state_c _ _ _ _ _ HPr.out.b).mono ?_
          rintro e w1 ⟨rfl, rfl⟩
          rw [HX3.out]
          go_wp2_with fail
          go_loopw [80] (fun v80 wr => ∃ k : Nat, k ≤ 2 * n + 2 ∧ v80 = .int .i64 k ∧ Pr wr B (k1 + k2 + k) (16 * (k1 + k2 + k)) (runX false false k s2) ∧ Below w.heap.size w wr) (fun v80 _ => 2 * n + 2 - (intOf v80).toNat)
          case atStart => exact ⟨0, by omega, rfl, HPr.out, HB.out⟩
          case round =>
            obtain ⟨k, hk, rfl, hPr, hb⟩ := hrel
            clear HPr HB
            have HPr := hid hPr
            have HB := hid hb
            clear hPr hb
            by_cases hlt : k < 2 * n + 2
            · go_wp2_with fail
              refine (exchP_c _ _ B _ _ HPr.out (by omega) (by omega) false false).mono ?_
              rintro e w' ⟨rfl, hP', hb'⟩
              have HP' := hid hP'
              have HB' := hid (HB.out.trans (hb'.mono hB))
              clear hP' hb'
              go_wp2_with fail
              go_roundw
              case rel => exact ⟨k + 1, by omega, by go_num, HP'.out, HB'.out⟩
              case measure => simp [intOf]; omega
            · have hK : k = 2 * n + 2 := by omega
              rw [← hK] at HX4 HX5
              clear hK
              generalize runX false false k s2 = s3 at *
              go_wp2_with fail
              refine (state_c _ _ _ _ _ HPr.out.a).mono ?_
              rintro e w1 ⟨rfl, rfl⟩
              rw [HX4.out]
              go_wp2_with fail
              refine (state_c _ _ _ _ _ HPr.out.b).mono ?_
              rintro e w1 ⟨rfl, rfl⟩
              rw [HX5.out]
              go_wp2_with fail
              go_ret
              exact ⟨rfl, HB.out⟩

set_option maxRecDepth 100000 in
theorem liftedHelloCut (os : Os) (started : os.Started) (H : Type) (enc : TypeId × Value → H) :
    ReturnsInHanded {} Try.checked os 6 .any (Rows.helloCutSpec.pre6 enc Try.prog Try.f6 Rows.helloCutRow.domain false) (Rows.helloCutSpec.post enc Try.prog Try.f6 false true false false) := by
  refine returnsInHanded_of_change (C := Try.checked) own started (by kernel_rfl) Try.func6
    (ChangeSpec.witness6 (enc := enc) (C := Try.checked) false ⟨#[], #[.int .u8 0, .int .u8 0], []⟩ 8 (by kernel_rfl) (by kernel_rfl) (by kernel_rfl) (by kernel_rfl)) ?_
  intro W base args ds gs before hval0 hW hcnd _
  have hval : ∀ (j : Nat) t v, Try.f6.params[j]? = some t → args[j]? = some v → Value.okWide Try.prog W .any base t v := hval0
  have hW' := hW
  obtain ⟨p, q, hA0, hV, rfl, hfz, hnd⟩ := hW
  have hA : DataW.TrodAll enc Try.prog W 0 (fun _ => true) true Try.f6.params.toList args.toList ds p := hA0
  rw [Try.params6] at hA hval
  obtain ⟨v0, vs0, d0, ds0, p0, q0, hargs, rfl, rfl, h0, r0⟩ := trodAll_cons hA
  obtain ⟨v1, vs1, d1, ds1, p1, q1, rfl, rfl, rfl, h1, r1⟩ := trodAll_cons r0
  obtain ⟨rfl, rfl, rfl⟩ := trodAll_nil r1
  obtain rfl : args = #[v0, v1] := by cases args; simp_all
  obtain ⟨rfl, rfl⟩ := trodVars_none hV
  have k0 := h0
  have lt0 : ∀ x ∈ p0, x.block < W.heap.size := by obtain ⟨m, hm⟩ := k0; exact DataW.trod_lt m _ _ _ hm
  have k1 := h1
  have lt1 : ∀ x ∈ p1, x.block < W.heap.size := by obtain ⟨m, hm⟩ := k1; exact DataW.trod_lt m _ _ _ hm
  obtain ⟨a0, rfl, -, -, w0⟩ := open_int Try.underlying5 (hval 0 5 v0 rfl rfl) h0
  obtain ⟨a1, rfl, -, -, w1⟩ := open_int Try.underlying5 (hval 1 5 v1 rfl rfl) h1
  clear hA0 hval0
  refine (walkHelloCut a0 a1 W w0 w1).mono fun e W' ⟨he, bel⟩ => ?_
  subst he
  exact ⟨_, rfl, _, _, _, [], _, [], hW', trodAll_mk1 (shut_bool Try.underlying4 _), (trodAll_cons_mk (Below.trod laidOut (by kernel_rfl) (of_decide_eq_true (by kernel_rfl)) k0 bel lt0) (trodAll_cons_mk (Below.trod laidOut (by kernel_rfl) (of_decide_eq_true (by kernel_rfl)) k1 bel lt1) trodAll_mk0)), rfl, bel.frame _, fun h => by cases h⟩
/-- The given statement. -/
theorem helloCut_holds : Rows.HelloCutSaid :=
  OpenClaim.holds_of_wide 6 Try.f6 rfl rfl rfl rfl rfl rfl rfl ⟨rfl, rfl, rfl, rfl, rfl⟩ rfl rfl rfl rfl rfl (by kernel_rfl) Try.func6 (by kernel_rfl)
    (of_decide_eq_true (by kernel_rfl)) (by unfold Func.isWrapper; first | (rw [if_pos (by decide +kernel)]; kernel_rfl) | (rw [if_neg (by decide +kernel)]; exact ⟨rfl, rfl⟩))
    (fun os started H enc _ => liftedHelloCut os started H enc)
#print axioms helloCut_holds
end Go.Proofs.Ytkbnacboianjkaa
