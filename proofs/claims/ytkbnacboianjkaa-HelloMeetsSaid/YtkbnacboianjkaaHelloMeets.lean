/- For all intervals the statement HelloMeets returns true: two tables whose messages reach each other become TwoWay, and nothing changes afterwards. No condition. -/
import Derived.Test.YtkbnacboianjkaaBase
import Derived.Test.YtkbnacboianjkaaPairB
namespace Go.Proofs.Ytkbnacboianjkaa
open Go.ChangeShapes Go.WideShapes Go.ChangeAt Go.RowKit
set_option linter.unusedVariables false
set_option linter.unusedSimpArgs false
/-- A fact that no search opens. -/
structure Kept (p : Prop) : Prop where
  out : p
set_option maxRecDepth 100000 in
set_option maxHeartbeats 4000000 in
theorem walkHelloMeets (a0 a1 a2 : Int) (w : World) (w0 : (Lit.int .u8 a0).wf = true) (w1 : (Lit.int .u8 a1).wf = true) (w2 : (Lit.int .u8 a2).wf = true) :
    Calls Try.prog 5 #[.int .u8 a0, .int .u8 a1, .int .u8 a2] w fun e w' => e = .returned (.bool true) ∧ Below w.heap.size w w' := by
  obtain ⟨b1, b2⟩ := bounds_u8 w0
  obtain ⟨b3, b4⟩ := bounds_u8 w1
  obtain ⟨b5, b6⟩ := bounds_u8 w2
  have hx := meets_all ⟨(a0 % 6).toNat, by omega⟩ ⟨(a1 % 5).toNat, by omega⟩ ⟨(a2 % 6).toNat, by omega⟩
  simp only [meets, goX_eq] at hx
  obtain ⟨n, hn⟩ : ∃ n : Nat, 1 + a0 % 6 = (n : Int) := ⟨(1 + a0 % 6).toNat, by omega⟩
  obtain ⟨d, hd⟩ : ∃ d : Nat, (n : Int) + 1 + a1 % 5 = (d : Int) := ⟨((n : Int) + 1 + a1 % 5).toNat, by omega⟩
  obtain ⟨l, hl⟩ : ∃ l : Nat, a2 % 6 = (l : Int) := ⟨(a2 % 6).toNat, by omega⟩
  have en : 1 + (a0 % 6).toNat = n := by omega
  have ed : n + 1 + (a1 % 5).toNat = d := by omega
  have el : (a2 % 6).toNat = l := by omega
  rw [en, ed, el] at hx
  have n1 : 1 ≤ n := by omega
  have n2 : n ≤ 6 := by omega
  have m1 : 1 ≤ d := by omega
  have m2 : d ≤ 20 := by omega
  have l1 : l ≤ 5 := by omega
  have HX := Kept.mk hx
  clear hx en ed el w0 w1 w2
  go_enter Try.func5, Try.ntmps5
  go_wp2_with fail
  refine (awake_c _).mono ?_
  rintro e wa ⟨rfl, hba⟩
  have HBA := hid hba
  clear hba
  go_wp2_with fail
  refine (pair_c n d _ n1 (by omega) m1 (by omega)).mono ?_
  rintro e wb ⟨rfl, hP, hbb⟩
  have HP := hid hP
  have HBB := hid (join HBA.out hbb)
  have hB := HBA.out.size
  clear hP hbb HBA
  generalize wa.heap.size = B at *
  go_wp2_with fail
  rw [hl]
  go_loopw [42] (fun v42 wr => ∃ k : Nat, k ≤ l ∧ v42 = .int .i64 k ∧ Pr wr B k (8 * k) ((pairT n d).1, tickN k (pairT n d).2) ∧ Below w.heap.size w wr) (fun v42 _ => l - (intOf v42).toNat)
  case atStart => exact ⟨0, by omega, rfl, HP.out, HBB.out⟩
  case round =>
    obtain ⟨k, hk, rfl, hPr, hb⟩ := hrel
    have HPr := hid hPr
    have HB := hid hb
    clear hPr hb HP HBB
    by_cases hlt : k < l
    · go_wp2_with fail
      refine (tickP_c _ _ B k (8 * k) HPr.out (by omega) (by omega)).mono ?_
      rintro e w' ⟨v, rfl, hP', hb'⟩
      have HP' := hid hP'
      have HB' := hid (HB.out.trans (hb'.mono hB))
      clear hP' hb'
      go_wp2_with fail
      go_roundw
      case rel => exact ⟨k + 1, by omega, by go_num, HP'.out, HB'.out⟩
      case measure => simp [intOf]; omega
    · have hK : k = l := by omega
      have hx := HX.out
      rw [← hK] at hx
      clear HX hK
      have hq : k ≤ 5 := by omega
      simp only [Bool.and_eq_true] at hx
      obtain ⟨⟨⟨⟨hx1, hx2⟩, hx3⟩, hx4⟩, hx5⟩ := hx
      have HA := Kept.mk (allX_get _ _ _ hx1)
      have HX2 := Kept.mk hx2
      have HX3 := Kept.mk hx3
      have HX4 := Kept.mk hx4
      have HX5 := Kept.mk hx5
      have HPr2 : Hid (Pr wr B k (16 * k) (meets0 n d k)) := ⟨HPr.out.a, HPr.out.b, bd_mono HPr.out.da (Nat.le_refl _) (by omega), bd_mono HPr.out.db (Nat.le_refl _) (by omega)⟩
      clear hx1 hx2 hx3 hx4 hx5 HPr
      generalize meets0 n d k = s0 at *
      obtain ⟨k0, rfl⟩ : ∃ k0 : Nat, k0 = k := ⟨_, rfl⟩
      obtain ⟨wo, rfl⟩ : ∃ wo : World, wo = wr := ⟨_, rfl⟩
      go_wp2_with fail
      go_loopw [50] (fun v50 wr => ∃ k : Nat, k ≤ 2 * n + 2 ∧ v50 = .int .i64 k ∧ Pr wr B (k0 + k) (16 * (k0 + k)) (runX false false k s0) ∧ Below w.heap.size w wr) (fun v50 _ => 2 * n + 2 - (intOf v50).toNat)
      case atStart => exact ⟨0, by omega, rfl, HPr2.out, HB.out⟩
      case round =>
        obtain ⟨k, hk, rfl, hPr, hb⟩ := hrel
        clear HPr2 HB
        have HPr := hid hPr
        have HB := hid hb
        clear hPr hb
        by_cases hlt : k < 2 * n + 2
        · have hc := HA.out k hlt
          simp only [meetP] at hc
          have HC0 := Kept.mk hc
          clear hc
          go_wp2_with fail
          refine (exchP_c _ _ B _ _ HPr.out (by omega) (by omega) false false).mono ?_
          rintro e w' ⟨rfl, hP', hb'⟩
          have HP' := hid hP'
          have HB' := hid (HB.out.trans (hb'.mono hB))
          clear hP' hb'
          rw [HC0.out]
          go_wp2_with fail
          go_roundw
          case rel => exact ⟨k + 1, by omega, by go_num, HP'.out, HB'.out⟩
          case measure => simp [intOf]; omega
        · have hK : k = 2 * n + 2 := by omega
          rw [← hK] at HX2 HX3 HX4 HX5
          clear hK HA
          have hq2 : k ≤ 14 := by omega
          generalize runX false false k s0 = s1 at *
          have hC := HX2.out
          simp only [meetC, Bool.and_eq_true, beq_iff_eq] at hC
          obtain ⟨⟨⟨⟨⟨⟨⟨⟨f1, f2⟩, f3⟩, f4⟩, f5⟩, f6⟩, f7⟩, f8⟩, f9⟩ := hC
          have F1 := Kept.mk f1
          have F2 := Kept.mk f2
          have F3 := Kept.mk f3
          have F4 := Kept.mk f4
          have F5 := Kept.mk f5
          have F6 := Kept.mk f6
          have F7 := Kept.mk f7
          have F8 := Kept.mk f8
          have F9 := Kept.mk f9
          clear f1 f2 f3 f4 f5 f6 f7 f8 f9
          have HA := Kept.mk (allX_get _ _ _ HX3.out)
          obtain ⟨k2, rfl⟩ : ∃ k2 : Nat, k2 = k := ⟨_, rfl⟩
          obtain ⟨wo2, rfl⟩ : ∃ wo2 : World, wo2 = wr := ⟨_, rfl⟩
          go_wp2_with fail
          refine (nb_c _ _ _ _ _ HPr.out.a).mono ?_
          rintro e w1 ⟨rfl, j1, rfl⟩
          rw [F3.out, F4.out, F5.out]
          go_wp2_with fail
          refine (nb_c _ _ _ _ _ (HPr.out.b.drewN j1)).mono ?_
          rintro e w1 ⟨rfl, j2, rfl⟩
          rw [F6.out, F7.out, F8.out]
          go_wp2_with fail
          have HPd : Hid (Pr ((wo2.drewN j1).drewN j2) B (k0 + k2) (16 * (k0 + k2)) s1) := ⟨(HPr.out.a.drewN j1).drewN j2, (HPr.out.b.drewN j1).drewN j2, HPr.out.da, HPr.out.db⟩
          have HBd := hid (dN (dN HB.out j1) j2)
          obtain ⟨wd, hwd⟩ : ∃ wd : World, wd = (wo2.drewN j1).drewN j2 := ⟨_, rfl⟩
          try simp only [World.drewN_drewN] at hwd HPd HBd
          try rw [← hwd]
          rw [← hwd] at HPd HBd
          clear hwd HPr HB
          refine (state_c _ _ _ _ _ HPd.out.a).mono ?_
          rintro e w1 ⟨rfl, rfl⟩
          rw [F1.out]
          go_wp2_with fail
          refine (state_c _ _ _ _ _ HPd.out.b).mono ?_
          rintro e w1 ⟨rfl, rfl⟩
          rw [F2.out]
          go_wp2_with fail
          refine (state_c _ _ _ _ _ HPd.out.a).mono ?_
          rintro e w1 ⟨rfl, rfl⟩
          rw [F9.out]
          go_wp2_with fail
          refine (version_c _ _ _ _ HPd.out.a).mono ?_
          rintro e w1 ⟨rfl, rfl⟩
          go_wp2_with fail
          refine (version_c _ _ _ _ HPd.out.b).mono ?_
          rintro e w1 ⟨rfl, rfl⟩
          go_wp2_with fail
          go_loopw [110] (fun v110 wr => ∃ k : Nat, k ≤ 20 ∧ v110 = .int .i64 k ∧ Pr wr B (k0 + k2 + k) (16 * (k0 + k2 + k)) (runX false false k s1) ∧ Below w.heap.size w wr) (fun v110 _ => 20 - (intOf v110).toNat)
          case atStart => exact ⟨0, by omega, rfl, HPd.out, HBd.out⟩
          case round =>
            obtain ⟨k, hk, rfl, hPr, hb⟩ := hrel
            clear HPd HBd
            have HPr := hid hPr
            have HB := hid hb
            clear hPr hb
            by_cases hlt : k < 20
            · have hc := HA.out k hlt
              simp only [meetQ, Bool.and_eq_true, beq_iff_eq] at hc
              obtain ⟨⟨c1, c2⟩, c3⟩ := hc
              have C1 := Kept.mk c1
              have C2 := Kept.mk c2
              have C3 := Kept.mk c3
              clear c1 c2 c3
              have HE : Hid (runX false false (k + 1) s1 = (exch false false (runX false false k s1).1 (runX false false k s1).2).2) := rfl
              go_wp2_with fail
              refine (exchP_c _ _ B _ _ HPr.out (by omega) (by omega) false false).mono ?_
              rintro e w' ⟨rfl, hP', hb'⟩
              have HP' := hid hP'
              have HB' := hid (HB.out.trans (hb'.mono hB))
              clear hP' hb'
              rw [C1.out]
              generalize exch false false (runX false false k s1).1 (runX false false k s1).2 = r at *
              go_wp2_with fail
              refine (state_c _ _ _ _ _ HP'.out.a).mono ?_
              rintro e w1 ⟨rfl, rfl⟩
              rw [C2.out]
              go_wp2_with fail
              refine (state_c _ _ _ _ _ HP'.out.b).mono ?_
              rintro e w1 ⟨rfl, rfl⟩
              rw [C3.out]
              go_wp2_with fail
              go_roundw
              case rel => exact ⟨k + 1, by omega, by go_num, by rw [HE.out]; exact HP'.out, HB'.out⟩
              case measure => simp [intOf]; omega
            · have hK : k = 20 := by omega
              rw [← hK] at HX4 HX5
              clear hK
              have g1 := HX4.out
              have g2 := HX5.out
              generalize runX false false k s1 = s2 at *
              go_wp2_with fail
              refine (version_c _ _ _ _ HPr.out.a).mono ?_
              rintro e w1 ⟨rfl, rfl⟩
              go_wp2_with fail
              refine (version_c _ _ _ _ HPr.out.b).mono ?_
              rintro e w1 ⟨rfl, rfl⟩
              go_wp2_with fail
              go_ret
              exact ⟨rfl, HB.out⟩

set_option maxRecDepth 100000 in
theorem liftedHelloMeets (os : Os) (started : os.Started) (H : Type) (enc : TypeId × Value → H) :
    ReturnsInHanded {} Try.checked os 5 .any (Rows.helloMeetsSpec.pre6 enc Try.prog Try.f5 Rows.helloMeetsRow.domain false) (Rows.helloMeetsSpec.post enc Try.prog Try.f5 false true false false) := by
  refine returnsInHanded_of_change (C := Try.checked) own started (by kernel_rfl) Try.func5
    (ChangeSpec.witness6 (enc := enc) (C := Try.checked) false ⟨#[], #[.int .u8 0, .int .u8 0, .int .u8 0], []⟩ 8 (by kernel_rfl) (by kernel_rfl) (by kernel_rfl) (by kernel_rfl)) ?_
  intro W base args ds gs before hval0 hW hcnd _
  have hval : ∀ (j : Nat) t v, Try.f5.params[j]? = some t → args[j]? = some v → Value.okWide Try.prog W .any base t v := hval0
  have hW' := hW
  obtain ⟨p, q, hA0, hV, rfl, hfz, hnd⟩ := hW
  have hA : DataW.TrodAll enc Try.prog W 0 (fun _ => true) true Try.f5.params.toList args.toList ds p := hA0
  rw [Try.params5] at hA hval
  obtain ⟨v0, vs0, d0, ds0, p0, q0, hargs, rfl, rfl, h0, r0⟩ := trodAll_cons hA
  obtain ⟨v1, vs1, d1, ds1, p1, q1, rfl, rfl, rfl, h1, r1⟩ := trodAll_cons r0
  obtain ⟨v2, vs2, d2, ds2, p2, q2, rfl, rfl, rfl, h2, r2⟩ := trodAll_cons r1
  obtain ⟨rfl, rfl, rfl⟩ := trodAll_nil r2
  obtain rfl : args = #[v0, v1, v2] := by cases args; simp_all
  obtain ⟨rfl, rfl⟩ := trodVars_none hV
  have k0 := h0
  have lt0 : ∀ x ∈ p0, x.block < W.heap.size := by obtain ⟨m, hm⟩ := k0; exact DataW.trod_lt m _ _ _ hm
  have k1 := h1
  have lt1 : ∀ x ∈ p1, x.block < W.heap.size := by obtain ⟨m, hm⟩ := k1; exact DataW.trod_lt m _ _ _ hm
  have k2 := h2
  have lt2 : ∀ x ∈ p2, x.block < W.heap.size := by obtain ⟨m, hm⟩ := k2; exact DataW.trod_lt m _ _ _ hm
  obtain ⟨a0, rfl, -, -, w0⟩ := open_int Try.underlying5 (hval 0 5 v0 rfl rfl) h0
  obtain ⟨a1, rfl, -, -, w1⟩ := open_int Try.underlying5 (hval 1 5 v1 rfl rfl) h1
  obtain ⟨a2, rfl, -, -, w2⟩ := open_int Try.underlying5 (hval 2 5 v2 rfl rfl) h2
  clear hA0 hval0
  refine (walkHelloMeets a0 a1 a2 W w0 w1 w2).mono fun e W' ⟨he, bel⟩ => ?_
  subst he
  exact ⟨_, rfl, _, _, _, [], _, [], hW', trodAll_mk1 (shut_bool Try.underlying4 _), (trodAll_cons_mk (Below.trod laidOut (by kernel_rfl) (of_decide_eq_true (by kernel_rfl)) k0 bel lt0) (trodAll_cons_mk (Below.trod laidOut (by kernel_rfl) (of_decide_eq_true (by kernel_rfl)) k1 bel lt1) (trodAll_cons_mk (Below.trod laidOut (by kernel_rfl) (of_decide_eq_true (by kernel_rfl)) k2 bel lt2) trodAll_mk0))), rfl, bel.frame _, fun h => by cases h⟩
/-- The given statement. -/
theorem helloMeets_holds : Rows.HelloMeetsSaid :=
  OpenClaim.holds_of_wide 5 Try.f5 rfl rfl rfl rfl rfl rfl rfl ⟨rfl, rfl, rfl, rfl, rfl⟩ rfl rfl rfl rfl rfl (by kernel_rfl) Try.func5 (by kernel_rfl)
    (of_decide_eq_true (by kernel_rfl)) (by unfold Func.isWrapper; first | (rw [if_pos (by decide +kernel)]; kernel_rfl) | (rw [if_neg (by decide +kernel)]; exact ⟨rfl, rfl⟩))
    (fun os started H enc _ => liftedHelloMeets os started H enc)
#print axioms helloMeets_holds
end Go.Proofs.Ytkbnacboianjkaa
