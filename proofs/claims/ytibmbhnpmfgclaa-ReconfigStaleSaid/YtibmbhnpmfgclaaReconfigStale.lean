/- For all shapes, operations and messages the statement ReconfigStale returns true: messages with other epochs than those of the rules change nothing. No condition. -/
import Derived.Test.YtibmbhnpmfgclaaRBase
import Derived.Test.YtibmbhnpmfgclaaRStale
namespace Go.Proofs.Ytibmbhnpmfgclaa
open Go.ChangeShapes Go.WideShapes Go.ChangeAt Go.RowKit Go.Maps
set_option linter.unusedVariables false
set_option linter.unusedSimpArgs false
set_option maxRecDepth 100000 in
set_option maxHeartbeats 32000000 in
theorem walkReconfigStale (A0 : Option Addr) (kap0 : Nat) (l0 : List Nat) (A1 : Option Addr) (kap1 : Nat) (l1 : List Opn) (a2_0 a2_1 a2_2 a2_3 : Int) (w : World) (r0x : RowsAt w w.heap.size 1 ucell A0 l0) (ok0 : ∀ x ∈ l0, x ≤ 255) (le0 : l0.length ≤ kap0) (mx0 : kap0 ≤ maxLen) (r1x : RowsAt w w.heap.size 6 ocell A1 l1) (ok1 : ∀ x ∈ l1, OpOk x) (le1 : l1.length ≤ kap1) (mx1 : kap1 ≤ maxLen) (w2_0 : (Lit.int .i64 a2_0).wf = true) (w2_1 : (Lit.int .i64 a2_1).wf = true) (w2_2 : (Lit.int .i64 a2_2).wf = true) (w2_3 : (Lit.int .i64 a2_3).wf = true) :
    Calls Try.prog 6 #[.slice A0 l0.length kap0, .slice A1 l1.length kap1, .agg #[.int .i64 a2_0, .int .i64 a2_1, .int .i64 a2_2, .int .i64 a2_3]] w fun e w' => e = .returned (.bool true) ∧ Below w.heap.size w w' := by
  have hl0 : l0.length ≤ 9223372036854775807 := by unfold maxLen at mx0; omega
  have hl1 : l1.length ≤ 9223372036854775807 := by unfold maxLen at mx1; omega
  have w23 := bounds_i64 w2_3
  have hal := (Below.refl w.heap.size w).alloc (Nat.le_refl _) (.cells #[.int .i64 a2_0, .int .i64 a2_1, .int .i64 a2_2, .int .i64 a2_3] 39)
  have HR0 := Kept.mk (r0x.new_ hal)
  have HR1 := Kept.mk (r1x.new_ hal)
  have HAL := Kept.mk hal
  have HBX := Kept.mk (Blk.new w 39 #[.int .i64 a2_0, .int .i64 a2_1, .int .i64 a2_2, .int .i64 a2_3])
  have HK0 := Kept.mk ok0
  have HO1 := Kept.mk ok1
  clear ok0 ok1 r0x r1x mx0 mx1 le0 le1 hal w2_0 w2_1 w2_2 w2_3
  have HDW : Kept (Below (w.alloc (.cells #[.int .i64 a2_0, .int .i64 a2_1, .int .i64 a2_2, .int .i64 a2_3] 39)).heap.size (w.alloc (.cells #[.int .i64 a2_0, .int .i64 a2_1, .int .i64 a2_2, .int .i64 a2_3] 39)) (w.alloc (.cells #[.int .i64 a2_0, .int .i64 a2_1, .int .i64 a2_2, .int .i64 a2_3] 39))) := ⟨Below.refl _ _⟩
  have tok1 : True := trivial
  by_cases h120 : 120 < l1.length
  · go_enter Try.func6, Try.ntmps6
    go_wp2_with (first | (go_at_call 10; have _t := tok1; refine (awake_c _).mono ?_; rintro e wa ⟨rfl, hba⟩; have HDA := Kept.mk (join HDW.out hba); clear hba tok1 _t) | (go_at_call 10; refine (awake_c _).mono ?_; rintro e wb ⟨rfl, hbb⟩; have HDB := Kept.mk (join HDA.out hbb); clear hbb))
    go_ret
    exact ⟨rfl, HAL.out.trans (HDB.out.mono (by simp))⟩
  by_cases h10 : 10 < l0.length
  · go_enter Try.func6, Try.ntmps6
    go_wp2_with (first | (go_at_call 10; have _t := tok1; refine (awake_c _).mono ?_; rintro e wa ⟨rfl, hba⟩; have HDA := Kept.mk (join HDW.out hba); clear hba tok1 _t) | (go_at_call 10; refine (awake_c _).mono ?_; rintro e wb ⟨rfl, hbb⟩; have HDB := Kept.mk (join HDA.out hbb); clear hbb))
    go_ret
    exact ⟨rfl, HAL.out.trans (HDB.out.mono (by simp))⟩
  have hn1 := (tree_len l0).1
  have hn2 := (tree_len l0).2
  clear tok1
  go_enter Try.func6, Try.ntmps6
  go_wp2_with (first | (go_at_call 10; refine (awake_c _).mono ?_; rintro e wa ⟨rfl, hba⟩; have HDA := Kept.mk (join HDW.out hba); clear hba) | (go_at_call 24; refine (tree_c l0 A0 kap0 _ (HR0.out.new_ HDA.out) HK0.out (by omega)).mono ?_; rintro e wt ⟨At, kt, rfl, hot, hbt⟩; have HOT := Kept.mk hot; have HDT := Kept.mk (join HDA.out hbt); have HKT := Kept.mk (own_cap hot); clear hot hbt) | (go_at_call 11; refine (plan_c (treeP l0).length _ hn2).mono ?_; rintro e wp ⟨⟨N, C, An, kn, Ac, kc⟩, rfl, hN, hC, hp, hb⟩; simp only at hN hC; subst hN hC; unfold pv; have HPP := Kept.mk hp; have HDP := Kept.mk (join HDT.out hb); have HOP := Kept.mk (own_new HOT.out hb); clear hp hb) | (go_at_call 12; refine (New_ (planN (treeP l0).length) (planC (treeP l0).length) An Ac At kn kc kt (treeP l0) _ HPP.out (RowsAt.of_own HOP.out icell_len (by omega) rfl) (by omega)).mono ?_; rintro e wn hnr; obtain ⟨L, rfl, hLP, hLr, hC, hSL, hbn⟩ := hnr.ok (tree_new l0); have HS0 := Kept.mk (st_start hLP hLr hC hSL (join HDP.out hbn) HDP.out.size); clear hnr hLP hLr hC hSL hbn))
  have HLN : Kept (L.P.length = (treeP l0).length) := ⟨by rw [HS0.out.P]⟩
  generalize (treeP l0).length = n at *
  go_loopw [10, 44] (fun vf vi wr => ∃ (k : Nat) (M : List Nm) (fly : List Mg) (Af : Option Addr) (kf : Nat), k ≤ l1.length ∧ vi = .int .i64 k ∧ vf = .slice Af fly.length kf ∧ Kept (St (w.alloc (.cells #[.int .i64 a2_0, .int .i64 a2_1, .int .i64 a2_2, .int .i64 a2_3] 39)) L l0 k M fly Af kf wr)) (fun _ vi _ => l1.length - (intOf vi).toNat)
  case atStart => exact ⟨0, _, [], none, 0, Nat.zero_le _, rfl, rfl, HS0⟩
  case round =>
    clear HS0
    obtain ⟨k, M, fly, Af, kf, hk, rfl, rfl, HS⟩ := hrel
    have hz := HS.out.bel.size
    by_cases hlt : k < l1.length
    · obtain ⟨x, b, off, hx, hA, -, hb, hc⟩ := (HR1.out.new_ HS.out.bel).at_ hlt
      have c0 := hc 0 (.int .i64 x.kind) rfl
      have c1 := hc 1 (.int .i64 x.n) rfl
      have c2 := hc 2 (.int .i64 x.m.kind) rfl
      have c3 := hc 3 (.int .i64 x.m.frm) rfl
      have c4 := hc 4 (.int .i64 x.m.to_) rfl
      have c5 := hc 5 (.int .i64 x.m.ep) rfl
      simp only [Nat.add_zero] at c0
      have HA := Kept.mk hA
      have HXO := Kept.mk (HO1.out x (List.mem_of_getElem? hx))
      rw [hA]
      clear hx hc hA
      have HSB := Kept.mk (HS.out.new_ ((Below.refl wr.heap.size wr).alloc (Nat.le_refl _) (.cells #[.int .i64 x.kind, .int .i64 x.n, .int .i64 x.m.kind, .int .i64 x.m.frm, .int .i64 x.m.to_, .int .i64 x.m.ep] 56)))
      by_cases h6 : x.kind = 6
      · obtain ⟨q1, q2⟩ := z_yes' h6
        have HSN := Kept.mk (HSB.out.more (Nat.le_succ k))
        clear h6
        go_wp2_with fail
        go_roundw
        case rel => exact ⟨k + 1, M, fly, Af, kf, by omega, by go_num, rfl, HSN⟩
        case measure => simp [intOf]; omega
      · obtain ⟨q1, q2⟩ := z_no' h6
        clear h6 HS
        go_wp2_with (go_at_call 32; refine (step_c _ L M fly Af kf x.kind x.n x.m HSB.out.ch (HSB.out.fit (by omega)) HSB.out.own HSB.out.p10 HSB.out.fl).mono ?_; rintro e w2 hs; obtain ⟨A2, kap2, fly2, M2, rfl, hst, hR, hle, hon⟩ := HSB.out.step hs; have HS2 := Kept.mk hst; clear hs hst hR hle hon)
        go_roundw
        case rel => exact ⟨k + 1, M2, fly2, A2, kap2, by omega, by go_num, rfl, HS2⟩
        case measure => simp [intOf]; omega
    · obtain rfl : k = l1.length := by omega
      have hk120 : l1.length ≤ 120 := by omega
      have HBR := Kept.mk (HBX.out.new_ HS.out.bel)
      have k2 := HBR.out.cell 2 (v := .int .i64 a2_2) rfl
      have k3 := HBR.out.cell 3 (v := .int .i64 a2_3) rfl
      have zb := HBR.out.lt
      have hbd := epQ_bd HS.out a2_2
      have hrp : (repeatP L.P (sns M)).length ≤ 1000000000000000 := by
        have h1 := repeat_len (P := L.P) (ns := sns M)
        have h2 := HS.out.inv.len
        have h3 := HS.out.p10
        have h4 : (sns M).length * (L.P.length + 1) ≤ 10 * 11 := Nat.mul_le_mul (by omega) (by omega)
        omega
      obtain ⟨now, hnow⟩ : ∃ x, epQ (sns M) a2_2 = x := ⟨_, rfl⟩
      have HNW := Kept.mk hnow
      rw [hnow] at hbd
      have tok0 : True := trivial
      have tok1 : True := trivial
      clear hlt h120 h10
      by_cases h1 : a2_3 = now
      · obtain ⟨q1, -⟩ := z_yes' h1
        clear h1 hnow
        go_wp2_with (go_at_call 20; have _t := tok0; refine (Epoch_c _ L M a2_2 HS.out.ch).mono ?_; rintro e w2 ⟨rfl, rfl⟩; rw [HNW.out]; clear tok0 _t)
        go_ret
        exact ⟨rfl, HAL.out.trans (HS.out.bel.mono (by simp))⟩
      · obtain ⟨q1, -⟩ := z_no' h1
        by_cases h2 : a2_3 = now + 1
        · obtain ⟨q2, -⟩ := z_yes' h2
          clear h1 h2 hnow
          go_wp2_with (go_at_call 20; have _t := tok0; refine (Epoch_c _ L M a2_2 HS.out.ch).mono ?_; rintro e w2 ⟨rfl, rfl⟩; rw [HNW.out]; clear tok0 _t)
          go_ret
          exact ⟨rfl, HAL.out.trans (HS.out.bel.mono (by simp))⟩
        · obtain ⟨q2, -⟩ := z_no' h2
          have HRV : Kept (recvP L.P 0 (sns M) ⟨a2_0, a2_1, a2_2, a2_3⟩ = (sns M, [])) := ⟨stale_recv HS.out.inv.len (by rw [← hnow] at h1; exact h1) (by rw [← hnow] at h2; exact h2)⟩
          obtain ⟨z, hz⟩ : ∃ z, errP L.P ⟨a2_0, a2_1, a2_2, a2_3⟩ = z := ⟨_, rfl⟩
          have HER := Kept.mk hz
          have hzc := err_cases L.P ⟨a2_0, a2_1, a2_2, a2_3⟩
          rw [hz] at hzc
          clear h1 h2 hnow hz
          rcases hzc with rfl | rfl | rfl | rfl
          all_goals
            go_wp2_with (first | (go_at_call 20; have _t := tok0; refine (Epoch_c _ L M a2_2 HS.out.ch).mono ?_; rintro e w2 ⟨rfl, rfl⟩; rw [HNW.out]; clear tok0 _t) | (go_at_call 23; have _t := tok1; refine (Repeat_c _ L M HS.out.ch (HS.out.fit (by omega))).mono ?_; rintro e w3 ⟨A3, k3, rfl, ho3, hb3⟩; have HO3 := Kept.mk ho3; have HS3 := Kept.mk (HS.out.new_ hb3); have HB3 := Kept.mk (HBR.out.new_ hb3); have k30 := HB3.out.cell 0 (v := .int .i64 a2_0) rfl; have k31 := HB3.out.cell 1 (v := .int .i64 a2_1) rfl; have k32 := HB3.out.cell 2 (v := .int .i64 a2_2) rfl; have k33 := HB3.out.cell 3 (v := .int .i64 a2_3) rfl; have z3 := HB3.out.lt; clear ho3 hb3 tok1 _t) | (go_at_call 18; refine (Receive_c _ L M ⟨a2_0, a2_1, a2_2, a2_3⟩ HS3.out.ch (HS3.out.fit (by omega))).mono ?_; rintro e w4 hu; rw [HS3.out.root, HRV.out, HER.out] at hu; obtain ⟨A4, k4, M2, rfl, hs4, hC4, ho4, hon4, hsl4⟩ := Upd2.get hu; have HS2 : Kept (sns M2 = sns M) := ⟨hs4⟩; have HC2 := Kept.mk hC4; have HF2 : Kept (Fit (sns M2)) := ⟨by rw [hs4]; exact HS3.out.fit (by omega)⟩; have HO32 := Kept.mk (own_keep HO3.out hon4 (sl_own HS3.out.ch HO3.out)); have HBX2 := Kept.mk (HB3.out.only hon4 (fun hs => by have h9 := HS3.out.sl _ hs; simp at h9; omega)); have HD2 : Kept (Below w.heap.size w w4) := ⟨HAL.out.trans ((HS3.out.bel.trans (hon4.below (B := (w.alloc (.cells #[.int .i64 a2_0, .int .i64 a2_1, .int .i64 a2_2, .int .i64 a2_3] 39)).heap.size) HS3.out.sl HS3.out.bel.size)).mono (by simp))⟩; clear hu hs4 hC4 ho4 hon4 hsl4) | (go_at_call 23; refine (Repeat_c _ L M2 HC2.out HF2.out).mono ?_; rintro e w5 ⟨A5, k5, rfl, ho5, hb5⟩; rw [HS2.out] at ho5 ⊢; have HO5 := Kept.mk ho5; have HO35 := Kept.mk (own_new HO32.out hb5); have HC5 := Kept.mk (HC2.out.new_ hb5); have HB5 := Kept.mk (HBX2.out.new_ hb5); have k52 := HB5.out.cell 2 (v := .int .i64 a2_2) rfl; have z5 := HB5.out.lt; have HD5 := Kept.mk (join HD2.out hb5); clear ho5 hb5) | (go_at_call 33; refine (eqm_c (repeatP L.P (sns M)) (repeatP L.P (sns M)) A5 A3 k5 k3 _ _ _ (Reads.of_own HO5.out) (Reads.of_own HO35.out) hrp hrp).mono ?_; rintro e w6 ⟨rfl, n6, rfl⟩; rw [decide_eq_true rfl]; have HC6 := Kept.mk (HC5.out.new_ (below_dN _ n6))) | (go_at_call 20; refine (Epoch_c _ L M2 a2_2 HC6.out).mono ?_; rintro e w7 ⟨rfl, rfl⟩; rw [HS2.out, HNW.out]))
            go_ret
            exact ⟨rfl, dN HD5.out _⟩

set_option maxRecDepth 100000 in
theorem liftedReconfigStale (os : Os) (started : os.Started) (H : Type) (enc : TypeId × Value → H) :
    ReturnsInHanded {} Try.checked os 6 .any (Rows.reconfigStaleSpec.pre6 enc Try.prog Try.f6 Rows.reconfigStaleRow.domain false) (Rows.reconfigStaleSpec.post enc Try.prog Try.f6 false true false false) := by
  refine returnsInHanded_of_change (C := Try.checked) own started (by kernel_rfl) Try.func6
    (ChangeSpec.witness6 (enc := enc) (C := Try.checked) false ⟨#[], #[.slice none 0 0, .slice none 0 0, .agg #[.int .i64 0, .int .i64 0, .int .i64 0, .int .i64 0]], []⟩ 8 (by kernel_rfl) (by kernel_rfl) (by kernel_rfl) (by kernel_rfl)) ?_
  intro W base args ds gs before hval0 hW hcnd _
  have hval : ∀ (j : Nat) t v, Try.f6.params[j]? = some t → args[j]? = some v → Value.okWide Try.prog W .any base t v := hval0
  have hW' := hW
  obtain ⟨p, q, hA0, hV, rfl, hfz, hnd⟩ := hW
  have hA : DataW.TrodAll enc Try.prog W 0 (fun _ => true) true Try.f6.params.toList args.toList ds p := hA0
  rw [Try.params6] at hA hval
  obtain ⟨v0, vs0, d0, ds0, p0, q0, hargs, rfl, rfl, h0, r0⟩ := trodAll_cons hA
  obtain ⟨v1, vs1, d1, ds1, p1, q1, rfl, rfl, rfl, h1, r1⟩ := trodAll_cons r0
  obtain ⟨v2, vs2, d2, ds2, p2, q2, rfl, rfl, rfl, h2, r2⟩ := trodAll_cons r1
  obtain ⟨rfl, rfl, rfl⟩ := trodAll_nil r2
  obtain rfl : args = #[v0, v1, v2] := by cases args; simp_all
  obtain ⟨rfl, rfl⟩ := trodVars_none hV
  have k0 := h0
  have lt0 : ∀ x ∈ p0, x.block < W.heap.size := by obtain ⟨m, hm⟩ := k0; exact DataW.trod_lt m _ _ _ hm
  have k1 := h1
  have lt1 : ∀ x ∈ p1, x.block < W.heap.size := by obtain ⟨m, hm⟩ := k1; exact DataW.trod_lt m _ _ _ hm
  have k2 := h2
  have lt2 : ∀ x ∈ p2, x.block < W.heap.size := by obtain ⟨m, hm⟩ := k2; exact DataW.trod_lt m _ _ _ hm
  obtain ⟨A0, kap0, l0, rfl, r0x, ok0, le0, mx0⟩ := open_bytes_ (hval 0 48 v0 rfl rfl) h0
  obtain ⟨A1, kap1, l1, rfl, r1x, ok1, le1, mx1⟩ := open_ops_ (hval 1 49 v1 rfl rfl) h1
  obtain ⟨c2_0, c2_1, c2_2, c2_3, y2_0, y2_1, y2_2, y2_3, m2, rfl, -, -, hy2_0, hy2_1, hy2_2, hy2_3⟩ := Joins.open_agg4 Try.underlying39 (by kernel_rfl) (show Try.prog.cellsOf 39 = 4 by kernel_rfl) (hval 2 39 v2 rfl rfl) h2
  obtain ⟨a2_0, e2_0, -, w2_0⟩ := DataW.trod_int Try.underlying3 hy2_0
  simp only [List.cons.injEq, and_true] at e2_0; subst e2_0
  obtain ⟨a2_1, e2_1, -, w2_1⟩ := DataW.trod_int Try.underlying3 hy2_1
  simp only [List.cons.injEq, and_true] at e2_1; subst e2_1
  obtain ⟨a2_2, e2_2, -, w2_2⟩ := DataW.trod_int Try.underlying3 hy2_2
  simp only [List.cons.injEq, and_true] at e2_2; subst e2_2
  obtain ⟨a2_3, e2_3, -, w2_3⟩ := DataW.trod_int Try.underlying3 hy2_3
  simp only [List.cons.injEq, and_true] at e2_3; subst e2_3
  clear hA0 hval0
  refine (walkReconfigStale A0 kap0 l0 A1 kap1 l1 a2_0 a2_1 a2_2 a2_3 W r0x ok0 le0 mx0 r1x ok1 le1 mx1 w2_0 w2_1 w2_2 w2_3).mono fun e W' ⟨he, bel⟩ => ?_
  subst he
  exact ⟨_, rfl, _, _, _, [], _, [], hW', trodAll_mk1 (shut_bool Try.underlying4 _), (trodAll_cons_mk (Below.trod laidOut (by kernel_rfl) (of_decide_eq_true (by kernel_rfl)) k0 bel lt0) (trodAll_cons_mk (Below.trod laidOut (by kernel_rfl) (of_decide_eq_true (by kernel_rfl)) k1 bel lt1) (trodAll_cons_mk (Below.trod laidOut (by kernel_rfl) (of_decide_eq_true (by kernel_rfl)) k2 bel lt2) trodAll_mk0))), rfl, bel.frame _, fun h => by cases h⟩
/-- The given statement. -/
theorem reconfigStale_holds : Rows.ReconfigStaleSaid :=
  OpenClaim.holds_of_wide 6 Try.f6 rfl rfl rfl rfl rfl rfl rfl ⟨rfl, rfl, rfl, rfl, rfl⟩ rfl rfl rfl rfl rfl (by kernel_rfl) Try.func6 (by kernel_rfl)
    (of_decide_eq_true (by kernel_rfl)) (by unfold Func.isWrapper; first | (rw [if_pos (by decide +kernel)]; kernel_rfl) | (rw [if_neg (by decide +kernel)]; exact ⟨rfl, rfl⟩))
    (fun os started H enc _ => liftedReconfigStale os started H enc)
#print axioms reconfigStale_holds
end Go.Proofs.Ytibmbhnpmfgclaa
