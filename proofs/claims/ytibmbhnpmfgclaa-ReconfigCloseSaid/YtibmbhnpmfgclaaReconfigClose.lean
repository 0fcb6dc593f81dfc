/- For all shapes and operations the statement ReconfigClose returns true: whatever messages are lost, doubled or delayed, the epochs of any two nodes differ by at most one. No condition. -/
import Derived.Test.YtibmbhnpmfgclaaRBase
import Derived.Test.YtibmbhnpmfgclaaRLaw
namespace Go.Proofs.Ytibmbhnpmfgclaa
open Go.ChangeShapes Go.WideShapes Go.ChangeAt Go.RowKit Go.Maps
set_option linter.unusedVariables false
set_option linter.unusedSimpArgs false
set_option maxRecDepth 100000 in
set_option maxHeartbeats 32000000 in
theorem walkReconfigClose (A0 : Option Addr) (kap0 : Nat) (l0 : List Nat) (A1 : Option Addr) (kap1 : Nat) (l1 : List Opn) (w : World) (r0x : RowsAt w w.heap.size 1 ucell A0 l0) (ok0 : ∀ x ∈ l0, x ≤ 255) (le0 : l0.length ≤ kap0) (mx0 : kap0 ≤ maxLen) (r1x : RowsAt w w.heap.size 6 ocell A1 l1) (ok1 : ∀ x ∈ l1, OpOk x) (le1 : l1.length ≤ kap1) (mx1 : kap1 ≤ maxLen) :
    Calls Try.prog 9 #[.slice A0 l0.length kap0, .slice A1 l1.length kap1] w fun e w' => e = .returned (.bool true) ∧ Below w.heap.size w w' := by
  have hl0 : l0.length ≤ 9223372036854775807 := by unfold maxLen at mx0; omega
  have hl1 : l1.length ≤ 9223372036854775807 := by unfold maxLen at mx1; omega
  have HR0 := Kept.mk r0x
  have HR1 := Kept.mk r1x
  have HK0 := Kept.mk ok0
  have HO1 := Kept.mk ok1
  clear ok0 ok1 r0x r1x mx0 mx1 le0 le1
  have HDW : Kept (Below w.heap.size w w) := ⟨Below.refl _ _⟩
  have tok1 : True := trivial
  by_cases h120 : 120 < l1.length
  · go_enter Try.func9, Try.ntmps9
    go_wp2_with (first | (go_at_call 10; have _t := tok1; refine (awake_c _).mono ?_; rintro e wa ⟨rfl, hba⟩; have HDA := Kept.mk (join HDW.out hba); clear hba tok1 _t) | (go_at_call 10; refine (awake_c _).mono ?_; rintro e wb ⟨rfl, hbb⟩; have HDB := Kept.mk (join HDA.out hbb); clear hbb))
    go_ret
    exact ⟨rfl, HDB.out⟩
  by_cases h10 : 10 < l0.length
  · go_enter Try.func9, Try.ntmps9
    go_wp2_with (first | (go_at_call 10; have _t := tok1; refine (awake_c _).mono ?_; rintro e wa ⟨rfl, hba⟩; have HDA := Kept.mk (join HDW.out hba); clear hba tok1 _t) | (go_at_call 10; refine (awake_c _).mono ?_; rintro e wb ⟨rfl, hbb⟩; have HDB := Kept.mk (join HDA.out hbb); clear hbb))
    go_ret
    exact ⟨rfl, HDB.out⟩
  have hn1 := (tree_len l0).1
  have hn2 := (tree_len l0).2
  clear tok1
  obtain ⟨jj, hjj, hy0, hy1, hy2⟩ := info_parts infoI
  have hmk := fun w => run_make_flat (P := Try.prog) icell_len (by omega) (0 : Int) 22 3 _ 8 Try.underlying22 infoI rfl (treeP l0).length (by omega) (by omega) w
  go_enter Try.func9, Try.ntmps9
  go_wp2_with (first | (go_at_call 10; refine (awake_c _).mono ?_; rintro e wa ⟨rfl, hba⟩; have HDA := Kept.mk (join HDW.out hba); clear hba) | (go_at_call 24; refine (tree_c l0 A0 kap0 _ (HR0.out.new_ HDA.out) HK0.out (by omega)).mono ?_; rintro e wt ⟨At, kt, rfl, hot, hbt⟩; have HOT := Kept.mk hot; have HDT := Kept.mk (join HDA.out hbt); have HKT := Kept.mk (own_cap hot); clear hot hbt) | (go_at_call 11; refine (plan_c (treeP l0).length _ hn2).mono ?_; rintro e wp ⟨⟨N, C, An, kn, Ac, kc⟩, rfl, hN, hC, hp, hb⟩; simp only at hN hC; subst hN hC; unfold pv; have HPP := Kept.mk hp; have HDP := Kept.mk (join HDT.out hb); have HOP := Kept.mk (own_new HOT.out hb); clear hp hb) | (go_at_call 12; refine (New_ (planN (treeP l0).length) (planC (treeP l0).length) An Ac At kn kc kt (treeP l0) _ HPP.out (RowsAt.of_own HOP.out icell_len (by omega) rfl) (by omega)).mono ?_; rintro e wn hnr; obtain ⟨L, rfl, hLP, hLr, hC, hSL, hbn⟩ := hnr.ok (tree_new l0); have HS0 := Kept.mk (st_start hLP hLr hC hSL (join HDP.out hbn) HDP.out.size); clear hnr hLP hLr hC hSL hbn))
  have HS1 := Kept.mk (HS0.out.new_ ((Below.refl wn.heap.size wn).alloc (Nat.le_refl _) (.cells ((List.replicate (treeP l0).length (0 : Int)).flatMap icell).toArray 3)))
  have HW1 : Kept ((wn.alloc (.cells ((List.replicate (treeP l0).length (0 : Int)).flatMap icell).toArray 3)).ownsRow 0 3 1 (.slice (some ⟨wn.heap.size, 0, none⟩) (treeP l0).length (treeP l0).length) (treeP l0).length ((epsL (sns (List.replicate (treeP l0).length ⟨⟨0, 0, [], false⟩, none⟩)) (treeP l0).length).flatMap icell)) := ⟨by rw [sns_rep, eps0]; exact own_base (own_zeros wn _ (by omega)) (Nat.zero_le _)⟩
  have HLN : Kept (L.P.length = (treeP l0).length) := ⟨by rw [HS0.out.P]⟩
  clear HS0 hmk
  generalize (treeP l0).length = n at *
  go_loopw [8, 9, 44] (fun v8 v9 v44 wr => ∃ (k : Nat) (M : List Nm) (fly : List Mg) (Af : Option Addr) (kf : Nat) (Aw : Option Addr) (kw : Nat), k ≤ l1.length ∧ v44 = .int .i64 k ∧ v9 = .slice Af fly.length kf ∧ v8 = .slice Aw n kw ∧ Kept (St w L l0 k M fly Af kf wr) ∧ Kept (wr.ownsRow 0 3 1 (.slice Aw n kw) n ((epsL (sns M) n).flatMap icell)) ∧ Kept (L.P.length = n)) (fun _ _ v44 _ => l1.length - (intOf v44).toNat)
  case atStart => exact ⟨0, _, [], none, 0, _, _, Nat.zero_le _, rfl, rfl, rfl, HS1, HW1, HLN⟩
  case round =>
    clear HS1 HW1 HLN
    obtain ⟨k, M, fly, Af, kf, Aw, kw, hk, rfl, rfl, rfl, HS, HW, HLN⟩ := hrel
    have hz := HS.out.bel.size
    by_cases hlt : k < l1.length
    · obtain ⟨x, b, off, hx, hA, -, hb, hc⟩ := (HR1.out.new_ HS.out.bel).at_ hlt
      have c0 := hc 0 (.int .i64 x.kind) rfl
      have c1 := hc 1 (.int .i64 x.n) rfl
      have c2 := hc 2 (.int .i64 x.m.kind) rfl
      have c3 := hc 3 (.int .i64 x.m.frm) rfl
      have c4 := hc 4 (.int .i64 x.m.to_) rfl
      have c5 := hc 5 (.int .i64 x.m.ep) rfl
      simp only [Nat.add_zero] at c0
      have HA := Kept.mk hA
      have HXO := Kept.mk (HO1.out x (List.mem_of_getElem? hx))
      rw [hA]
      clear hx hc hA
      by_cases h6 : x.kind = 6
      · obtain ⟨q1, q2⟩ := z_yes' h6
        have HSN := Kept.mk ((HS.out.new_ ((Below.refl wr.heap.size wr).alloc (Nat.le_refl _) (.cells #[.int .i64 x.kind, .int .i64 x.n, .int .i64 x.m.kind, .int .i64 x.m.frm, .int .i64 x.m.to_, .int .i64 x.m.ep] 56))).more (Nat.le_succ k))
        have HWN := Kept.mk (HW.out.alloc (.cells #[.int .i64 x.kind, .int .i64 x.n, .int .i64 x.m.kind, .int .i64 x.m.frm, .int .i64 x.m.to_, .int .i64 x.m.ep] 56))
        clear h6
        go_wp2_with fail
        go_roundw
        case rel => exact ⟨k + 1, M, fly, Af, kf, Aw, kw, by omega, by go_num, rfl, rfl, HSN, HWN, HLN⟩
        case measure => simp [intOf]; omega
      · obtain ⟨q1, q2⟩ := z_no' h6
        have HSB := Kept.mk (HS.out.new_ ((Below.refl wr.heap.size wr).alloc (Nat.le_refl _) (.cells #[.int .i64 x.kind, .int .i64 x.n, .int .i64 x.m.kind, .int .i64 x.m.frm, .int .i64 x.m.to_, .int .i64 x.m.ep] 56)))
        have HWB := Kept.mk (HW.out.alloc (.cells #[.int .i64 x.kind, .int .i64 x.n, .int .i64 x.m.kind, .int .i64 x.m.frm, .int .i64 x.m.to_, .int .i64 x.m.ep] 56))
        clear h6 HS HW
        go_wp2_with (go_at_call 32; refine (step_c _ L M fly Af kf x.kind x.n x.m HSB.out.ch (HSB.out.fit (by omega)) HSB.out.own HSB.out.p10 HSB.out.fl).mono ?_; rintro e w2 hs; obtain ⟨A2, kap2, fly2, M2, rfl, hst, hR, hle, hon⟩ := HSB.out.step hs; have HS2 := Kept.mk hst; have HLE := Kept.mk hle; have HW2 := Kept.mk (own_keep HWB.out hon (sl_own3 HSB.out.ch HWB.out (by decide))); clear hs hst hR hle hon)
        obtain ⟨gw, hgwe, -, hgw2⟩ := own_some HW2.out hn1
        have HGW := Kept.mk hgwe
        rw [hgwe]
        rw [hgwe] at HW2
        clear hgwe
        have HL2 : Kept ((sns M2).length = n) := ⟨by rw [HS2.out.inv.len, HLN.out]⟩
        go_loopw [12, 57] (fun v12 v57 wr2 => ∃ (i : Nat) (An : Option Addr) (kn : Nat), i ≤ n ∧ v57 = .int .i64 i ∧ v12 = .slice An i kn ∧ Kept (wr2.ownsRow w2.heap.size 3 1 (.slice An i kn) i ((epsL (sns M2) i).flatMap icell)) ∧ Kept (Below w2.heap.size w2 wr2)) (fun _ v57 _ => n - (intOf v57).toNat)
        case atStart => exact ⟨0, none, 0, Nat.zero_le _, rfl, rfl, ⟨World.ownsRow_nil _ _ _ _⟩, ⟨Below.refl _ _⟩⟩
        case round =>
          obtain ⟨i, An, kn, hi, rfl, rfl, HO, HB⟩ := hrel
          have hzb := HB.out.size
          by_cases hit : i < n
          · have HEQ : Kept (epQ (sns M2) (i : Int) = ((nd (sns M2) i).ep : Int)) := ⟨epQ_at (by rw [HL2.out]; exact hit)⟩
            have e1 : (nd (sns M) i).ep ≤ (nd (sns M2) i).ep := HLE.out.ep0 i
            have e2 : (nd (sns M2) i).ep ≤ (nd (sns M) i).ep + 1 := HLE.out.ep1 i
            have e3 : (nd (sns M2) i).ep ≤ k + 1 := HS2.out.ep i
            have p1 := decide_eq_false (show ¬ ((nd (sns M2) i).ep : Int) < ((nd (sns M) i).ep : Int) by omega)
            have p2 := decide_eq_false (show ¬ ((nd (sns M) i).ep : Int) + 1 < ((nd (sns M2) i).ep : Int) by omega)
            have p3 := decide_eq_false (show ¬ (nd (sns M2) i).ep < (nd (sns M) i).ep by omega)
            have p4 := decide_eq_false (show ¬ (nd (sns M) i).ep + 1 < (nd (sns M2) i).ep by omega)
            have HM6 := Kept.mk (reads_made wr #[.int .i64 ((nd (sns M2) i).ep : Int)] 3 1 1 rfl)
            have HO6 := Kept.mk (HO.out.alloc (.cells #[.int .i64 ((nd (sns M2) i).ep : Int)] 3))
            have g1 : ∀ u ∈ (#[Value.int .i64 ((nd (sns M2) i).ep : Int)]).toList, u.oneCell' = true := (by intro u hu; simp at hu; subst hu; rfl)
            go_wp2_with (first | (go_at_call 20; refine (Epoch_c _ L M2 (i : Int) (HS2.out.ch.new_ HB.out)).mono ?_; rintro e w3 ⟨rfl, rfl⟩; rw [HEQ.out]) | (at_builtin; refine wpList_append_any _ rfl _ _ _ rfl w2.heap.size 3 jj _ 1 8 Try.underlying22 hjj hy0 hy1 hy2 rfl (by omega) _ i _ rfl HO6.out _ _ 1 1 _ rfl HM6.out g1 (by unfold maxLen; omega) (by omega) (by simp; omega) ?_; intro v' w4 ho hgw hat; obtain ⟨Av, kv, rfl⟩ := own_slice ho; have ho8 : w4.ownsRow w2.heap.size 3 1 (.slice Av (i + 1) kv) (i + 1) ((epsL (sns M2) (i + 1)).flatMap icell) := (by rw [epsL_succ, List.flatMap_append]; simpa [icell] using ho); obtain ⟨gv, rfl, hgv, hgl⟩ := own_some ho8 (by omega); have cv := row_cell ho8 (epsL_get (Nat.lt_succ_self i)); have HO8 := Kept.mk ho8; have HB8 := Kept.mk ((HB.out.alloc HB.out.size _).grown hgw (by simp; omega) (fun j hj => (HO6.out.lt j hj).1)); have cw := row_cell (own_new HW2.out HB8.out) (epsL_get hit); have hgw8 : gw < w4.heap.size := Nat.lt_of_lt_of_le hgw2 HB8.out.size; have hkv := own_cap ho8; clear ho ho8 hgw hat))
            generalize (nd (sns M2) i).ep = z2 at *
            generalize (nd (sns M) i).ep = z1 at *
            go_quiet (fail)
            go_wp2_with fail
            go_roundw
            case rel => exact ⟨i + 1, _, kv, by omega, by go_num, rfl, HO8, ⟨dN HB8.out _⟩⟩
            case measure => simp [intOf]; omega
          · obtain rfl : i = n := by omega
            have HRN := Kept.mk (RowsAt.of_own HO.out icell_len (by omega) (epsL_len _ _).symm)
            have HEL := Kept.mk (epsL_len (sns M2) i)
            have HNR : Kept (∀ x y, x ∈ epsL (sns M2) i → y ∈ epsL (sns M2) i → x - y ≤ 1 ∧ -1000000 ≤ x - y) := ⟨fun x y hx hy => by
              unfold epsL at hx hy
              obtain ⟨u, hu, rfl⟩ := List.mem_map.1 hx
              obtain ⟨v, hv, rfl⟩ := List.mem_map.1 hy
              rw [List.mem_range, ← HLN.out] at hu hv
              have h1 := near HS2.out.inv HS2.out.tree hu hv
              have h2 := HS2.out.ep v
              omega⟩
            have HN1 : Kept (0 < (epsL (sns M2) i).length) := ⟨by rw [epsL_len]; omega⟩
            have HN2 : Kept ((epsL (sns M2) i).length ≤ 1000000) := ⟨by rw [epsL_len]; omega⟩
            have HMX := Kept.mk (fun W hW => max_c (epsL (sns M2) i) An W kn wr hW HN1.out HN2.out)
            have HMN := Kept.mk (fun W hW => min_c (epsL (sns M2) i) An W kn wr hW HN1.out HN2.out)
            rw [HEL.out] at HMX HMN
            clear hit
            go_wp2_with (first | (go_at_call 34; refine (HMX.out _ HRN.out).mono ?_; rintro e w3 ⟨⟨x1, rfl, hx1⟩, rfl⟩; have HX1 := Kept.mk hx1; clear hx1) | (go_at_call 35; refine (HMN.out _ HRN.out).mono ?_; rintro e w3 ⟨⟨x2, rfl, hx2⟩, rfl⟩; obtain ⟨hd1, hd2⟩ := HNR.out x1 x2 HX1.out hx2; have p9 := decide_eq_false (show ¬ (1 : Int) < x1 - x2 by omega); clear hx2))
            go_roundw
            case rel => exact ⟨k + 1, M2, fly2, A2, kap2, An, kn, by omega, by go_num, rfl, rfl, ⟨HS2.out.new_ HB.out⟩, ⟨own_base HO.out (Nat.zero_le _)⟩, HLN⟩
            case measure => simp [intOf]; omega
    · obtain rfl : k = l1.length := by omega
      clear hlt
      go_wp2_with fail
      go_ret
      exact ⟨rfl, HS.out.bel⟩

set_option maxRecDepth 100000 in
theorem liftedReconfigClose (os : Os) (started : os.Started) (H : Type) (enc : TypeId × Value → H) :
    ReturnsInHanded {} Try.checked os 9 .any (Rows.reconfigCloseSpec.pre6 enc Try.prog Try.f9 Rows.reconfigCloseRow.domain false) (Rows.reconfigCloseSpec.post enc Try.prog Try.f9 false true false false) := by
  refine returnsInHanded_of_change (C := Try.checked) own started (by kernel_rfl) Try.func9
    (ChangeSpec.witness6 (enc := enc) (C := Try.checked) false ⟨#[], #[.slice none 0 0, .slice none 0 0], []⟩ 8 (by kernel_rfl) (by kernel_rfl) (by kernel_rfl) (by kernel_rfl)) ?_
  intro W base args ds gs before hval0 hW hcnd _
  have hval : ∀ (j : Nat) t v, Try.f9.params[j]? = some t → args[j]? = some v → Value.okWide Try.prog W .any base t v := hval0
  have hW' := hW
  obtain ⟨p, q, hA0, hV, rfl, hfz, hnd⟩ := hW
  have hA : DataW.TrodAll enc Try.prog W 0 (fun _ => true) true Try.f9.params.toList args.toList ds p := hA0
  rw [Try.params9] at hA hval
  obtain ⟨v0, vs0, d0, ds0, p0, q0, hargs, rfl, rfl, h0, r0⟩ := trodAll_cons hA
  obtain ⟨v1, vs1, d1, ds1, p1, q1, rfl, rfl, rfl, h1, r1⟩ := trodAll_cons r0
  obtain ⟨rfl, rfl, rfl⟩ := trodAll_nil r1
  obtain rfl : args = #[v0, v1] := by cases args; simp_all
  obtain ⟨rfl, rfl⟩ := trodVars_none hV
  have k0 := h0
  have lt0 : ∀ x ∈ p0, x.block < W.heap.size := by obtain ⟨m, hm⟩ := k0; exact DataW.trod_lt m _ _ _ hm
  have k1 := h1
  have lt1 : ∀ x ∈ p1, x.block < W.heap.size := by obtain ⟨m, hm⟩ := k1; exact DataW.trod_lt m _ _ _ hm
  obtain ⟨A0, kap0, l0, rfl, r0x, ok0, le0, mx0⟩ := open_bytes_ (hval 0 48 v0 rfl rfl) h0
  obtain ⟨A1, kap1, l1, rfl, r1x, ok1, le1, mx1⟩ := open_ops_ (hval 1 49 v1 rfl rfl) h1
  clear hA0 hval0
  refine (walkReconfigClose A0 kap0 l0 A1 kap1 l1 W r0x ok0 le0 mx0 r1x ok1 le1 mx1).mono fun e W' ⟨he, bel⟩ => ?_
  subst he
  exact ⟨_, rfl, _, _, _, [], _, [], hW', trodAll_mk1 (shut_bool Try.underlying4 _), (trodAll_cons_mk (Below.trod laidOut (by kernel_rfl) (of_decide_eq_true (by kernel_rfl)) k0 bel lt0) (trodAll_cons_mk (Below.trod laidOut (by kernel_rfl) (of_decide_eq_true (by kernel_rfl)) k1 bel lt1) trodAll_mk0)), rfl, bel.frame _, fun h => by cases h⟩
/-- The given statement. -/
theorem reconfigClose_holds : Rows.ReconfigCloseSaid :=
  OpenClaim.holds_of_wide 9 Try.f9 rfl rfl rfl rfl rfl rfl rfl ⟨rfl, rfl, rfl, rfl, rfl⟩ rfl rfl rfl rfl rfl (by kernel_rfl) Try.func9 (by kernel_rfl)
    (of_decide_eq_true (by kernel_rfl)) (by unfold Func.isWrapper; first | (rw [if_pos (by decide +kernel)]; kernel_rfl) | (rw [if_neg (by decide +kernel)]; exact ⟨rfl, rfl⟩))
    (fun os started H enc _ => liftedReconfigClose os started H enc)
#print axioms reconfigClose_holds
end Go.Proofs.Ytibmbhnpmfgclaa
