/- For all shapes and operations the statement ReconfigRuns returns true: all messages, epochs and phases are those of the reference. No condition. -/
import Derived.Test.YtibmbhnpmfgclaaRBase
import Derived.Test.YtibmbhnpmfgclaaRZR
namespace Go.Proofs.Ytibmbhnpmfgclaa
open Go.ChangeShapes Go.WideShapes Go.ChangeAt Go.RowKit Go.Maps
set_option linter.unusedVariables false
set_option linter.unusedSimpArgs false
set_option maxRecDepth 100000 in
set_option maxHeartbeats 32000000 in
theorem walkReconfigRuns (A0 : Option Addr) (kap0 : Nat) (l0 : List Nat) (A1 : Option Addr) (kap1 : Nat) (l1 : List Opn) (w : World) (r0x : RowsAt w w.heap.size 1 ucell A0 l0) (ok0 : ∀ x ∈ l0, x ≤ 255) (le0 : l0.length ≤ kap0) (mx0 : kap0 ≤ maxLen) (r1x : RowsAt w w.heap.size 6 ocell A1 l1) (ok1 : ∀ x ∈ l1, OpOk x) (le1 : l1.length ≤ kap1) (mx1 : kap1 ≤ maxLen) :
    Calls Try.prog 5 #[.slice A0 l0.length kap0, .slice A1 l1.length kap1] w fun e w' => e = .returned (.bool true) ∧ Below w.heap.size w w' := by
  have hl0 : l0.length ≤ 9223372036854775807 := by unfold maxLen at mx0; omega
  have hl1 : l1.length ≤ 9223372036854775807 := by unfold maxLen at mx1; omega
  have HR0 := Kept.mk r0x
  have HR1 := Kept.mk r1x
  have HK0 := Kept.mk ok0
  have HO1 := Kept.mk ok1
  clear ok0 ok1 r0x r1x mx0 mx1 le0 le1
  have HDW : Kept (Below w.heap.size w w) := ⟨Below.refl _ _⟩
  have tok1 : True := trivial
  by_cases h120 : 120 < l1.length
  · go_enter Try.func5, Try.ntmps5
    go_wp2_with (first | (go_at_call 10; have _t := tok1; refine (awake_c _).mono ?_; rintro e wa ⟨rfl, hba⟩; have HDA := Kept.mk (join HDW.out hba); clear hba tok1 _t) | (go_at_call 10; refine (awake_c _).mono ?_; rintro e wb ⟨rfl, hbb⟩; have HDB := Kept.mk (join HDA.out hbb); clear hbb))
    go_ret
    exact ⟨rfl, HDB.out⟩
  by_cases h10 : 10 < l0.length
  · go_enter Try.func5, Try.ntmps5
    go_wp2_with (first | (go_at_call 10; have _t := tok1; refine (awake_c _).mono ?_; rintro e wa ⟨rfl, hba⟩; have HDA := Kept.mk (join HDW.out hba); clear hba tok1 _t) | (go_at_call 10; refine (awake_c _).mono ?_; rintro e wb ⟨rfl, hbb⟩; have HDB := Kept.mk (join HDA.out hbb); clear hbb))
    go_ret
    exact ⟨rfl, HDB.out⟩
  have hn1 := (tree_len l0).1
  have hn2 := (tree_len l0).2
  clear tok1
  obtain ⟨jj, hjj, hy0, hy1, hy2⟩ := info_parts infoM
  go_enter Try.func5, Try.ntmps5
  go_wp2_with (first | (go_at_call 10; refine (awake_c _).mono ?_; rintro e wa ⟨rfl, hba⟩; have HDA := Kept.mk (join HDW.out hba); clear hba) | (go_at_call 24; refine (tree_c l0 A0 kap0 _ (HR0.out.new_ HDA.out) HK0.out (by omega)).mono ?_; rintro e wt ⟨At, kt, rfl, hot, hbt⟩; have HOT := Kept.mk hot; have HDT := Kept.mk (join HDA.out hbt); have HKT := Kept.mk (own_cap hot); clear hot hbt) | (go_at_call 11; refine (plan_c (treeP l0).length _ hn2).mono ?_; rintro e wp ⟨⟨N, C, An, kn, Ac, kc⟩, rfl, hN, hC, hp, hb⟩; simp only at hN hC; subst hN hC; unfold pv; have HPP := Kept.mk hp; have HDP := Kept.mk (join HDT.out hb); have HOP := Kept.mk (own_new HOT.out hb); clear hp hb) | (go_at_call 12; refine (New_ (planN (treeP l0).length) (planC (treeP l0).length) An Ac At kn kc kt (treeP l0) _ HPP.out (RowsAt.of_own HOP.out icell_len (by omega) rfl) (by omega)).mono ?_; rintro e wn hnr; obtain ⟨L, rfl, hLP, hLr, hC, hSL, hbn⟩ := hnr.ok (tree_new l0); have HBN := Kept.mk hbn; have HS0 := Kept.mk (st_start hLP hLr hC hSL (join HDP.out hbn) HDP.out.size); clear hnr hLP hLr hC hSL hbn))
  refine (rNew_c _ (treeP l0) At _ kt (RowsAt.of_own (own_new HOP.out HBN.out) icell_len (by omega) rfl) (Nat.le_refl _) (by omega) (by omega)).mono ?_
  rintro e wm ⟨S0, rfl, hrp, hrat, hbm⟩
  have HRP := Kept.mk hrp
  have HS1 := Kept.mk (Sl.start (HS0.out.new_ hbm) (HS0.out.P.symm ▸ hrat))
  clear hrp hrat hbm
  go_wp2_with fail
  have HB1 : Kept (Blk (wm.alloc (.cells #[.slice (some ⟨S0.gp, 0, none⟩) (treeP l0).length S0.kp, .slice (some ⟨S0.g, 0, none⟩) (treeP l0).length S0.kn] 53)) wm.heap.size 53 #[.slice (some ⟨S0.gp, 0, none⟩) L.P.length S0.kp, .slice (some ⟨S0.g, 0, none⟩) L.P.length S0.kn]) := ⟨by rw [HS0.out.P]; exact Blk.new _ _ _⟩
  have HS2 := Kept.mk (HS1.out.new_ ((Below.refl wm.heap.size wm).alloc (Nat.le_refl _) (.cells #[.slice (some ⟨S0.gp, 0, none⟩) (treeP l0).length S0.kp, .slice (some ⟨S0.g, 0, none⟩) (treeP l0).length S0.kn] 53)))
  have HM1 := Kept.mk (Sm.start (xs := l0) HS0.out.P HRP.out)
  have hb0 : w.heap.size ≤ wm.heap.size := HS1.out.bel.size
  clear HS0 HS1 HRP
  generalize (treeP l0).length = n at *
  generalize wm.heap.size = bs at *
  go_loopw [9, 46] (fun v9 v46 wr => ∃ (k : Nat) (M : List Nm) (S : RSt) (fly : List Mg) (Af : Option Addr) (kf : Nat), k ≤ l1.length ∧ v46 = .int .i64 k ∧ v9 = .slice Af fly.length kf ∧ Kept (Sl w L l0 M S fly Af kf wr) ∧ Kept (Blk wr bs 53 #[.slice (some ⟨S.gp, 0, none⟩) L.P.length S.kp, .slice (some ⟨S.g, 0, none⟩) L.P.length S.kn]) ∧ Kept (Sm L.P (sns M) (rps S) fly.length k)) (fun _ v46 _ => l1.length - (intOf v46).toNat)
  case atStart => exact ⟨0, _, S0, [], none, 0, Nat.zero_le _, rfl, rfl, HS2, HB1, HM1⟩
  case round =>
    clear HS2 HB1 HM1
    obtain ⟨k, M, S, fly, Af, kf, hk, rfl, rfl, HS, HB, HSM⟩ := hrel
    have hz := HS.out.bel.size
    by_cases hlt : k < l1.length
    · obtain ⟨⟨kd, n9, m9⟩, b, off, hx, hA, -, hb, hc⟩ := (HR1.out.new_ HS.out.bel).at_ hlt
      have c0 := hc 0 (.int .i64 kd) rfl
      have c1 := hc 1 (.int .i64 n9) rfl
      have c2 := hc 2 (.int .i64 m9.kind) rfl
      have c3 := hc 3 (.int .i64 m9.frm) rfl
      have c4 := hc 4 (.int .i64 m9.to_) rfl
      have c5 := hc 5 (.int .i64 m9.ep) rfl
      simp only [Nat.add_zero] at c0
      have HA := Kept.mk hA
      rw [hA]
      clear hx hc hA
      have PR1 : Kept (Pr w L l0 M S S fly Af kf bs wr.heap.size ⟨kd, n9, m9⟩ (wr.alloc (.cells #[.int .i64 kd, .int .i64 n9, .int .i64 m9.kind, .int .i64 m9.frm, .int .i64 m9.to_, .int .i64 m9.ep] 56))) := ⟨HS.out.new_ ((Below.refl wr.heap.size wr).alloc (Nat.le_refl _) (.cells #[.int .i64 kd, .int .i64 n9, .int .i64 m9.kind, .int .i64 m9.frm, .int .i64 m9.to_, .int .i64 m9.ep] 56)), HB.out.alloc _, Blk.new _ _ _, hb0⟩
      have HFT := Kept.mk (HS.out.fit HSM.out (by omega))
      have HRE := Kept.mk (HSM.out.rep HS.out.rat (by omega))
      have hflm := HSM.out.fl
      have hTr := Kept.mk HS.out.tree
      have hp10 := HS.out.p10
      have hcf := own_cap HS.out.own
      have HCF := Kept.mk hcf
      clear hcf HS HB
      go_upto_block 2 with fail
      generalize hW1 : (wr.alloc (.cells #[.int .i64 kd, .int .i64 n9, .int .i64 m9.kind, .int .i64 m9.frm, .int .i64 m9.to_, .int .i64 m9.ep] 56)) = wb at *
      generalize hbo : wr.heap.size = bo at *
      clear hW1 hbo
      go_cut [12, 13, 14, 15] (fun s12 s13 s14 s15 wx => ∃ (M2 : List Nm) (S2 : RSt) (l : List Mg) (A2 : Option Addr) (k2 : Nat) (A3 : Option Addr) (k3 : Nat) (z : Int), s12 = .slice A2 l.length k2 ∧ s13 = .slice A3 l.length k3 ∧ s14 = .int .i64 z ∧ s15 = .int .i64 z ∧ Kept (Sw w L l0 M2 S2 fly Af kf bs bo ⟨kd, n9, m9⟩ (k + 1) l A2 k2 A3 k3 wx))
      case first =>
        clear hjj hy0 hy1 hy2
        rcases (by omega : kd = 0 ∨ kd = 1 ∨ kd = 2 ∨ kd = 4 ∨ kd = 5 ∨ kd = 6 ∨ (kd < 0 ∨ kd = 3 ∨ 6 < kd)) with hkd | hkd | hkd | hkd | hkd | hkd | hko
        · subst hkd
          obtain ⟨o, q, z, hop⟩ := op_begin PR1.out HSM.out (by omega)
          have HOP1 := Kept.mk hop
          clear hop
          have k0 := PR1.out.bx.cell 0 (v := .slice (some ⟨S.gp, 0, none⟩) L.P.length S.kp) rfl
          have k1 := PR1.out.bx.cell 1 (v := .slice (some ⟨S.g, 0, none⟩) L.P.length S.kn) rfl
          have kz := PR1.out.bx.lt
          have kf0 := PR1.out.bx.free 0
          have kf1 := PR1.out.bx.free 1
          have o0 := PR1.out.op.cell 0 (v := .int .i64 0) rfl
          have o1 := PR1.out.op.cell 1 (v := .int .i64 n9) rfl
          have o2 := PR1.out.op.cell 2 (v := .int .i64 m9.kind) rfl
          have o3 := PR1.out.op.cell 3 (v := .int .i64 m9.frm) rfl
          have o4 := PR1.out.op.cell 4 (v := .int .i64 m9.to_) rfl
          have o5 := PR1.out.op.cell 5 (v := .int .i64 m9.ep) rfl
          have oz := PR1.out.op.lt
          go_wp2_with (first | (go_at_call 17; refine (HOP1.out.cp _ PR1.out).mono ?_; rintro e w2 hu; obtain ⟨A2, k2, M2, rfl, hs2, hp2, hr2, hkp⟩ := PR1.out.prog hu; have HS2 := Kept.mk hs2; have PR2 := Kept.mk hp2; have R2 := Kept.mk hr2; clear k0 k1 kz kf0 kf1 o0 o1 o2 o3 o4 o5 oz; have k0 := PR2.out.bx.cell 0 (v := .slice (some ⟨S.gp, 0, none⟩) L.P.length S.kp) rfl; have k1 := PR2.out.bx.cell 1 (v := .slice (some ⟨S.g, 0, none⟩) L.P.length S.kn) rfl; have kz := PR2.out.bx.lt; have kf0 := PR2.out.bx.free 0; have kf1 := PR2.out.bx.free 1; have o0 := PR2.out.op.cell 0 (v := .int .i64 0) rfl; have o1 := PR2.out.op.cell 1 (v := .int .i64 n9) rfl; have o2 := PR2.out.op.cell 2 (v := .int .i64 m9.kind) rfl; have o3 := PR2.out.op.cell 3 (v := .int .i64 m9.frm) rfl; have o4 := PR2.out.op.cell 4 (v := .int .i64 m9.to_) rfl; have o5 := PR2.out.op.cell 5 (v := .int .i64 m9.ep) rfl; have oz := PR2.out.op.lt; clear hu hs2 hp2 hr2 hkp) | (go_at_call 26; refine (HOP1.out.cr _ _ PR2.out).mono ?_; rintro e w3 hu; obtain ⟨S3, A3, k3, rfl, hs3, hp3, hr3, hb3⟩ := PR2.out.ref hu; have HS3 := Kept.mk hs3; have PR3 := Kept.mk hp3; have R3 := Kept.mk hr3; have R23 := Kept.mk (R2.out.new_ hb3); clear k0 k1 kz kf0 kf1 o0 o1 o2 o3 o4 o5 oz; have k0 := PR3.out.bx.cell 0 (v := .slice (some ⟨S.gp, 0, none⟩) L.P.length S.kp) rfl; have k1 := PR3.out.bx.cell 1 (v := .slice (some ⟨S.g, 0, none⟩) L.P.length S.kn) rfl; have kz := PR3.out.bx.lt; have kf0 := PR3.out.bx.free 0; have kf1 := PR3.out.bx.free 1; clear hu hs3 hp3 hr3 hb3))
          go_meet
          refine ⟨M2, S3, o.2, A2, k2, A3, k3, z, rfl, by rw [HOP1.out.sim.2], rfl, rfl, ⟨Sw.both HSM.out HOP1.out.sim HOP1.out.ep HS2.out HS3.out HOP1.out.ln PR3.out R23.out R3.out⟩⟩
        · subst hkd
          by_cases h0 : 0 < fly.length
          · obtain ⟨i, hat, hi⟩ := at_of n9 h0
            have hwb := wrap_bd n9
            obtain ⟨qq, -⟩ := z_no' (show (fly.length : Int) ≠ 0 by omega)
            obtain ⟨m, b, off, hm, hA, hb, c1, c2, c3, c4⟩ := m_cells (Reads.of_own PR1.out.sl.own) hi
            subst hA
            have PRM : Kept (Pr w L l0 M S S fly (some ⟨b, off, none⟩) kf bs bo ⟨1, n9, m9⟩ (wb.alloc (.cells #[.int .i64 m.kind, .int .i64 m.frm, .int .i64 m.to_, .int .i64 m.ep] 39))) := ⟨PR1.out.new_ ((Below.refl wb.heap.size wb).alloc (Nat.le_refl _) _)⟩
            have MB := Kept.mk (Blk.new wb 39 #[.int .i64 m.kind, .int .i64 m.frm, .int .i64 m.to_, .int .i64 m.ep])
            obtain ⟨o, q, z, hop⟩ := op_recv m PRM.out HSM.out (by omega)
            have HOP1 := Kept.mk hop
            clear hop hm h0
            have k0 := PR1.out.bx.cell 0 (v := .slice (some ⟨S.gp, 0, none⟩) L.P.length S.kp) rfl
            have k1 := PR1.out.bx.cell 1 (v := .slice (some ⟨S.g, 0, none⟩) L.P.length S.kn) rfl
            have kz := PR1.out.bx.lt
            have kf0 := PR1.out.bx.free 0
            have kf1 := PR1.out.bx.free 1
            have o0 := PR1.out.op.cell 0 (v := .int .i64 1) rfl
            have o1 := PR1.out.op.cell 1 (v := .int .i64 n9) rfl
            have o2 := PR1.out.op.cell 2 (v := .int .i64 m9.kind) rfl
            have o3 := PR1.out.op.cell 3 (v := .int .i64 m9.frm) rfl
            have o4 := PR1.out.op.cell 4 (v := .int .i64 m9.to_) rfl
            have o5 := PR1.out.op.cell 5 (v := .int .i64 m9.ep) rfl
            have oz := PR1.out.op.lt
            go_wp2_with (first | (go_at_call 18; refine (HOP1.out.cp _ PRM.out).mono ?_; rintro e w2 hu; obtain ⟨A2, k2, M2, rfl, hs2, hp2, hr2, hkp⟩ := PRM.out.prog hu; have HS2 := Kept.mk hs2; have PR2 := Kept.mk hp2; have R2 := Kept.mk hr2; have MB2 := Kept.mk (hkp _ _ _ MB.out (by decide)); have m0 := MB2.out.cell 0 (v := .int .i64 m.kind) rfl; have m1 := MB2.out.cell 1 (v := .int .i64 m.frm) rfl; have m2 := MB2.out.cell 2 (v := .int .i64 m.to_) rfl; have m3 := MB2.out.cell 3 (v := .int .i64 m.ep) rfl; have mz := MB2.out.lt; clear k0 k1 kz kf0 kf1 o0 o1 o2 o3 o4 o5 oz; have k0 := PR2.out.bx.cell 0 (v := .slice (some ⟨S.gp, 0, none⟩) L.P.length S.kp) rfl; have k1 := PR2.out.bx.cell 1 (v := .slice (some ⟨S.g, 0, none⟩) L.P.length S.kn) rfl; have kz := PR2.out.bx.lt; have kf0 := PR2.out.bx.free 0; have kf1 := PR2.out.bx.free 1; have o0 := PR2.out.op.cell 0 (v := .int .i64 1) rfl; have o1 := PR2.out.op.cell 1 (v := .int .i64 n9) rfl; have o2 := PR2.out.op.cell 2 (v := .int .i64 m9.kind) rfl; have o3 := PR2.out.op.cell 3 (v := .int .i64 m9.frm) rfl; have o4 := PR2.out.op.cell 4 (v := .int .i64 m9.to_) rfl; have o5 := PR2.out.op.cell 5 (v := .int .i64 m9.ep) rfl; have oz := PR2.out.op.lt; clear hu hs2 hp2 hr2 hkp) | (go_at_call 27; refine (HOP1.out.cr _ _ PR2.out).mono ?_; rintro e w3 hu; obtain ⟨S3, A3, k3, rfl, hs3, hp3, hr3, hb3⟩ := PR2.out.ref hu; have HS3 := Kept.mk hs3; have PR3 := Kept.mk hp3; have R3 := Kept.mk hr3; have R23 := Kept.mk (R2.out.new_ hb3); clear k0 k1 kz kf0 kf1 o0 o1 o2 o3 o4 o5 oz; clear m0 m1 m2 m3 mz; have k0 := PR3.out.bx.cell 0 (v := .slice (some ⟨S.gp, 0, none⟩) L.P.length S.kp) rfl; have k1 := PR3.out.bx.cell 1 (v := .slice (some ⟨S.g, 0, none⟩) L.P.length S.kn) rfl; have kz := PR3.out.bx.lt; have kf0 := PR3.out.bx.free 0; have kf1 := PR3.out.bx.free 1; clear hu hs3 hp3 hr3 hb3))
            go_meet
            refine ⟨M2, S3, o.2, A2, k2, A3, k3, z, rfl, by rw [HOP1.out.sim.2], rfl, rfl, ⟨Sw.both HSM.out HOP1.out.sim HOP1.out.ep HS2.out HS3.out HOP1.out.ln PR3.out R23.out R3.out⟩⟩
          · obtain ⟨qq, -⟩ := z_yes' (show (fly.length : Int) = 0 by omega)
            have k0 := PR1.out.bx.cell 0 (v := .slice (some ⟨S.gp, 0, none⟩) L.P.length S.kp) rfl
            have k1 := PR1.out.bx.cell 1 (v := .slice (some ⟨S.g, 0, none⟩) L.P.length S.kn) rfl
            have kz := PR1.out.bx.lt
            have kf0 := PR1.out.bx.free 0
            have kf1 := PR1.out.bx.free 1
            have o0 := PR1.out.op.cell 0 (v := .int .i64 1) rfl
            have o1 := PR1.out.op.cell 1 (v := .int .i64 n9) rfl
            have o2 := PR1.out.op.cell 2 (v := .int .i64 m9.kind) rfl
            have o3 := PR1.out.op.cell 3 (v := .int .i64 m9.frm) rfl
            have o4 := PR1.out.op.cell 4 (v := .int .i64 m9.to_) rfl
            have o5 := PR1.out.op.cell 5 (v := .int .i64 m9.ep) rfl
            have oz := PR1.out.op.lt
            go_wp2_with fail
            go_roundw
            case rel => exact ⟨k + 1, M, S, fly, Af, kf, by omega, by go_num, rfl, ⟨PR1.out.sl⟩, ⟨PR1.out.bx⟩, ⟨HSM.out.more⟩⟩
            case measure => simp [intOf]; omega
        · subst hkd
          by_cases h0 : 0 < fly.length
          · obtain ⟨i, hat, hi⟩ := at_of n9 h0
            have hwb := wrap_bd n9
            obtain ⟨qq, -⟩ := z_no' (show (fly.length : Int) ≠ 0 by omega)
            obtain ⟨m, b, off, hm, hA, hb, c1, c2, c3, c4⟩ := m_cells (Reads.of_own PR1.out.sl.own) hi
            subst hA
            have PRM : Kept (Pr w L l0 M S S fly (some ⟨b, off, none⟩) kf bs bo ⟨2, n9, m9⟩ (wb.alloc (.cells #[.int .i64 m.kind, .int .i64 m.frm, .int .i64 m.to_, .int .i64 m.ep] 39))) := ⟨PR1.out.new_ ((Below.refl wb.heap.size wb).alloc (Nat.le_refl _) _)⟩
            have MB := Kept.mk (Blk.new wb 39 #[.int .i64 m.kind, .int .i64 m.frm, .int .i64 m.to_, .int .i64 m.ep])
            obtain ⟨o, q, z, hop⟩ := op_recv m PRM.out HSM.out (by omega)
            have HOP1 := Kept.mk hop
            clear hop hm h0
            have k0 := PR1.out.bx.cell 0 (v := .slice (some ⟨S.gp, 0, none⟩) L.P.length S.kp) rfl
            have k1 := PR1.out.bx.cell 1 (v := .slice (some ⟨S.g, 0, none⟩) L.P.length S.kn) rfl
            have kz := PR1.out.bx.lt
            have kf0 := PR1.out.bx.free 0
            have kf1 := PR1.out.bx.free 1
            have o0 := PR1.out.op.cell 0 (v := .int .i64 2) rfl
            have o1 := PR1.out.op.cell 1 (v := .int .i64 n9) rfl
            have o2 := PR1.out.op.cell 2 (v := .int .i64 m9.kind) rfl
            have o3 := PR1.out.op.cell 3 (v := .int .i64 m9.frm) rfl
            have o4 := PR1.out.op.cell 4 (v := .int .i64 m9.to_) rfl
            have o5 := PR1.out.op.cell 5 (v := .int .i64 m9.ep) rfl
            have oz := PR1.out.op.lt
            go_wp2_with (first | (go_at_call 18; refine (HOP1.out.cp _ PRM.out).mono ?_; rintro e w2 hu; obtain ⟨A2, k2, M2, rfl, hs2, hp2, hr2, hkp⟩ := PRM.out.prog hu; have HS2 := Kept.mk hs2; have PR2 := Kept.mk hp2; have R2 := Kept.mk hr2; have MB2 := Kept.mk (hkp _ _ _ MB.out (by decide)); have m0 := MB2.out.cell 0 (v := .int .i64 m.kind) rfl; have m1 := MB2.out.cell 1 (v := .int .i64 m.frm) rfl; have m2 := MB2.out.cell 2 (v := .int .i64 m.to_) rfl; have m3 := MB2.out.cell 3 (v := .int .i64 m.ep) rfl; have mz := MB2.out.lt; clear k0 k1 kz kf0 kf1 o0 o1 o2 o3 o4 o5 oz; have k0 := PR2.out.bx.cell 0 (v := .slice (some ⟨S.gp, 0, none⟩) L.P.length S.kp) rfl; have k1 := PR2.out.bx.cell 1 (v := .slice (some ⟨S.g, 0, none⟩) L.P.length S.kn) rfl; have kz := PR2.out.bx.lt; have kf0 := PR2.out.bx.free 0; have kf1 := PR2.out.bx.free 1; have o0 := PR2.out.op.cell 0 (v := .int .i64 2) rfl; have o1 := PR2.out.op.cell 1 (v := .int .i64 n9) rfl; have o2 := PR2.out.op.cell 2 (v := .int .i64 m9.kind) rfl; have o3 := PR2.out.op.cell 3 (v := .int .i64 m9.frm) rfl; have o4 := PR2.out.op.cell 4 (v := .int .i64 m9.to_) rfl; have o5 := PR2.out.op.cell 5 (v := .int .i64 m9.ep) rfl; have oz := PR2.out.op.lt; clear hu hs2 hp2 hr2 hkp) | (go_at_call 27; refine (HOP1.out.cr _ _ PR2.out).mono ?_; rintro e w3 hu; obtain ⟨S3, A3, k3, rfl, hs3, hp3, hr3, hb3⟩ := PR2.out.ref hu; have HS3 := Kept.mk hs3; have PR3 := Kept.mk hp3; have R3 := Kept.mk hr3; have R23 := Kept.mk (R2.out.new_ hb3); clear k0 k1 kz kf0 kf1 o0 o1 o2 o3 o4 o5 oz; clear m0 m1 m2 m3 mz; have k0 := PR3.out.bx.cell 0 (v := .slice (some ⟨S.gp, 0, none⟩) L.P.length S.kp) rfl; have k1 := PR3.out.bx.cell 1 (v := .slice (some ⟨S.g, 0, none⟩) L.P.length S.kn) rfl; have kz := PR3.out.bx.lt; have kf0 := PR3.out.bx.free 0; have kf1 := PR3.out.bx.free 1; clear hu hs3 hp3 hr3 hb3))
            go_meet
            refine ⟨M2, S3, o.2, A2, k2, A3, k3, z, rfl, by rw [HOP1.out.sim.2], rfl, rfl, ⟨Sw.both HSM.out HOP1.out.sim HOP1.out.ep HS2.out HS3.out HOP1.out.ln PR3.out R23.out R3.out⟩⟩
          · obtain ⟨qq, -⟩ := z_yes' (show (fly.length : Int) = 0 by omega)
            have k0 := PR1.out.bx.cell 0 (v := .slice (some ⟨S.gp, 0, none⟩) L.P.length S.kp) rfl
            have k1 := PR1.out.bx.cell 1 (v := .slice (some ⟨S.g, 0, none⟩) L.P.length S.kn) rfl
            have kz := PR1.out.bx.lt
            have kf0 := PR1.out.bx.free 0
            have kf1 := PR1.out.bx.free 1
            have o0 := PR1.out.op.cell 0 (v := .int .i64 2) rfl
            have o1 := PR1.out.op.cell 1 (v := .int .i64 n9) rfl
            have o2 := PR1.out.op.cell 2 (v := .int .i64 m9.kind) rfl
            have o3 := PR1.out.op.cell 3 (v := .int .i64 m9.frm) rfl
            have o4 := PR1.out.op.cell 4 (v := .int .i64 m9.to_) rfl
            have o5 := PR1.out.op.cell 5 (v := .int .i64 m9.ep) rfl
            have oz := PR1.out.op.lt
            go_wp2_with fail
            go_roundw
            case rel => exact ⟨k + 1, M, S, fly, Af, kf, by omega, by go_num, rfl, ⟨PR1.out.sl⟩, ⟨PR1.out.bx⟩, ⟨HSM.out.more⟩⟩
            case measure => simp [intOf]; omega
        · subst hkd
          obtain ⟨o, q, z, hop⟩ := op_drain n9 PR1.out HSM.out (by omega)
          have HOP1 := Kept.mk hop
          clear hop
          have k0 := PR1.out.bx.cell 0 (v := .slice (some ⟨S.gp, 0, none⟩) L.P.length S.kp) rfl
          have k1 := PR1.out.bx.cell 1 (v := .slice (some ⟨S.g, 0, none⟩) L.P.length S.kn) rfl
          have kz := PR1.out.bx.lt
          have kf0 := PR1.out.bx.free 0
          have kf1 := PR1.out.bx.free 1
          have o0 := PR1.out.op.cell 0 (v := .int .i64 4) rfl
          have o1 := PR1.out.op.cell 1 (v := .int .i64 n9) rfl
          have o2 := PR1.out.op.cell 2 (v := .int .i64 m9.kind) rfl
          have o3 := PR1.out.op.cell 3 (v := .int .i64 m9.frm) rfl
          have o4 := PR1.out.op.cell 4 (v := .int .i64 m9.to_) rfl
          have o5 := PR1.out.op.cell 5 (v := .int .i64 m9.ep) rfl
          have oz := PR1.out.op.lt
          go_wp2_with (first | (go_at_call 19; refine (HOP1.out.cp _ PR1.out).mono ?_; rintro e w2 hu; obtain ⟨A2, k2, M2, rfl, hs2, hp2, hr2, hkp⟩ := PR1.out.prog hu; have HS2 := Kept.mk hs2; have PR2 := Kept.mk hp2; have R2 := Kept.mk hr2; clear k0 k1 kz kf0 kf1 o0 o1 o2 o3 o4 o5 oz; have k0 := PR2.out.bx.cell 0 (v := .slice (some ⟨S.gp, 0, none⟩) L.P.length S.kp) rfl; have k1 := PR2.out.bx.cell 1 (v := .slice (some ⟨S.g, 0, none⟩) L.P.length S.kn) rfl; have kz := PR2.out.bx.lt; have kf0 := PR2.out.bx.free 0; have kf1 := PR2.out.bx.free 1; have o0 := PR2.out.op.cell 0 (v := .int .i64 4) rfl; have o1 := PR2.out.op.cell 1 (v := .int .i64 n9) rfl; have o2 := PR2.out.op.cell 2 (v := .int .i64 m9.kind) rfl; have o3 := PR2.out.op.cell 3 (v := .int .i64 m9.frm) rfl; have o4 := PR2.out.op.cell 4 (v := .int .i64 m9.to_) rfl; have o5 := PR2.out.op.cell 5 (v := .int .i64 m9.ep) rfl; have oz := PR2.out.op.lt; clear hu hs2 hp2 hr2 hkp) | (go_at_call 28; refine (HOP1.out.cr _ _ PR2.out).mono ?_; rintro e w3 hu; obtain ⟨S3, A3, k3, rfl, hs3, hp3, hr3, hb3⟩ := PR2.out.ref hu; have HS3 := Kept.mk hs3; have PR3 := Kept.mk hp3; have R3 := Kept.mk hr3; have R23 := Kept.mk (R2.out.new_ hb3); clear k0 k1 kz kf0 kf1 o0 o1 o2 o3 o4 o5 oz; have k0 := PR3.out.bx.cell 0 (v := .slice (some ⟨S.gp, 0, none⟩) L.P.length S.kp) rfl; have k1 := PR3.out.bx.cell 1 (v := .slice (some ⟨S.g, 0, none⟩) L.P.length S.kn) rfl; have kz := PR3.out.bx.lt; have kf0 := PR3.out.bx.free 0; have kf1 := PR3.out.bx.free 1; clear hu hs3 hp3 hr3 hb3))
          go_meet
          refine ⟨M2, S3, o.2, A2, k2, A3, k3, z, rfl, by rw [HOP1.out.sim.2], rfl, rfl, ⟨Sw.both HSM.out HOP1.out.sim HOP1.out.ep HS2.out HS3.out HOP1.out.ln PR3.out R23.out R3.out⟩⟩
        · subst hkd
          obtain ⟨l, hop⟩ := op_rep PR1.out HSM.out (by omega)
          have HOP1 := Kept.mk hop
          clear hop
          have k0 := PR1.out.bx.cell 0 (v := .slice (some ⟨S.gp, 0, none⟩) L.P.length S.kp) rfl
          have k1 := PR1.out.bx.cell 1 (v := .slice (some ⟨S.g, 0, none⟩) L.P.length S.kn) rfl
          have kz := PR1.out.bx.lt
          have kf0 := PR1.out.bx.free 0
          have kf1 := PR1.out.bx.free 1
          have o0 := PR1.out.op.cell 0 (v := .int .i64 5) rfl
          have o1 := PR1.out.op.cell 1 (v := .int .i64 n9) rfl
          have o2 := PR1.out.op.cell 2 (v := .int .i64 m9.kind) rfl
          have o3 := PR1.out.op.cell 3 (v := .int .i64 m9.frm) rfl
          have o4 := PR1.out.op.cell 4 (v := .int .i64 m9.to_) rfl
          have o5 := PR1.out.op.cell 5 (v := .int .i64 m9.ep) rfl
          have oz := PR1.out.op.lt
          go_upto_region 29 with fail
          refine wp_region_held_drew (S := fun w' => w'.cell? ⟨bs, 0, none⟩ = some (.slice (some ⟨S.gp, 0, none⟩) L.P.length S.kp) ∧ w'.cell? ⟨bs, 1, none⟩ = some (.slice (some ⟨S.g, 0, none⟩) L.P.length S.kn)) (by kernel_rfl) (by (try dsimp only); (first | exact pr_keep PR3.out | exact pr_keep PR2.out | exact pr_keep PR1.out | exact pr_keep (PR1.out.new_ (bdrew (Below.refl _ _))))) (fun hHeld => ?_)
          refine wpAnyH_take (i := 0) (v := ?_) rfl (by kernel_rfl) (by kernel_rfl) (by kernel_rfl) (fun _ _ _ h => h) (Or.inl ⟨by rfl, ?_⟩) (by assumption) ?_; rotate_left; (intro w hSw; (try dsimp only at hSw); go_simp; try (with_reducible rfl)); try simp only [Act.put, List.setIfInBounds_toArray, List.set_cons_zero, List.set_cons_succ, List.getElem_toArray, List.getElem_cons_succ, List.getElem_cons_zero]
          refine wpAnyH_take (i := 2) (v := ?_) rfl (by kernel_rfl) (by kernel_rfl) (by kernel_rfl) (fun _ _ _ h => h) (Or.inl ⟨by rfl, ?_⟩) (by assumption) ?_; rotate_left; (intro w hSw; (try dsimp only at hSw); go_simp; try (with_reducible rfl)); try simp only [Act.put, List.setIfInBounds_toArray, List.set_cons_zero, List.set_cons_succ, List.getElem_toArray, List.getElem_cons_succ, List.getElem_cons_zero]
          refine wpAnyH_ready (rs := [1]) (by kernel_rfl) (by simp) ?_; refine AllReadyH.cons rfl (fun K hK => ?_) AllReadyH.nil; go_simp
          refine (HOP1.out.cp _ (PR1.out.new_ (bdrew (Below.refl _ _)))).mono ?_; rintro e w2 ⟨A2, k2, rfl, hr2, hb2⟩; have R2 := Kept.mk hr2; have PR2 := Kept.mk ((PR1.out.new_ (bdrew (Below.refl _ _))).new_ hb2); clear hr2 hb2
          try go_wp2_with fail
          refine hK.out _ _ (by (try dsimp only); (first | exact pr_keep PR3.out | exact pr_keep PR2.out | exact pr_keep PR1.out | exact pr_keep (PR1.out.new_ (bdrew (Below.refl _ _))))) (fun hHeld => ?_); clear hK K; try simp only [Act.put, List.setIfInBounds_toArray, List.set_cons_zero, List.set_cons_succ, List.getElem_toArray, List.getElem_cons_succ, List.getElem_cons_zero]
          refine wpAnyH_ready (rs := [3]) (by kernel_rfl) (by simp) ?_; refine AllReadyH.cons rfl (fun K hK => ?_) AllReadyH.nil; go_simp
          refine (HOP1.out.cr _ PR2.out).mono ?_; rintro e w3 ⟨A3, k3, rfl, hr3, hb3⟩; have R3 := Kept.mk hr3; have R23 := Kept.mk (R2.out.new_ hb3); have PR3 := Kept.mk (PR2.out.new_ hb3); clear hr3 hb3
          try go_wp2_with fail
          refine hK.out _ _ (by (try dsimp only); (first | exact pr_keep PR3.out | exact pr_keep PR2.out | exact pr_keep PR1.out | exact pr_keep (PR1.out.new_ (bdrew (Below.refl _ _))))) (fun hHeld => ?_); clear hK K; try simp only [Act.put, List.setIfInBounds_toArray, List.set_cons_zero, List.set_cons_succ, List.getElem_toArray, List.getElem_cons_succ, List.getElem_cons_zero]
          refine wpAnyH_take (i := 4) (v := ?_) rfl (by kernel_rfl) (by kernel_rfl) (by kernel_rfl) (fun _ _ _ h => h) (Or.inl ⟨by rfl, ?_⟩) (by assumption) ?_; rotate_left; (intro w hSw; (try dsimp only at hSw); go_simp; try (with_reducible rfl)); try simp only [Act.put, List.setIfInBounds_toArray, List.set_cons_zero, List.set_cons_succ, List.getElem_toArray, List.getElem_cons_succ, List.getElem_cons_zero]
          refine wpAnyH_take (i := 5) (v := ?_) rfl (by kernel_rfl) (by kernel_rfl) (by kernel_rfl) (fun _ _ _ h => h) (Or.inl ⟨by rfl, ?_⟩) (by assumption) ?_; rotate_left; (intro w hSw; (try dsimp only at hSw); go_simp; try (with_reducible rfl)); try simp only [Act.put, List.setIfInBounds_toArray, List.set_cons_zero, List.set_cons_succ, List.getElem_toArray, List.getElem_cons_succ, List.getElem_cons_zero]
          refine wpAnyH_done (by kernel_rfl) ?_ _
          go_wp2_with fail
          go_meet
          refine ⟨M, S, l, A2, k2, A3, k3, 0, rfl, rfl, rfl, rfl, ⟨Sw.still HSM.out HOP1.out.ln PR3.out R23.out R3.out⟩⟩
        · subst hkd
          obtain ⟨o, q, z, hop⟩ := op_recv m9 PR1.out HSM.out (by omega)
          have HOP1 := Kept.mk hop
          clear hop
          have k0 := PR1.out.bx.cell 0 (v := .slice (some ⟨S.gp, 0, none⟩) L.P.length S.kp) rfl
          have k1 := PR1.out.bx.cell 1 (v := .slice (some ⟨S.g, 0, none⟩) L.P.length S.kn) rfl
          have kz := PR1.out.bx.lt
          have kf0 := PR1.out.bx.free 0
          have kf1 := PR1.out.bx.free 1
          have o0 := PR1.out.op.cell 0 (v := .int .i64 6) rfl
          have o1 := PR1.out.op.cell 1 (v := .int .i64 n9) rfl
          have o2 := PR1.out.op.cell 2 (v := .int .i64 m9.kind) rfl
          have o3 := PR1.out.op.cell 3 (v := .int .i64 m9.frm) rfl
          have o4 := PR1.out.op.cell 4 (v := .int .i64 m9.to_) rfl
          have o5 := PR1.out.op.cell 5 (v := .int .i64 m9.ep) rfl
          have oz := PR1.out.op.lt
          go_wp2_with (first | (go_at_call 18; refine (HOP1.out.cp _ PR1.out).mono ?_; rintro e w2 hu; obtain ⟨A2, k2, M2, rfl, hs2, hp2, hr2, hkp⟩ := PR1.out.prog hu; have HS2 := Kept.mk hs2; have PR2 := Kept.mk hp2; have R2 := Kept.mk hr2; clear k0 k1 kz kf0 kf1 o0 o1 o2 o3 o4 o5 oz; have k0 := PR2.out.bx.cell 0 (v := .slice (some ⟨S.gp, 0, none⟩) L.P.length S.kp) rfl; have k1 := PR2.out.bx.cell 1 (v := .slice (some ⟨S.g, 0, none⟩) L.P.length S.kn) rfl; have kz := PR2.out.bx.lt; have kf0 := PR2.out.bx.free 0; have kf1 := PR2.out.bx.free 1; have o0 := PR2.out.op.cell 0 (v := .int .i64 6) rfl; have o1 := PR2.out.op.cell 1 (v := .int .i64 n9) rfl; have o2 := PR2.out.op.cell 2 (v := .int .i64 m9.kind) rfl; have o3 := PR2.out.op.cell 3 (v := .int .i64 m9.frm) rfl; have o4 := PR2.out.op.cell 4 (v := .int .i64 m9.to_) rfl; have o5 := PR2.out.op.cell 5 (v := .int .i64 m9.ep) rfl; have oz := PR2.out.op.lt; clear hu hs2 hp2 hr2 hkp) | (go_at_call 27; refine (HOP1.out.cr _ _ PR2.out).mono ?_; rintro e w3 hu; obtain ⟨S3, A3, k3, rfl, hs3, hp3, hr3, hb3⟩ := PR2.out.ref hu; have HS3 := Kept.mk hs3; have PR3 := Kept.mk hp3; have R3 := Kept.mk hr3; have R23 := Kept.mk (R2.out.new_ hb3); clear k0 k1 kz kf0 kf1 o0 o1 o2 o3 o4 o5 oz; have k0 := PR3.out.bx.cell 0 (v := .slice (some ⟨S.gp, 0, none⟩) L.P.length S.kp) rfl; have k1 := PR3.out.bx.cell 1 (v := .slice (some ⟨S.g, 0, none⟩) L.P.length S.kn) rfl; have kz := PR3.out.bx.lt; have kf0 := PR3.out.bx.free 0; have kf1 := PR3.out.bx.free 1; clear hu hs3 hp3 hr3 hb3))
          go_meet
          refine ⟨M2, S3, o.2, A2, k2, A3, k3, z, rfl, by rw [HOP1.out.sim.2], rfl, rfl, ⟨Sw.both HSM.out HOP1.out.sim HOP1.out.ep HS2.out HS3.out HOP1.out.ln PR3.out R23.out R3.out⟩⟩
        · obtain ⟨p0, -⟩ := z_no' (show kd ≠ 0 by omega)
          obtain ⟨p1, -⟩ := z_no' (show kd ≠ 1 by omega)
          obtain ⟨p2, -⟩ := z_no' (show kd ≠ 2 by omega)
          obtain ⟨p4, -⟩ := z_no' (show kd ≠ 4 by omega)
          obtain ⟨p5, -⟩ := z_no' (show kd ≠ 5 by omega)
          obtain ⟨p6, -⟩ := z_no' (show kd ≠ 6 by omega)
          have k0 := PR1.out.bx.cell 0 (v := .slice (some ⟨S.gp, 0, none⟩) L.P.length S.kp) rfl
          have k1 := PR1.out.bx.cell 1 (v := .slice (some ⟨S.g, 0, none⟩) L.P.length S.kn) rfl
          have kz := PR1.out.bx.lt
          have kf0 := PR1.out.bx.free 0
          have kf1 := PR1.out.bx.free 1
          have o0 := PR1.out.op.cell 0 (v := .int .i64 kd) rfl
          have o1 := PR1.out.op.cell 1 (v := .int .i64 n9) rfl
          have o2 := PR1.out.op.cell 2 (v := .int .i64 m9.kind) rfl
          have o3 := PR1.out.op.cell 3 (v := .int .i64 m9.frm) rfl
          have o4 := PR1.out.op.cell 4 (v := .int .i64 m9.to_) rfl
          have o5 := PR1.out.op.cell 5 (v := .int .i64 m9.ep) rfl
          have oz := PR1.out.op.lt
          go_wp2_with fail
          go_meet
          exact ⟨M, S, [], none, 0, none, 0, 0, rfl, rfl, rfl, rfl, ⟨Sw.still HSM.out (by simp) PR1.out RowP.nil RowR.nil⟩⟩

      case rest =>
        obtain ⟨M2, S2, l, A2, k2, A3, k3, z, rfl, rfl, rfl, rfl, HSW⟩ := hcut
        obtain ⟨pz, hpz⟩ : ∃ pz : Int, ((rd (rps S2) 0).ph : Int) = pz := ⟨_, rfl⟩
        obtain ⟨bF, hbF⟩ : ∃ bF : Bool, (pz == 0) = bF := ⟨_, rfl⟩
        have HFQ : Kept (decide ((nd (sns M2) L.root).ph = 0) = bF) := ⟨by rw [HSW.out.fin, hpz, hbF]⟩
        have HCL : Kept (∀ W, Sw w L l0 M2 S2 fly Af kf bs bo ⟨kd, n9, m9⟩ (k + 1) l A2 k2 A3 k3 W → SwC W L S2 bs bo ⟨kd, n9, m9⟩ pz) := ⟨fun W hW => hpz ▸ hW.cells⟩
        obtain ⟨eE, heE⟩ : ∃ z : Int, epQ (sns M2) n9 = z := ⟨_, rfl⟩
        obtain ⟨eP, heP⟩ : ∃ z : Int, phQ (sns M2) n9 = z := ⟨_, rfl⟩
        have HQ1 := Kept.mk heE
        have HQ3 := Kept.mk heP
        have HQ2 : Kept (epR L.P (rps S2) n9 false = eE) := ⟨by rw [(HSW.out.eps n9).1, heE]⟩
        have HQ4 : Kept (epR L.P (rps S2) n9 true = eP) := ⟨by rw [(HSW.out.eps n9).2, heP]⟩
        have hll := HSW.out.ll
        have htn := HSW.out.pr.sl.tree.pos
        clear hpz heE heP PR1
        go_upto_region 33 with fail
        refine wp_region_held_drew (S := fun w' => w'.cell? ⟨bs, 0, none⟩ = some (.slice (some ⟨S2.gp, 0, none⟩) L.P.length S2.kp) ∧ w'.cell? ⟨bs, 1, none⟩ = some (.slice (some ⟨S2.g, 0, none⟩) L.P.length S2.kn) ∧ w'.cell? ⟨S2.g, 1, none⟩ = some (.int .i64 pz) ∧ w'.cell? ⟨bo, 1, none⟩ = some (.int .i64 n9)) (by kernel_rfl) (by (try dsimp only); (first | exact swc_keep (HCL.out _ SW6.out) | exact swc_keep (HCL.out _ SW5.out) | exact swc_keep (HCL.out _ SW4.out) | exact swc_keep (HCL.out _ SW3.out) | exact swc_keep (HCL.out _ SW2.out) | exact swc_keep (HCL.out _ SW1.out) | exact swc_keep (HCL.out _ (HSW.out.new_ (bdrew (Below.refl _ _)))))) (fun hHeld => ?_)
        refine wpAnyH_take (i := 0) (v := ?_) rfl (by kernel_rfl) (by kernel_rfl) (by kernel_rfl) (fun _ _ _ h => h) (Or.inl ⟨by rfl, ?_⟩) (by assumption) ?_; rotate_left; (intro w hSw; (try dsimp only at hSw); go_simp; try (with_reducible rfl)); try simp only [Act.put, List.setIfInBounds_toArray, List.set_cons_zero, List.set_cons_succ, List.getElem_toArray, List.getElem_cons_succ, List.getElem_cons_zero]
        refine wpAnyH_take (i := 1) (v := ?_) rfl (by kernel_rfl) (by kernel_rfl) (by kernel_rfl) (fun _ _ _ h => h) (Or.inl ⟨by rfl, ?_⟩) (by assumption) ?_; rotate_left; (intro w hSw; (try dsimp only at hSw); go_simp; try (with_reducible rfl)); try simp only [Act.put, List.setIfInBounds_toArray, List.set_cons_zero, List.set_cons_succ, List.getElem_toArray, List.getElem_cons_succ, List.getElem_cons_zero]
        refine wpAnyH_take (i := 2) (v := ?_) rfl (by kernel_rfl) (by kernel_rfl) (by kernel_rfl) (fun _ _ _ h => h) (Or.inl ⟨by rfl, ?_⟩) (by assumption) ?_; rotate_left; (intro w hSw; (try dsimp only at hSw); go_simp; try (with_reducible rfl)); try simp only [Act.put, List.setIfInBounds_toArray, List.set_cons_zero, List.set_cons_succ, List.getElem_toArray, List.getElem_cons_succ, List.getElem_cons_zero]
        refine wpAnyH_take (i := 3) (v := ?_) rfl (by kernel_rfl) (by kernel_rfl) (by kernel_rfl) (fun _ _ _ h => h) (Or.inl ⟨by rfl, ?_⟩) (by assumption) ?_; rotate_left; (intro w hSw; (try dsimp only at hSw); go_simp; try (with_reducible rfl)); try simp only [Act.put, List.setIfInBounds_toArray, List.set_cons_zero, List.set_cons_succ, List.getElem_toArray, List.getElem_cons_succ, List.getElem_cons_zero]
        refine wpAnyH_take (i := 4) (v := ?_) rfl (by kernel_rfl) (by kernel_rfl) (by kernel_rfl) (fun _ _ _ h => h) (Or.inl ⟨by rfl, ?_⟩) (by assumption) ?_; rotate_left; (intro w hSw; (try dsimp only at hSw); go_simp; try (with_reducible rfl)); try simp only [Act.put, List.setIfInBounds_toArray, List.set_cons_zero, List.set_cons_succ, List.getElem_toArray, List.getElem_cons_succ, List.getElem_cons_zero]
        refine wpAnyH_take (i := 5) (v := ?_) rfl (by kernel_rfl) (by kernel_rfl) (by kernel_rfl) (fun _ _ _ h => h) (Or.inl ⟨by rfl, ?_⟩) (by assumption) ?_; rotate_left; (intro w hSw; (try dsimp only at hSw); go_simp; try (with_reducible rfl)); try simp only [Act.put, List.setIfInBounds_toArray, List.set_cons_zero, List.set_cons_succ, List.getElem_toArray, List.getElem_cons_succ, List.getElem_cons_zero]
        refine wpAnyH_ready (rs := [6]) (by kernel_rfl) (by simp) ?_; refine AllReadyH.cons rfl (fun K hK => ?_) AllReadyH.nil; go_simp
        refine (same_t l A2 A3 k2 k3 _ (Reads.of_own (HSW.out.new_ (bdrew (Below.refl _ _))).r2) (Reads.of_own (HSW.out.new_ (bdrew (Below.refl _ _))).r3) (by have := HSW.out.ll; omega)).mono ?_; rintro e w5 ⟨rfl, hb⟩; have SW1 := Kept.mk ((HSW.out.new_ (bdrew (Below.refl _ _))).new_ hb); clear hb
        try go_wp2_with fail
        refine hK.out _ _ (by (try dsimp only); (first | exact swc_keep (HCL.out _ SW6.out) | exact swc_keep (HCL.out _ SW5.out) | exact swc_keep (HCL.out _ SW4.out) | exact swc_keep (HCL.out _ SW3.out) | exact swc_keep (HCL.out _ SW2.out) | exact swc_keep (HCL.out _ SW1.out) | exact swc_keep (HCL.out _ (HSW.out.new_ (bdrew (Below.refl _ _)))))) (fun hHeld => ?_); clear hK K; try simp only [Act.put, List.setIfInBounds_toArray, List.set_cons_zero, List.set_cons_succ, List.getElem_toArray, List.getElem_cons_succ, List.getElem_cons_zero]
        refine wpAnyH_take (i := 7) (v := ?_) rfl (by kernel_rfl) (by kernel_rfl) (by kernel_rfl) (fun _ _ _ h => h) (Or.inl ⟨by rfl, ?_⟩) (by assumption) ?_; rotate_left; (intro w hSw; (try dsimp only at hSw); go_simp; try (with_reducible rfl)); try simp only [Act.put, List.setIfInBounds_toArray, List.set_cons_zero, List.set_cons_succ, List.getElem_toArray, List.getElem_cons_succ, List.getElem_cons_zero]
        refine wpAnyH_take (i := 8) (v := ?_) rfl (by kernel_rfl) (by kernel_rfl) (by kernel_rfl) (fun _ _ _ h => h) (Or.inl ⟨by rfl, ?_⟩) (by assumption) ?_; rotate_left; (intro w hSw; (try dsimp only at hSw); go_simp; try (with_reducible rfl)); try simp only [Act.put, List.setIfInBounds_toArray, List.set_cons_zero, List.set_cons_succ, List.getElem_toArray, List.getElem_cons_succ, List.getElem_cons_zero]
        refine wpAnyH_take (i := 9) (v := ?_) rfl (by kernel_rfl) (by kernel_rfl) (by kernel_rfl) (fun _ _ _ h => h) (Or.inl ⟨by rfl, ?_⟩) (by assumption) ?_; rotate_left; (intro w hSw; (try dsimp only at hSw); go_simp; try (with_reducible rfl)); try simp only [Act.put, List.setIfInBounds_toArray, List.set_cons_zero, List.set_cons_succ, List.getElem_toArray, List.getElem_cons_succ, List.getElem_cons_zero]
        refine wpAnyH_take (i := 10) (v := ?_) rfl (by kernel_rfl) (by kernel_rfl) (by kernel_rfl) (fun _ _ _ h => h) (Or.inl ⟨by rfl, ?_⟩) (by assumption) ?_; rotate_left; (intro w hSw; (try dsimp only at hSw); go_simp; try (with_reducible rfl)); try simp only [Act.put, List.setIfInBounds_toArray, List.set_cons_zero, List.set_cons_succ, List.getElem_toArray, List.getElem_cons_succ, List.getElem_cons_zero]
        refine wpAnyH_take (i := 12) (v := ?_) rfl (by kernel_rfl) (by kernel_rfl) (by kernel_rfl) (fun _ _ _ h => h) (Or.inl ⟨by rfl, ?_⟩) (by assumption) ?_; rotate_left; (intro w hSw; (try dsimp only at hSw); go_simp; try (with_reducible rfl)); try simp only [Act.put, List.setIfInBounds_toArray, List.set_cons_zero, List.set_cons_succ, List.getElem_toArray, List.getElem_cons_succ, List.getElem_cons_zero]
        refine wpAnyH_take (i := 13) (v := ?_) rfl (by kernel_rfl) (by kernel_rfl) (by kernel_rfl) (fun _ _ _ h => h) (Or.inl ⟨by rfl, ?_⟩) (by assumption) ?_; rotate_left; (intro w hSw; (try dsimp only at hSw); go_simp; try (with_reducible rfl)); try simp only [Act.put, List.setIfInBounds_toArray, List.set_cons_zero, List.set_cons_succ, List.getElem_toArray, List.getElem_cons_succ, List.getElem_cons_zero]
        refine wpAnyH_take (i := 14) (v := ?_) rfl (by kernel_rfl) (by kernel_rfl) (by kernel_rfl) (fun _ _ _ h => h) (Or.inl ⟨by rfl, ?_⟩) (by assumption) ?_; rotate_left; (intro w hSw; (try dsimp only at hSw); go_simp; try (with_reducible rfl)); try simp only [Act.put, List.setIfInBounds_toArray, List.set_cons_zero, List.set_cons_succ, List.getElem_toArray, List.getElem_cons_succ, List.getElem_cons_zero]
        refine wpAnyH_take (i := 15) (v := ?_) rfl (by kernel_rfl) (by kernel_rfl) (by kernel_rfl) (fun _ _ _ h => h) (Or.inl ⟨by rfl, ?_⟩) (by assumption) ?_; rotate_left; (intro w hSw; (try dsimp only at hSw); go_simp; try (with_reducible rfl)); try simp only [Act.put, List.setIfInBounds_toArray, List.set_cons_zero, List.set_cons_succ, List.getElem_toArray, List.getElem_cons_succ, List.getElem_cons_zero]
        refine wpAnyH_take (i := 16) (v := ?_) rfl (by kernel_rfl) (by kernel_rfl) (by kernel_rfl) (fun _ _ _ h => h) (Or.inl ⟨by rfl, ?_⟩) (by assumption) ?_; rotate_left; (intro w hSw; (try dsimp only at hSw); go_simp; try (with_reducible rfl)); try simp only [Act.put, List.setIfInBounds_toArray, List.set_cons_zero, List.set_cons_succ, List.getElem_toArray, List.getElem_cons_succ, List.getElem_cons_zero]
        refine wpAnyH_take (i := 17) (v := ?_) rfl (by kernel_rfl) (by kernel_rfl) (by kernel_rfl) (fun _ _ _ h => h) (Or.inl ⟨by rfl, ?_⟩) (by assumption) ?_; rotate_left; (intro w hSw; (try dsimp only at hSw); go_simp; try (with_reducible rfl)); try simp only [Act.put, List.setIfInBounds_toArray, List.set_cons_zero, List.set_cons_succ, List.getElem_toArray, List.getElem_cons_succ, List.getElem_cons_zero]
        refine wpAnyH_ready (rs := [11]) (by kernel_rfl) (by simp) ?_; refine AllReadyH.cons rfl (fun K hK => ?_) AllReadyH.nil; go_simp
        refine (Finished_c _ L M2 SW1.out.pr.sl.ch).mono ?_; rintro e w6 ⟨rfl, nf, rfl⟩; rw [HFQ.out]; have SW2 := Kept.mk (SW1.out.new_ (dN (Below.refl _ _) nf))
        try go_wp2_with fail
        refine hK.out _ _ (by (try dsimp only); (first | exact swc_keep (HCL.out _ SW6.out) | exact swc_keep (HCL.out _ SW5.out) | exact swc_keep (HCL.out _ SW4.out) | exact swc_keep (HCL.out _ SW3.out) | exact swc_keep (HCL.out _ SW2.out) | exact swc_keep (HCL.out _ SW1.out) | exact swc_keep (HCL.out _ (HSW.out.new_ (bdrew (Below.refl _ _)))))) (fun hHeld => ?_); clear hK K; try simp only [Act.put, List.setIfInBounds_toArray, List.set_cons_zero, List.set_cons_succ, List.getElem_toArray, List.getElem_cons_succ, List.getElem_cons_zero]
        refine wpAnyH_take (i := 18) (v := ?_) rfl (by kernel_rfl) (by kernel_rfl) (by kernel_rfl) (fun _ _ _ h => h) (Or.inl ⟨by rfl, ?_⟩) (by assumption) ?_; rotate_left; (intro w hSw; (try dsimp only at hSw); go_simp; try (with_reducible rfl)); try simp only [Act.put, List.setIfInBounds_toArray, List.set_cons_zero, List.set_cons_succ, List.getElem_toArray, List.getElem_cons_succ, List.getElem_cons_zero]
        refine wpAnyH_take (i := 19) (v := ?_) rfl (by kernel_rfl) (by kernel_rfl) (by kernel_rfl) (fun _ _ _ h => h) (Or.inl ⟨by rfl, ?_⟩) (by assumption) ?_; rotate_left; (intro w hSw; (try dsimp only at hSw); go_simp; try (with_reducible rfl)); try simp only [Act.put, List.setIfInBounds_toArray, List.set_cons_zero, List.set_cons_succ, List.getElem_toArray, List.getElem_cons_succ, List.getElem_cons_zero]
        refine wpAnyH_take (i := 20) (v := ?_) rfl (by kernel_rfl) (by kernel_rfl) (by kernel_rfl) (fun _ _ _ h => h) (Or.inl ⟨by rfl, ?_⟩) (by assumption) ?_; rotate_left; (intro w hSw; (try dsimp only at hSw); go_simp; try (with_reducible rfl)); try simp only [Act.put, List.setIfInBounds_toArray, List.set_cons_zero, List.set_cons_succ, List.getElem_toArray, List.getElem_cons_succ, List.getElem_cons_zero]
        refine wpAnyH_take (i := 21) (v := ?_) rfl (by kernel_rfl) (by kernel_rfl) (by kernel_rfl) (fun _ _ _ h => h) (Or.inl ⟨by rfl, ?_⟩) (by assumption) ?_; rotate_left; (intro w hSw; (try dsimp only at hSw); go_simp; try (with_reducible rfl)); try simp only [Act.put, List.setIfInBounds_toArray, List.set_cons_zero, List.set_cons_succ, List.getElem_toArray, List.getElem_cons_succ, List.getElem_cons_zero]
        refine wpAnyH_take (i := 22) (v := ?_) rfl (by kernel_rfl) (by kernel_rfl) (by kernel_rfl) (fun _ _ _ h => h) (Or.inl ⟨by rfl, ?_⟩) (by assumption) ?_; rotate_left; (intro w hSw; (try dsimp only at hSw); go_simp; try (with_reducible rfl)); try simp only [Act.put, List.setIfInBounds_toArray, List.set_cons_zero, List.set_cons_succ, List.getElem_toArray, List.getElem_cons_succ, List.getElem_cons_zero]
        refine wpAnyH_take (i := 23) (v := ?_) rfl (by kernel_rfl) (by kernel_rfl) (by kernel_rfl) (fun _ _ _ h => h) (Or.inl ⟨by rfl, ?_⟩) (by assumption) ?_; rotate_left; (intro w hSw; (try dsimp only at hSw); go_simp; try (with_reducible rfl)); try simp only [Act.put, List.setIfInBounds_toArray, List.set_cons_zero, List.set_cons_succ, List.getElem_toArray, List.getElem_cons_succ, List.getElem_cons_zero]
        refine wpAnyH_take (i := 25) (v := ?_) rfl (by kernel_rfl) (by kernel_rfl) (by kernel_rfl) (fun _ _ _ h => h) (Or.inl ⟨by rfl, ?_⟩) (by assumption) ?_; rotate_left; (intro w hSw; (try dsimp only at hSw); go_simp; try (with_reducible rfl)); try simp only [Act.put, List.setIfInBounds_toArray, List.set_cons_zero, List.set_cons_succ, List.getElem_toArray, List.getElem_cons_succ, List.getElem_cons_zero]
        refine wpAnyH_take (i := 26) (v := ?_) rfl (by kernel_rfl) (by kernel_rfl) (by kernel_rfl) (fun _ _ _ h => h) (Or.inl ⟨by rfl, ?_⟩) (by assumption) ?_; rotate_left; (intro w hSw; (try dsimp only at hSw); go_simp; try (with_reducible rfl)); try simp only [Act.put, List.setIfInBounds_toArray, List.set_cons_zero, List.set_cons_succ, List.getElem_toArray, List.getElem_cons_succ, List.getElem_cons_zero]
        refine wpAnyH_take (i := 27) (v := ?_) rfl (by kernel_rfl) (by kernel_rfl) (by kernel_rfl) (fun _ _ _ h => h) (Or.inl ⟨by rfl, ?_⟩) (by assumption) ?_; rotate_left; (intro w hSw; (try dsimp only at hSw); go_simp; try (with_reducible rfl)); try simp only [Act.put, List.setIfInBounds_toArray, List.set_cons_zero, List.set_cons_succ, List.getElem_toArray, List.getElem_cons_succ, List.getElem_cons_zero]
        refine wpAnyH_ready (rs := [24]) (by kernel_rfl) (by simp) ?_; refine AllReadyH.cons rfl (fun K hK => ?_) AllReadyH.nil; go_simp
        refine (Epoch_c _ L M2 n9 SW2.out.pr.sl.ch).mono ?_; rintro e w7 ⟨rfl, hw⟩; have SW3 := Kept.mk (hw ▸ SW2.out); clear hw; rw [HQ1.out]
        try go_wp2_with fail
        refine hK.out _ _ (by (try dsimp only); (first | exact swc_keep (HCL.out _ SW6.out) | exact swc_keep (HCL.out _ SW5.out) | exact swc_keep (HCL.out _ SW4.out) | exact swc_keep (HCL.out _ SW3.out) | exact swc_keep (HCL.out _ SW2.out) | exact swc_keep (HCL.out _ SW1.out) | exact swc_keep (HCL.out _ (HSW.out.new_ (bdrew (Below.refl _ _)))))) (fun hHeld => ?_); clear hK K; try simp only [Act.put, List.setIfInBounds_toArray, List.set_cons_zero, List.set_cons_succ, List.getElem_toArray, List.getElem_cons_succ, List.getElem_cons_zero]
        refine wpAnyH_ready (rs := [28]) (by kernel_rfl) (by simp) ?_; refine AllReadyH.cons rfl (fun K hK => ?_) AllReadyH.nil; go_simp
        refine (epoch_c _ L.P S2 n9 false SW3.out.pr.sl.rat).mono ?_; rintro e w8 ⟨rfl, hb⟩; have SW4 := Kept.mk (SW3.out.new_ hb); clear hb; rw [HQ2.out]
        try go_wp2_with fail
        refine hK.out _ _ (by (try dsimp only); (first | exact swc_keep (HCL.out _ SW6.out) | exact swc_keep (HCL.out _ SW5.out) | exact swc_keep (HCL.out _ SW4.out) | exact swc_keep (HCL.out _ SW3.out) | exact swc_keep (HCL.out _ SW2.out) | exact swc_keep (HCL.out _ SW1.out) | exact swc_keep (HCL.out _ (HSW.out.new_ (bdrew (Below.refl _ _)))))) (fun hHeld => ?_); clear hK K; try simp only [Act.put, List.setIfInBounds_toArray, List.set_cons_zero, List.set_cons_succ, List.getElem_toArray, List.getElem_cons_succ, List.getElem_cons_zero]
        refine wpAnyH_take (i := 29) (v := ?_) rfl (by kernel_rfl) (by kernel_rfl) (by kernel_rfl) (fun _ _ _ h => h) (Or.inl ⟨by rfl, ?_⟩) (by assumption) ?_; rotate_left; (intro w hSw; (try dsimp only at hSw); go_simp; try (with_reducible rfl)); try simp only [Act.put, List.setIfInBounds_toArray, List.set_cons_zero, List.set_cons_succ, List.getElem_toArray, List.getElem_cons_succ, List.getElem_cons_zero]
        refine wpAnyH_take (i := 30) (v := ?_) rfl (by kernel_rfl) (by kernel_rfl) (by kernel_rfl) (fun _ _ _ h => h) (Or.inl ⟨by rfl, ?_⟩) (by assumption) ?_; rotate_left; (intro w hSw; (try dsimp only at hSw); go_simp; try (with_reducible rfl)); try simp only [Act.put, List.setIfInBounds_toArray, List.set_cons_zero, List.set_cons_succ, List.getElem_toArray, List.getElem_cons_succ, List.getElem_cons_zero]
        refine wpAnyH_take (i := 31) (v := ?_) rfl (by kernel_rfl) (by kernel_rfl) (by kernel_rfl) (fun _ _ _ h => h) (Or.inl ⟨by rfl, ?_⟩) (by assumption) ?_; rotate_left; (intro w hSw; (try dsimp only at hSw); go_simp; try (with_reducible rfl)); try simp only [Act.put, List.setIfInBounds_toArray, List.set_cons_zero, List.set_cons_succ, List.getElem_toArray, List.getElem_cons_succ, List.getElem_cons_zero]
        refine wpAnyH_take (i := 32) (v := ?_) rfl (by kernel_rfl) (by kernel_rfl) (by kernel_rfl) (fun _ _ _ h => h) (Or.inl ⟨by rfl, ?_⟩) (by assumption) ?_; rotate_left; (intro w hSw; (try dsimp only at hSw); go_simp; try (with_reducible rfl)); try simp only [Act.put, List.setIfInBounds_toArray, List.set_cons_zero, List.set_cons_succ, List.getElem_toArray, List.getElem_cons_succ, List.getElem_cons_zero]
        refine wpAnyH_take (i := 33) (v := ?_) rfl (by kernel_rfl) (by kernel_rfl) (by kernel_rfl) (fun _ _ _ h => h) (Or.inl ⟨by rfl, ?_⟩) (by assumption) ?_; rotate_left; (intro w hSw; (try dsimp only at hSw); go_simp; try (with_reducible rfl)); try simp only [Act.put, List.setIfInBounds_toArray, List.set_cons_zero, List.set_cons_succ, List.getElem_toArray, List.getElem_cons_succ, List.getElem_cons_zero]
        refine wpAnyH_take (i := 34) (v := ?_) rfl (by kernel_rfl) (by kernel_rfl) (by kernel_rfl) (fun _ _ _ h => h) (Or.inl ⟨by rfl, ?_⟩) (by assumption) ?_; rotate_left; (intro w hSw; (try dsimp only at hSw); go_simp; try (with_reducible rfl)); try simp only [Act.put, List.setIfInBounds_toArray, List.set_cons_zero, List.set_cons_succ, List.getElem_toArray, List.getElem_cons_succ, List.getElem_cons_zero]
        refine wpAnyH_take (i := 36) (v := ?_) rfl (by kernel_rfl) (by kernel_rfl) (by kernel_rfl) (fun _ _ _ h => h) (Or.inl ⟨by rfl, ?_⟩) (by assumption) ?_; rotate_left; (intro w hSw; (try dsimp only at hSw); go_simp; try (with_reducible rfl)); try simp only [Act.put, List.setIfInBounds_toArray, List.set_cons_zero, List.set_cons_succ, List.getElem_toArray, List.getElem_cons_succ, List.getElem_cons_zero]
        refine wpAnyH_take (i := 37) (v := ?_) rfl (by kernel_rfl) (by kernel_rfl) (by kernel_rfl) (fun _ _ _ h => h) (Or.inl ⟨by rfl, ?_⟩) (by assumption) ?_; rotate_left; (intro w hSw; (try dsimp only at hSw); go_simp; try (with_reducible rfl)); try simp only [Act.put, List.setIfInBounds_toArray, List.set_cons_zero, List.set_cons_succ, List.getElem_toArray, List.getElem_cons_succ, List.getElem_cons_zero]
        refine wpAnyH_take (i := 38) (v := ?_) rfl (by kernel_rfl) (by kernel_rfl) (by kernel_rfl) (fun _ _ _ h => h) (Or.inl ⟨by rfl, ?_⟩) (by assumption) ?_; rotate_left; (intro w hSw; (try dsimp only at hSw); go_simp; try (with_reducible rfl)); try simp only [Act.put, List.setIfInBounds_toArray, List.set_cons_zero, List.set_cons_succ, List.getElem_toArray, List.getElem_cons_succ, List.getElem_cons_zero]
        refine wpAnyH_ready (rs := [35]) (by kernel_rfl) (by simp) ?_; refine AllReadyH.cons rfl (fun K hK => ?_) AllReadyH.nil; go_simp
        refine (Phase_c _ L M2 n9 SW4.out.pr.sl.ch).mono ?_; rintro e w9 ⟨rfl, hw⟩; have SW5 := Kept.mk (hw ▸ SW4.out); clear hw; rw [HQ3.out]
        try go_wp2_with fail
        refine hK.out _ _ (by (try dsimp only); (first | exact swc_keep (HCL.out _ SW6.out) | exact swc_keep (HCL.out _ SW5.out) | exact swc_keep (HCL.out _ SW4.out) | exact swc_keep (HCL.out _ SW3.out) | exact swc_keep (HCL.out _ SW2.out) | exact swc_keep (HCL.out _ SW1.out) | exact swc_keep (HCL.out _ (HSW.out.new_ (bdrew (Below.refl _ _)))))) (fun hHeld => ?_); clear hK K; try simp only [Act.put, List.setIfInBounds_toArray, List.set_cons_zero, List.set_cons_succ, List.getElem_toArray, List.getElem_cons_succ, List.getElem_cons_zero]
        refine wpAnyH_ready (rs := [39]) (by kernel_rfl) (by simp) ?_; refine AllReadyH.cons rfl (fun K hK => ?_) AllReadyH.nil; go_simp
        refine (epoch_c _ L.P S2 n9 true SW5.out.pr.sl.rat).mono ?_; rintro e w10 ⟨rfl, hb⟩; have SW6 := Kept.mk (SW5.out.new_ hb); clear hb; rw [HQ4.out]
        try go_wp2_with fail
        refine hK.out _ _ (by (try dsimp only); (first | exact swc_keep (HCL.out _ SW6.out) | exact swc_keep (HCL.out _ SW5.out) | exact swc_keep (HCL.out _ SW4.out) | exact swc_keep (HCL.out _ SW3.out) | exact swc_keep (HCL.out _ SW2.out) | exact swc_keep (HCL.out _ SW1.out) | exact swc_keep (HCL.out _ (HSW.out.new_ (bdrew (Below.refl _ _)))))) (fun hHeld => ?_); clear hK K; try simp only [Act.put, List.setIfInBounds_toArray, List.set_cons_zero, List.set_cons_succ, List.getElem_toArray, List.getElem_cons_succ, List.getElem_cons_zero]
        refine wpAnyH_take (i := 40) (v := ?_) rfl (by kernel_rfl) (by kernel_rfl) (by kernel_rfl) (fun _ _ _ h => h) (Or.inl ⟨by rfl, ?_⟩) (by assumption) ?_; rotate_left; (intro w hSw; (try dsimp only at hSw); go_simp; try (with_reducible rfl)); try simp only [Act.put, List.setIfInBounds_toArray, List.set_cons_zero, List.set_cons_succ, List.getElem_toArray, List.getElem_cons_succ, List.getElem_cons_zero]
        refine wpAnyH_take (i := 41) (v := ?_) rfl (by kernel_rfl) (by kernel_rfl) (by kernel_rfl) (fun _ _ _ h => h) (Or.inl ⟨by rfl, ?_⟩) (by assumption) ?_; rotate_left; (intro w hSw; (try dsimp only at hSw); go_simp; try (with_reducible rfl)); try simp only [Act.put, List.setIfInBounds_toArray, List.set_cons_zero, List.set_cons_succ, List.getElem_toArray, List.getElem_cons_succ, List.getElem_cons_zero]
        refine wpAnyH_done (by kernel_rfl) ?_ _
        trace "REGION DONE"
        go_wp2_with (at_builtin; refine wpList_append_any _ rfl _ _ _ rfl w.heap.size 39 jj _ 4 32 Try.underlying40 hjj hy0 hy1 hy2 rfl (by omega) _ fly.length _ rfl SW6.out.pr.sl.own _ A2 l.length k2 _ rfl (Reads.of_own SW6.out.r2) (m_one _) (by unfold maxLen; omega) (by omega) SW6.out.pr.sl.bel.size ?_; intro v' w9 ho hgw hat; obtain ⟨A9, k9, rfl, hS9, hB9⟩ := SW6.out.app ho rfl hgw; have HS9 := Kept.mk hS9; have HB9 := Kept.mk hB9; clear ho hgw hat hS9 hB9)
        go_roundw
        case rel => exact ⟨k + 1, M2, S2, fly ++ l, A9, k9, by omega, by go_num, by rw [List.length_append], HS9, HB9, ⟨SW6.out.sm⟩⟩
        case measure => simp [intOf]; omega
    · obtain rfl : k = l1.length := by omega
      clear hlt
      go_wp2_with fail
      go_ret
      exact ⟨rfl, HS.out.bel⟩

set_option maxRecDepth 100000 in
theorem liftedReconfigRuns (os : Os) (started : os.Started) (H : Type) (enc : TypeId × Value → H) :
    ReturnsInHanded {} Try.checked os 5 .any (Rows.reconfigRunsSpec.pre6 enc Try.prog Try.f5 Rows.reconfigRunsRow.domain false) (Rows.reconfigRunsSpec.post enc Try.prog Try.f5 false true false false) := by
  refine returnsInHanded_of_change (C := Try.checked) own started (by kernel_rfl) Try.func5
    (ChangeSpec.witness6 (enc := enc) (C := Try.checked) false ⟨#[], #[.slice none 0 0, .slice none 0 0], []⟩ 8 (by kernel_rfl) (by kernel_rfl) (by kernel_rfl) (by kernel_rfl)) ?_
  intro W base args ds gs before hval0 hW hcnd _
  have hval : ∀ (j : Nat) t v, Try.f5.params[j]? = some t → args[j]? = some v → Value.okWide Try.prog W .any base t v := hval0
  have hW' := hW
  obtain ⟨p, q, hA0, hV, rfl, hfz, hnd⟩ := hW
  have hA : DataW.TrodAll enc Try.prog W 0 (fun _ => true) true Try.f5.params.toList args.toList ds p := hA0
  rw [Try.params5] at hA hval
  obtain ⟨v0, vs0, d0, ds0, p0, q0, hargs, rfl, rfl, h0, r0⟩ := trodAll_cons hA
  obtain ⟨v1, vs1, d1, ds1, p1, q1, rfl, rfl, rfl, h1, r1⟩ := trodAll_cons r0
  obtain ⟨rfl, rfl, rfl⟩ := trodAll_nil r1
  obtain rfl : args = #[v0, v1] := by cases args; simp_all
  obtain ⟨rfl, rfl⟩ := trodVars_none hV
  have k0 := h0
  have lt0 : ∀ x ∈ p0, x.block < W.heap.size := by obtain ⟨m, hm⟩ := k0; exact DataW.trod_lt m _ _ _ hm
  have k1 := h1
  have lt1 : ∀ x ∈ p1, x.block < W.heap.size := by obtain ⟨m, hm⟩ := k1; exact DataW.trod_lt m _ _ _ hm
  obtain ⟨A0, kap0, l0, rfl, r0x, ok0, le0, mx0⟩ := open_bytes_ (hval 0 48 v0 rfl rfl) h0
  obtain ⟨A1, kap1, l1, rfl, r1x, ok1, le1, mx1⟩ := open_ops_ (hval 1 49 v1 rfl rfl) h1
  clear hA0 hval0
  refine (walkReconfigRuns A0 kap0 l0 A1 kap1 l1 W r0x ok0 le0 mx0 r1x ok1 le1 mx1).mono fun e W' ⟨he, bel⟩ => ?_
  subst he
  exact ⟨_, rfl, _, _, _, [], _, [], hW', trodAll_mk1 (shut_bool Try.underlying4 _), (trodAll_cons_mk (Below.trod laidOut (by kernel_rfl) (of_decide_eq_true (by kernel_rfl)) k0 bel lt0) (trodAll_cons_mk (Below.trod laidOut (by kernel_rfl) (of_decide_eq_true (by kernel_rfl)) k1 bel lt1) trodAll_mk0)), rfl, bel.frame _, fun h => by cases h⟩
/-- The given statement. -/
theorem reconfigRuns_holds : Rows.ReconfigRunsSaid :=
  OpenClaim.holds_of_wide 5 Try.f5 rfl rfl rfl rfl rfl rfl rfl ⟨rfl, rfl, rfl, rfl, rfl⟩ rfl rfl rfl rfl rfl (by kernel_rfl) Try.func5 (by kernel_rfl)
    (of_decide_eq_true (by kernel_rfl)) (by unfold Func.isWrapper; first | (rw [if_pos (by decide +kernel)]; kernel_rfl) | (rw [if_neg (by decide +kernel)]; exact ⟨rfl, rfl⟩))
    (fun os started H enc _ => liftedReconfigRuns os started H enc)
#print axioms reconfigRuns_holds
end Go.Proofs.Ytibmbhnpmfgclaa
