/- For all shapes and operations the statement ReconfigAgrees returns true: a new change begins only when all nodes rest with the same epoch. No condition. -/
import Derived.Test.YtibmbhnpmfgclaaRBase
import Derived.Test.YtibmbhnpmfgclaaRAgr
namespace Go.Proofs.Ytibmbhnpmfgclaa
open Go.ChangeShapes Go.WideShapes Go.ChangeAt Go.RowKit Go.Maps
set_option linter.unusedVariables false
set_option linter.unusedSimpArgs false
set_option maxRecDepth 100000 in
set_option maxHeartbeats 32000000 in
theorem walkReconfigAgrees (A0 : Option Addr) (kap0 : Nat) (l0 : List Nat) (A1 : Option Addr) (kap1 : Nat) (l1 : List Opn) (w : World) (r0x : RowsAt w w.heap.size 1 ucell A0 l0) (ok0 : ∀ x ∈ l0, x ≤ 255) (le0 : l0.length ≤ kap0) (mx0 : kap0 ≤ maxLen) (r1x : RowsAt w w.heap.size 6 ocell A1 l1) (ok1 : ∀ x ∈ l1, OpOk x) (le1 : l1.length ≤ kap1) (mx1 : kap1 ≤ maxLen) :
    Calls Try.prog 7 #[.slice A0 l0.length kap0, .slice A1 l1.length kap1] w fun e w' => e = .returned (.bool true) ∧ Below w.heap.size w w' := by
  have hl0 : l0.length ≤ 9223372036854775807 := by unfold maxLen at mx0; omega
  have hl1 : l1.length ≤ 9223372036854775807 := by unfold maxLen at mx1; omega
  have HR0 := Kept.mk r0x
  have HR1 := Kept.mk r1x
  have HK0 := Kept.mk ok0
  have HO1 := Kept.mk ok1
  clear ok0 ok1 r0x r1x mx0 mx1 le0 le1
  have HDW : Kept (Below w.heap.size w w) := ⟨Below.refl _ _⟩
  have tok1 : True := trivial
  by_cases h120 : 120 < l1.length
  · go_enter Try.func7, Try.ntmps7
    go_wp2_with (first | (go_at_call 10; have _t := tok1; refine (awake_c _).mono ?_; rintro e wa ⟨rfl, hba⟩; have HDA := Kept.mk (join HDW.out hba); clear hba tok1 _t) | (go_at_call 10; refine (awake_c _).mono ?_; rintro e wb ⟨rfl, hbb⟩; have HDB := Kept.mk (join HDA.out hbb); clear hbb))
    go_ret
    exact ⟨rfl, HDB.out⟩
  by_cases h10 : 10 < l0.length
  · go_enter Try.func7, Try.ntmps7
    go_wp2_with (first | (go_at_call 10; have _t := tok1; refine (awake_c _).mono ?_; rintro e wa ⟨rfl, hba⟩; have HDA := Kept.mk (join HDW.out hba); clear hba tok1 _t) | (go_at_call 10; refine (awake_c _).mono ?_; rintro e wb ⟨rfl, hbb⟩; have HDB := Kept.mk (join HDA.out hbb); clear hbb))
    go_ret
    exact ⟨rfl, HDB.out⟩
  have hn1 := (tree_len l0).1
  have hn2 := (tree_len l0).2
  clear tok1
  have hmk := fun w => run_make_flat (P := Try.prog) icell_len (by omega) (0 : Int) 22 3 _ 8 Try.underlying22 infoI rfl (treeP l0).length (by omega) (by omega) w
  go_enter Try.func7, Try.ntmps7
  go_wp2_with (first | (go_at_call 10; refine (awake_c _).mono ?_; rintro e wa ⟨rfl, hba⟩; have HDA := Kept.mk (join HDW.out hba); clear hba) | (go_at_call 24; refine (tree_c l0 A0 kap0 _ (HR0.out.new_ HDA.out) HK0.out (by omega)).mono ?_; rintro e wt ⟨At, kt, rfl, hot, hbt⟩; have HOT := Kept.mk hot; have HDT := Kept.mk (join HDA.out hbt); have HKT := Kept.mk (own_cap hot); clear hot hbt) | (go_at_call 11; refine (plan_c (treeP l0).length _ hn2).mono ?_; rintro e wp ⟨⟨N, C, An, kn, Ac, kc⟩, rfl, hN, hC, hp, hb⟩; simp only at hN hC; subst hN hC; unfold pv; have HPP := Kept.mk hp; have HDP := Kept.mk (join HDT.out hb); have HOP := Kept.mk (own_new HOT.out hb); clear hp hb) | (go_at_call 12; refine (New_ (planN (treeP l0).length) (planC (treeP l0).length) An Ac At kn kc kt (treeP l0) _ HPP.out (RowsAt.of_own HOP.out icell_len (by omega) rfl) (by omega)).mono ?_; rintro e wn hnr; obtain ⟨L, rfl, hLP, hLr, hC, hSL, hbn⟩ := hnr.ok (tree_new l0); have HS0 := Kept.mk (st_start hLP hLr hC hSL (join HDP.out hbn) HDP.out.size); clear hnr hLP hLr hC hSL hbn))
  have HLN : Kept (L.P.length = (treeP l0).length) := ⟨by rw [HS0.out.P]⟩
  have HS1 := Kept.mk (HS0.out.new_ ((Below.refl wn.heap.size wn).alloc (Nat.le_refl _) (.cells ((List.replicate (treeP l0).length (0 : Int)).flatMap icell).toArray 3)))
  have HD1 : Kept (RowBlk (wn.alloc (.cells ((List.replicate (treeP l0).length (0 : Int)).flatMap icell).toArray 3)) wn.heap.size 3 icell (List.replicate (treeP l0).length (0 : Int))) := ⟨Blk.new _ _ _⟩
  have HDI : Kept (DI (dlD (List.replicate (treeP l0).length (0 : Int))) (sns (List.replicate (treeP l0).length ⟨⟨0, 0, [], false⟩, none⟩))) := ⟨by
    rw [sns_rep]
    have h := di0 (treeP l0).length
    rwa [show (dlD (List.replicate (treeP l0).length (0 : Int))) = fun _ => 0 from funext fun v => by unfold dlD; rw [List.getD_eq_getElem?_getD, List.getElem?_replicate]; split <;> rfl]⟩
  have HDN : Kept ((List.replicate (treeP l0).length (0 : Int)).length = (treeP l0).length) := ⟨by simp⟩
  have hgD : w.heap.size ≤ wn.heap.size := HS0.out.bel.size
  have HLD : Kept (ob L.Ap ≠ some wn.heap.size ∧ ∀ (v : Nat) (pt : Pt), L.pts[v]? = some pt → ob pt.A ≠ some wn.heap.size) := ⟨⟨fun e => by have h9 := (HS0.out.ch.fix.par.lt _ (by rw [ob_eq]; exact e)).2; omega, fun v pt hv e => by have h9 := ((HS0.out.ch.fix.chk v pt hv).1.lt _ (by rw [ob_eq]; exact e)).2; omega⟩⟩
  obtain ⟨gD, hgDe⟩ : ∃ g, g = wn.heap.size := ⟨_, rfl⟩
  rw [← hgDe] at HD1 hgD HLD ⊢
  clear HS0 hmk hgDe
  generalize hrz : List.replicate (treeP l0).length (0 : Int) = dl0 at *
  clear hrz
  generalize (treeP l0).length = n at *
  go_loopw [9, 45] (fun v9 v45 wr => ∃ (k : Nat) (M : List Nm) (fly : List Mg) (Af : Option Addr) (kf : Nat) (dl : List Int), k ≤ l1.length ∧ v45 = .int .i64 k ∧ v9 = .slice Af fly.length kf ∧ Kept (St w L l0 (2 * k) M fly Af kf wr) ∧ Kept (RowBlk wr gD 3 icell dl) ∧ Kept (dl.length = n) ∧ Kept (DI (dlD dl) (sns M))) (fun _ v45 _ => l1.length - (intOf v45).toNat)
  case atStart => exact ⟨0, _, [], none, 0, dl0, Nat.zero_le _, rfl, rfl, HS1, HD1, HDN, HDI⟩
  case round =>
    clear HS1 HD1 HDI HDN
    obtain ⟨k, M, fly, Af, kf, dl, hk, rfl, rfl, HS, HDR, HDN, HDI⟩ := hrel
    have hz := HS.out.bel.size
    by_cases hlt : k < l1.length
    · obtain ⟨x, b, off, hx, hA, -, hb, hc⟩ := (HR1.out.new_ HS.out.bel).at_ hlt
      have c0 := hc 0 (.int .i64 x.kind) rfl
      have c1 := hc 1 (.int .i64 x.n) rfl
      have c2 := hc 2 (.int .i64 x.m.kind) rfl
      have c3 := hc 3 (.int .i64 x.m.frm) rfl
      have c4 := hc 4 (.int .i64 x.m.to_) rfl
      have c5 := hc 5 (.int .i64 x.m.ep) rfl
      simp only [Nat.add_zero] at c0
      have HA := Kept.mk hA
      have HXO := Kept.mk (HO1.out x (List.mem_of_getElem? hx))
      rw [hA]
      clear hx hc hA
      have HSB := Kept.mk (HS.out.new_ ((Below.refl wr.heap.size wr).alloc (Nat.le_refl _) (.cells #[.int .i64 x.kind, .int .i64 x.n, .int .i64 x.m.kind, .int .i64 x.m.frm, .int .i64 x.m.to_, .int .i64 x.m.ep] 56)))
      have HDB := Kept.mk (HDR.out.alloc (.cells #[.int .i64 x.kind, .int .i64 x.n, .int .i64 x.m.kind, .int .i64 x.m.frm, .int .i64 x.m.to_, .int .i64 x.m.ep] 56))
      have HBO := Kept.mk (Blk.new wr 56 #[.int .i64 x.kind, .int .i64 x.n, .int .i64 x.m.kind, .int .i64 x.m.frm, .int .i64 x.m.to_, .int .i64 x.m.ep])
      by_cases h6 : x.kind = 6
      · obtain ⟨q1, q2⟩ := z_yes' h6
        have HSN := Kept.mk (HSB.out.more (show 2 * k ≤ 2 * (k + 1) by omega))
        clear h6
        go_wp2_with fail
        go_roundw
        case rel => exact ⟨k + 1, M, fly, Af, kf, dl, by omega, by go_num, rfl, HSN, HDB, HDN, HDI⟩
        case measure => simp [intOf]; omega
      · obtain ⟨q1, q2⟩ := z_no' h6
        clear h6 HS HDR
        have hsl : (sns M).length = n := by rw [HSB.out.inv.len, HLN.out]
        go_upto_region 13 with fail
        generalize (wr.alloc (.cells #[.int .i64 x.kind, .int .i64 x.n, .int .i64 x.m.kind, .int .i64 x.m.frm, .int .i64 x.m.to_, .int .i64 x.m.ep] 56)) = wb at *
        generalize hbo : wr.heap.size = bo at *
        clear hbo
        have o0 := HBO.out.cell 0 (v := .int .i64 x.kind) rfl
        have o1 := HBO.out.cell 1 (v := .int .i64 x.n) rfl
        have zo := HBO.out.lt
        obtain ⟨pq, hpq⟩ : ∃ z, phQ (sns M) x.n = z := ⟨_, rfl⟩
        have HPQ := Kept.mk hpq
        obtain ⟨cB, hcB⟩ : ∃ c : Bool, (decide (x.kind = 4) && (decide (0 ≤ x.n) && (decide (x.n < (n : Int)) && decide (pq = 3)))) = c := ⟨_, rfl⟩
        have HCB := Kept.mk hcB
        clear hpq hcB
        go_cut [73] (fun s73 wx => s73 = .bool cB ∧ wx = wb)
        case first =>
          have HPH := Kept.mk (Phase_c wb L M x.n HSB.out.ch)
          by_cases h4 : x.kind = 4
          · obtain ⟨p1, -⟩ := z_yes' h4
            by_cases h0 : 0 ≤ x.n
            · by_cases hn : x.n < (n : Int)
              · by_cases h3 : pq = 3
                · obtain ⟨p4, -⟩ := z_yes' h3
                  have HT : Kept (cB = true) := ⟨by rw [← HCB.out, decide_eq_true h4, decide_eq_true h0, decide_eq_true hn, decide_eq_true h3]; rfl⟩
                  clear h4 h3
                  go_wp2_with (go_at_call 21; refine HPH.out.mono ?_; rintro e w2 ⟨rfl, rfl⟩; rw [HPQ.out])
                  go_meet
                  exact ⟨by rw [HT.out], rfl⟩
                · obtain ⟨p4, -⟩ := z_no' h3
                  have HT : Kept (cB = false) := ⟨by rw [← HCB.out, decide_eq_false h3]; simp⟩
                  clear h4 h3
                  go_wp2_with (go_at_call 21; refine HPH.out.mono ?_; rintro e w2 ⟨rfl, rfl⟩; rw [HPQ.out])
                  go_meet
                  exact ⟨by rw [HT.out], rfl⟩
              · have HT : Kept (cB = false) := ⟨by rw [← HCB.out, decide_eq_false hn]; simp⟩
                clear h4
                go_wp2_with fail
                go_meet
                exact ⟨by rw [HT.out], rfl⟩
            · have HT : Kept (cB = false) := ⟨by rw [← HCB.out, decide_eq_false h0]; simp⟩
              clear h4
              go_wp2_with fail
              go_meet
              exact ⟨by rw [HT.out], rfl⟩
          · obtain ⟨p1, -⟩ := z_no' h4
            have HT : Kept (cB = false) := ⟨by rw [← HCB.out, decide_eq_false h4]; rfl⟩
            clear h4
            go_wp2_with fail
            go_meet
            exact ⟨by rw [HT.out], rfl⟩
        case rest =>
          obtain ⟨hs73, hwx⟩ := hcut
          subst hs73
          have hwy := hwx.symm
          subst hwy
          go_upto_if 73 with fail
          go_cut [] (fun wx => ∃ (dl' : List Int), Kept (St w L l0 (2 * k) M fly Af kf wx) ∧ Kept (RowBlk wx gD 3 icell dl') ∧ Kept (dl'.length = n) ∧ Kept (DI (dlD dl') (sns M)) ∧ Kept (Blk wx bo 56 #[.int .i64 x.kind, .int .i64 x.n, .int .i64 x.m.kind, .int .i64 x.m.frm, .int .i64 x.m.to_, .int .i64 x.m.ep]) ∧ Kept (x.kind = 4 → drainErr (sns M) x.n = 0 → dlD dl' x.n.toNat = (nd (sns M) x.n.toNat).ep))
          case first =>
            cases cB with
            | false =>
              have HNO : Kept (x.kind = 4 → drainErr (sns M) x.n = 0 → dlD dl x.n.toNat = (nd (sns M) x.n.toNat).ep) := ⟨fun h4 hd => by
                exfalso
                obtain ⟨v0, hvl, hph⟩ := drain_ok hd
                have h9 := HCB.out
                have hpq : pq = 3 := by
                  rw [← HPQ.out]; unfold phQ
                  rw [if_neg (by omega), hph]; rfl
                rw [decide_eq_true h4, decide_eq_true v0, decide_eq_true hpq, decide_eq_true (show x.n < (n : Int) by omega)] at h9
                cases h9⟩
              go_wp2_with fail
              go_meet
              exact ⟨dl, HSB, HDB, HDN, HDI, HBO, HNO⟩
            | true =>
              have hcc := HCB.out
              simp only [Bool.and_eq_true, decide_eq_true_eq] at hcc
              obtain ⟨h4, h0, hn, h3⟩ := hcc
              obtain ⟨d, hd⟩ : ∃ d : Nat, x.n = d := ⟨x.n.toNat, by omega⟩
              have HD := Kept.mk hd
              rw [hd] at o1
              have hdl : d < n := by omega
              have HD3 : Kept ((nd (sns M) d).ph = 3) := ⟨by
                have h9 := HPQ.out
                rw [hd, phQ_at (by omega)] at h9
                omega⟩
              have HED : Kept (epQ (sns M) (d : Int) = ((nd (sns M) d).ep : Int)) := ⟨epQ_at (by omega)⟩
              have HSE := Kept.mk (HDB.out.set1 icell_len (k := d) (x := ((nd (sns M) d).ep : Int)) (a := .int .i64 ((nd (sns M) d).ep : Int)) (by rw [HDN.out]; exact hdl) rfl)
              have HSE2 : Kept (RowBlk ((wb.drew).setCell ⟨gD, d, none⟩ (.int .i64 ((nd (sns M) d).ep : Int))) gD 3 icell (dl.set d ((nd (sns M) d).ep : Int))) := ⟨HSE.out⟩
              have HBE2 : Kept (Blk ((wb.drew).setCell ⟨gD, d, none⟩ (.int .i64 ((nd (sns M) d).ep : Int))) bo 56 #[.int .i64 x.kind, .int .i64 x.n, .int .i64 x.m.kind, .int .i64 x.m.frm, .int .i64 x.m.to_, .int .i64 x.m.ep]) := ⟨HBO.out.drew.far (p := ⟨gD, d, none⟩) (Blk.ne_ HBO.out HDB.out (by decide)) _⟩
              have HMK := Kept.mk (di_mark HDI.out (by rw [HDN.out]; exact hdl) HD3.out)
              have HOK2 : Kept (x.kind = 4 → drainErr (sns M) x.n = 0 → dlD (dl.set d ((nd (sns M) d).ep : Int)) x.n.toNat = (nd (sns M) x.n.toNat).ep) := ⟨fun _ _ => by
                rw [HD.out, Int.toNat_natCast, dl_set (by rw [HDN.out]; exact hdl), if_pos rfl]⟩
              have hne : bo ≠ gD := Blk.ne_ HBO.out HDB.out (by decide)
              have cD : wb.cell? ⟨gD, d, none⟩ = some (.int .i64 (dlD dl d)) := (by have h9 := HDB.out.cell icell_len (dl_get (dl := dl) (v := d) (by rw [HDN.out]; exact hdl)) (j := 0) rfl; simpa using h9)
              have fD := HDB.out.free d
              have zD := HDB.out.lt
              have kd1 := o1
              have hDl : dl.length = n := HDN.out
              have HSL := Kept.mk (sl_blk HSB.out.ch HDB.out (by decide))
              have HSTX : Kept (∀ u, St w L l0 (2 * k) M fly Af kf ((wb.drew).setCell ⟨gD, d, none⟩ u)) := ⟨fun u => by
                have hS := HSB.out.new_ (bdrew (Below.refl wb.heap.size wb))
                have ho : OnlyP (fun g => g = gD) wb.drew ((wb.drew).setCell ⟨gD, d, none⟩ u) := OnlyP.set (S := fun g => g = gD) (OnlyP.refl (fun g => g = gD) wb.drew) (p := ⟨gD, d, none⟩) (.inl rfl) u
                have hblk : Blk wb.drew gD 3 _ := HDB.out
                exact ⟨hS.P, hS.root, hS.ch.keep3 hblk ho HLD.out.1 HLD.out.2, hS.inv, hS.ok, hS.ep, hS.fl, own_keep hS.own ho (fun g hg e => by subst e; exact own_blk_ne hS.own hblk (by decide) hg), hS.sl, hS.bel.trans (ho.below (B := w.heap.size) (fun g hg => by subst hg; exact hgD) hS.bel.size)⟩⟩
              clear h4 h0 hn h3 hd hDl
              go_wp2_with fail
              refine wp_region_held_drew (S := (fun w' => w'.cell? ⟨bo, 1, none⟩ = some (.int .i64 (d : Int)))) (by kernel_rfl) (by (try dsimp only); (first | (go_keep; done) | (go_simp; done) | exact kd1)) (fun hHeld => ?_)
              refine wpAnyH_take (i := 0) (v := ?_) rfl (by kernel_rfl) (by kernel_rfl) (by kernel_rfl) (fun _ _ _ h => h) (Or.inl ⟨by rfl, ?_⟩) (by assumption) ?_; rotate_left; (intro w hSw; (try dsimp only at hSw); go_simp; try (with_reducible rfl)); try simp only [Act.put, List.setIfInBounds_toArray, List.set_cons_zero, List.set_cons_succ, List.getElem_toArray, List.getElem_cons_succ, List.getElem_cons_zero]
              refine wpAnyH_take (i := 1) (v := ?_) rfl (by kernel_rfl) (by kernel_rfl) (by kernel_rfl) (fun _ _ _ h => h) (Or.inl ⟨by rfl, ?_⟩) (by assumption) ?_; rotate_left; (intro w hSw; (try dsimp only at hSw); go_simp; try (with_reducible rfl)); try simp only [Act.put, List.setIfInBounds_toArray, List.set_cons_zero, List.set_cons_succ, List.getElem_toArray, List.getElem_cons_succ, List.getElem_cons_zero]
              refine wpAnyH_take (i := 2) (v := ?_) rfl (by kernel_rfl) (by kernel_rfl) (by kernel_rfl) (fun _ _ _ h => h) (Or.inl ⟨by rfl, ?_⟩) (by assumption) ?_; rotate_left; (intro w hSw; (try dsimp only at hSw); go_simp; try (with_reducible rfl)); try simp only [Act.put, List.setIfInBounds_toArray, List.set_cons_zero, List.set_cons_succ, List.getElem_toArray, List.getElem_cons_succ, List.getElem_cons_zero]
              refine wpAnyH_take (i := 3) (v := ?_) rfl (by kernel_rfl) (by kernel_rfl) (by kernel_rfl) (fun _ _ _ h => h) (Or.inl ⟨by rfl, ?_⟩) (by assumption) ?_; rotate_left; (intro w hSw; (try dsimp only at hSw); go_simp; try (with_reducible rfl)); try simp only [Act.put, List.setIfInBounds_toArray, List.set_cons_zero, List.set_cons_succ, List.getElem_toArray, List.getElem_cons_succ, List.getElem_cons_zero]
              refine wpAnyH_take (i := 4) (v := ?_) rfl (by kernel_rfl) (by kernel_rfl) (by kernel_rfl) (fun _ _ _ h => h) (Or.inl ⟨by rfl, ?_⟩) (by assumption) ?_; rotate_left; (intro w hSw; (try dsimp only at hSw); go_simp; try (with_reducible rfl)); try simp only [Act.put, List.setIfInBounds_toArray, List.set_cons_zero, List.set_cons_succ, List.getElem_toArray, List.getElem_cons_succ, List.getElem_cons_zero]
              refine wpAnyH_take (i := 5) (v := ?_) rfl (by kernel_rfl) (by kernel_rfl) (by kernel_rfl) (fun _ _ _ h => h) (Or.inl ⟨by rfl, ?_⟩) (by assumption) ?_; rotate_left; (intro w hSw; (try dsimp only at hSw); go_simp; try (with_reducible rfl)); try simp only [Act.put, List.setIfInBounds_toArray, List.set_cons_zero, List.set_cons_succ, List.getElem_toArray, List.getElem_cons_succ, List.getElem_cons_zero]
              refine wpAnyH_ready (rs := [6]) (by kernel_rfl) (by simp) ?_; refine AllReadyH.cons rfl (fun K hK => ?_) AllReadyH.nil; go_simp
              (go_at_call 20; refine (Epoch_c _ L M (d : Int) (HSB.out.ch.new_ (by repeat (first | exact Below.refl _ _ | refine dN ?_ _ | refine bdrew ?_)))).mono ?_; rintro e w2 ⟨rfl, rfl⟩; rw [HED.out])
              try go_wp2_with fail
              refine hK.out _ _ (by (try dsimp only); (first | (go_keep; done) | (go_simp; done) | exact kd1)) (fun hHeld => ?_); clear hK K; try simp only [Act.put, List.setIfInBounds_toArray, List.set_cons_zero, List.set_cons_succ, List.getElem_toArray, List.getElem_cons_succ, List.getElem_cons_zero]
              refine wpAnyH_take (i := 7) (v := ?_) rfl (by kernel_rfl) (by kernel_rfl) (by kernel_rfl) (fun _ _ _ h => h) (Or.inl ⟨by rfl, ?_⟩) (by assumption) ?_; rotate_left; (intro w hSw; (try dsimp only at hSw); go_simp; try (with_reducible rfl)); try simp only [Act.put, List.setIfInBounds_toArray, List.set_cons_zero, List.set_cons_succ, List.getElem_toArray, List.getElem_cons_succ, List.getElem_cons_zero]
              refine wpAnyH_ready (rs := [8]) (by kernel_rfl) (by simp) ?_; refine AllReadyH.cons rfl (fun K hK => ?_) AllReadyH.nil; go_simp
              refine hK.out _ _ (by (try dsimp only); (first | (go_keep; done) | (go_simp; done) | exact kd1)) (fun hHeld => ?_); clear hK K; try simp only [Act.put, List.setIfInBounds_toArray, List.set_cons_zero, List.set_cons_succ, List.getElem_toArray, List.getElem_cons_succ, List.getElem_cons_zero]
              refine wpAnyH_done (by kernel_rfl) ?_ _
              go_wp2_with fail
              go_meet
              exact ⟨dl.set d ((nd (sns M) d).ep : Int), ⟨HSTX.out _⟩, HSE2, ⟨by rw [List.length_set]; exact HDN.out⟩, HMK, HBE2, HOK2⟩
          case rest =>
            obtain ⟨dl', HS2, HDR2, HDN2, HDI2, HBO2, HOK⟩ := hcut
            clear HSB HDB HBO o0 o1 zo
            have hb0 := HBO2.out.cell 0 (v := .int .i64 x.kind) rfl
            have zo := HBO2.out.lt
            by_cases hF : (nd (sns M) L.root).ph = 0
            · have HFT : Kept (decide ((nd (sns M) L.root).ph = 0) = true) := ⟨decide_eq_true hF⟩
              have HF0 : Kept ((nd (sns M) 0).ph = 0) := ⟨by rw [HS2.out.root] at hF; exact hF⟩
              have HNR := Kept.mk (near0 HS2.out.inv HS2.out.tree HF0.out)
              have HE0 : Kept (epQ (sns M) 0 = ((nd (sns M) 0).ep : Int)) := ⟨epQ_at (i := 0) (by omega)⟩
              clear hF
              go_wp2_with (go_at_call 22; refine (Finished_c _ L M HS2.out.ch).mono ?_; rintro e w3 ⟨rfl, n3, rfl⟩; rw [HFT.out]; have HS3 := Kept.mk (HS2.out.drawn n3); have HD3 := Kept.mk (HDR2.out.drewN n3); have HB3 := Kept.mk (HBO2.out.drewN n3))
              generalize (wc.drewN n3) = wf at *
              go_loopw [86] (fun v86 wr6 => ∃ i : Nat, i ≤ n ∧ v86 = .int .i64 i ∧ Kept (Drewn wf wr6)) (fun v86 _ => n - (intOf v86).toNat)
              case atStart => exact ⟨0, Nat.zero_le _, rfl, ⟨⟨0, rfl⟩⟩⟩
              case round =>
                obtain ⟨i, hi, rfl, HDW6⟩ := hrel
                have hbw := HDW6.out.below
                have HBW := Kept.mk hbw
                clear hbw
                by_cases hit : i < n
                · obtain ⟨a1, a2⟩ := HNR.out (i + 1) i (Nat.lt_succ_self i) (by rw [HLN.out]; exact hit)
                  have HEI : Kept (epQ (sns M) (i : Int) = ((nd (sns M) 0).ep : Int)) := ⟨by rw [epQ_at (by omega), a2]⟩
                  have HPI : Kept (phQ (sns M) (i : Int) = 0) := ⟨by rw [phQ_at (by omega), a1]; rfl⟩
                  have hdi : dlD dl' i = ((nd (sns M) 0).ep : Int) := by rw [← a2]; exact (HDI2.out i).2 a1
                  have cd : wr.cell? ⟨gD, i, none⟩ = some (.int .i64 ((nd (sns M) 0).ep : Int)) := (by have h9 := (HD3.out.new_ HBW.out).cell icell_len (dl_get (dl := dl') (v := i) (by rw [HDN2.out]; exact hit)) (j := 0) rfl; rw [hdi] at h9; simpa using h9)
                  have zD := (HD3.out.new_ HBW.out).lt
                  have HCW := Kept.mk (HS3.out.ch.new_ HBW.out)
                  clear a1 a2 hdi
                  generalize ((nd (sns M) 0).ep : Int) = ze at *
                  go_wp2_with fail
                  have hEI := HEI.out
                  have hE0 := HE0.out
                  have hPI := HPI.out
                  go_quiet (first | (go_at_call 20; exact Calls.quiet_of_same ((Epoch_c _ L M _ (HCW.out.new_ (by repeat (first | exact Below.refl _ _ | refine dN ?_ _ | refine bdrew ?_)))).mono fun _ _ h => ⟨h.1, h.2.symm⟩)) | (go_at_call 21; exact Calls.quiet_of_same ((Phase_c _ L M _ (HCW.out.new_ (by repeat (first | exact Below.refl _ _ | refine dN ?_ _ | refine bdrew ?_)))).mono fun _ _ h => ⟨h.1, h.2.symm⟩)))
                  clear hEI hE0 hPI
                  go_wp2_with fail
                  go_roundw
                  case rel => exact ⟨i + 1, by omega, by go_num, ⟨HDW6.out.step _⟩⟩
                  case measure => simp [intOf]; omega
                · obtain rfl : i = n := by omega
                  have HS4 := Kept.mk (HS3.out.new_ HBW.out)
                  have HD4 := Kept.mk (HD3.out.new_ HBW.out)
                  have HB4 := Kept.mk (HB3.out.new_ HBW.out)
                  have b0 := HB4.out.cell 0 (v := .int .i64 x.kind) rfl
                  have b1 := HB4.out.cell 1 (v := .int .i64 x.n) rfl
                  have b2 := HB4.out.cell 2 (v := .int .i64 x.m.kind) rfl
                  have b3 := HB4.out.cell 3 (v := .int .i64 x.m.frm) rfl
                  have b4 := HB4.out.cell 4 (v := .int .i64 x.m.to_) rfl
                  have b5 := HB4.out.cell 5 (v := .int .i64 x.m.ep) rfl
                  have z4 := HB4.out.lt
                  clear hit hb0
                  go_wp2_with (go_at_call 32; refine (step_c _ L M fly Af kf x.kind x.n x.m HS4.out.ch (HS4.out.fit (by omega)) HS4.out.own HS4.out.p10 HS4.out.fl).mono ?_; rintro e w7 hs; obtain ⟨A7, kap7, fly7, M7, rfl, hst, hR, hle, hon⟩ := HS4.out.step hs; have HS7 := Kept.mk hst; have HR7 := Kept.mk hR; have HDL7 := Kept.mk (HD4.out.only hon (sl_blk HS4.out.ch HD4.out (by decide))); clear hs hst hR hle hon)
                  have HDI7 := Kept.mk (di_step HDI2.out HS4.out.inv HS4.out.tree HS4.out.ok HR7.out HOK.out)
                  go_roundw
                  case rel => exact ⟨k + 1, M7, fly7, A7, kap7, dl', by omega, by go_num, rfl, ⟨HS7.out.more (by omega)⟩, HDL7, HDN2, HDI7⟩
                  case measure => simp [intOf]; omega
            · have HFT : Kept (decide ((nd (sns M) L.root).ph = 0) = false) := ⟨decide_eq_false hF⟩
              have HFN := Kept.mk hF
              clear hF
              go_wp2_with (first | (go_at_call 22; refine (Finished_c _ L M HS2.out.ch).mono ?_; rintro e w3 ⟨rfl, n3, rfl⟩; rw [HFT.out]; have HS3 := Kept.mk (HS2.out.drawn n3); have HD3 := Kept.mk (HDR2.out.drewN n3); have HB3 := Kept.mk (HBO2.out.drewN n3)) | (go_at_call 17; refine (Begin_c _ L M HS3.out.ch (HS3.out.fit (by omega))).mono ?_; rintro e w4 hu; obtain ⟨A4, k4, M4, rfl, hs4, hst4, hon4⟩ := HS3.out.begin_ HFN.out hu; have HS4 := Kept.mk hst4; have HM4 := Kept.mk hs4; have HD4 := Kept.mk (HD3.out.only hon4 (sl_blk HS3.out.ch HD3.out (by decide))); have HB4 := Kept.mk (HB3.out.only hon4 (sl_blk HS3.out.ch HB3.out (by decide))); have b0 := HB4.out.cell 0 (v := .int .i64 x.kind) rfl; have b1 := HB4.out.cell 1 (v := .int .i64 x.n) rfl; have b2 := HB4.out.cell 2 (v := .int .i64 x.m.kind) rfl; have b3 := HB4.out.cell 3 (v := .int .i64 x.m.frm) rfl; have b4 := HB4.out.cell 4 (v := .int .i64 x.m.to_) rfl; have b5 := HB4.out.cell 5 (v := .int .i64 x.m.ep) rfl; have z4 := HB4.out.lt; clear hu hs4 hst4 hon4) | (go_at_call 32; refine (step_c _ L M4 fly Af kf x.kind x.n x.m HS4.out.ch (HS4.out.fit (by omega)) HS4.out.own HS4.out.p10 HS4.out.fl).mono ?_; rintro e w7 hs; obtain ⟨A7, kap7, fly7, M7, rfl, hst, hR, hle, hon⟩ := HS4.out.step hs; have HS7 := Kept.mk hst; have HR7 := Kept.mk hR; have HDL7 := Kept.mk (HD4.out.only hon (sl_blk HS4.out.ch HD4.out (by decide))); clear hs hst hR hle hon))
              have HDI7 : Kept (DI (dlD dl') (sns M7)) := ⟨di_step (ns := sns M4) (by rw [HM4.out]; exact HDI2.out) HS4.out.inv HS4.out.tree HS4.out.ok HR7.out (by rw [HM4.out]; exact HOK.out)⟩
              go_roundw
              case rel => exact ⟨k + 1, M7, fly7, A7, kap7, dl', by omega, by go_num, rfl, ⟨HS7.out.more (by omega)⟩, HDL7, HDN2, HDI7⟩
              case measure => simp [intOf]; omega
    · obtain rfl : k = l1.length := by omega
      clear hlt
      go_wp2_with fail
      go_ret
      exact ⟨rfl, HS.out.bel⟩

set_option maxRecDepth 100000 in
theorem liftedReconfigAgrees (os : Os) (started : os.Started) (H : Type) (enc : TypeId × Value → H) :
    ReturnsInHanded {} Try.checked os 7 .any (Rows.reconfigAgreesSpec.pre6 enc Try.prog Try.f7 Rows.reconfigAgreesRow.domain false) (Rows.reconfigAgreesSpec.post enc Try.prog Try.f7 false true false false) := by
  refine returnsInHanded_of_change (C := Try.checked) own started (by kernel_rfl) Try.func7
    (ChangeSpec.witness6 (enc := enc) (C := Try.checked) false ⟨#[], #[.slice none 0 0, .slice none 0 0], []⟩ 8 (by kernel_rfl) (by kernel_rfl) (by kernel_rfl) (by kernel_rfl)) ?_
  intro W base args ds gs before hval0 hW hcnd _
  have hval : ∀ (j : Nat) t v, Try.f7.params[j]? = some t → args[j]? = some v → Value.okWide Try.prog W .any base t v := hval0
  have hW' := hW
  obtain ⟨p, q, hA0, hV, rfl, hfz, hnd⟩ := hW
  have hA : DataW.TrodAll enc Try.prog W 0 (fun _ => true) true Try.f7.params.toList args.toList ds p := hA0
  rw [Try.params7] at hA hval
  obtain ⟨v0, vs0, d0, ds0, p0, q0, hargs, rfl, rfl, h0, r0⟩ := trodAll_cons hA
  obtain ⟨v1, vs1, d1, ds1, p1, q1, rfl, rfl, rfl, h1, r1⟩ := trodAll_cons r0
  obtain ⟨rfl, rfl, rfl⟩ := trodAll_nil r1
  obtain rfl : args = #[v0, v1] := by cases args; simp_all
  obtain ⟨rfl, rfl⟩ := trodVars_none hV
  have k0 := h0
  have lt0 : ∀ x ∈ p0, x.block < W.heap.size := by obtain ⟨m, hm⟩ := k0; exact DataW.trod_lt m _ _ _ hm
  have k1 := h1
  have lt1 : ∀ x ∈ p1, x.block < W.heap.size := by obtain ⟨m, hm⟩ := k1; exact DataW.trod_lt m _ _ _ hm
  obtain ⟨A0, kap0, l0, rfl, r0x, ok0, le0, mx0⟩ := open_bytes_ (hval 0 48 v0 rfl rfl) h0
  obtain ⟨A1, kap1, l1, rfl, r1x, ok1, le1, mx1⟩ := open_ops_ (hval 1 49 v1 rfl rfl) h1
  clear hA0 hval0
  refine (walkReconfigAgrees A0 kap0 l0 A1 kap1 l1 W r0x ok0 le0 mx0 r1x ok1 le1 mx1).mono fun e W' ⟨he, bel⟩ => ?_
  subst he
  exact ⟨_, rfl, _, _, _, [], _, [], hW', trodAll_mk1 (shut_bool Try.underlying4 _), (trodAll_cons_mk (Below.trod laidOut (by kernel_rfl) (of_decide_eq_true (by kernel_rfl)) k0 bel lt0) (trodAll_cons_mk (Below.trod laidOut (by kernel_rfl) (of_decide_eq_true (by kernel_rfl)) k1 bel lt1) trodAll_mk0)), rfl, bel.frame _, fun h => by cases h⟩
/-- The given statement. -/
theorem reconfigAgrees_holds : Rows.ReconfigAgreesSaid :=
  OpenClaim.holds_of_wide 7 Try.f7 rfl rfl rfl rfl rfl rfl rfl ⟨rfl, rfl, rfl, rfl, rfl⟩ rfl rfl rfl rfl rfl (by kernel_rfl) Try.func7 (by kernel_rfl)
    (of_decide_eq_true (by kernel_rfl)) (by unfold Func.isWrapper; first | (rw [if_pos (by decide +kernel)]; kernel_rfl) | (rw [if_neg (by decide +kernel)]; exact ⟨rfl, rfl⟩))
    (fun os started H enc _ => liftedReconfigAgrees os started H enc)
#print axioms reconfigAgrees_holds
end Go.Proofs.Ytibmbhnpmfgclaa
