/- For all shapes and operations the statement ReconfigFinishes returns true: if all messages of Repeat are delivered again and again, every change is finished. No condition. -/
import Derived.Test.YtibmbhnpmfgclaaRBase
import Derived.Test.YtibmbhnpmfgclaaRRnd
namespace Go.Proofs.Ytibmbhnpmfgclaa
open Go.ChangeShapes Go.WideShapes Go.ChangeAt Go.RowKit Go.Maps
set_option linter.unusedVariables false
set_option linter.unusedSimpArgs false
set_option maxRecDepth 100000 in
set_option maxHeartbeats 32000000 in
theorem walkReconfigFinishes (A0 : Option Addr) (kap0 : Nat) (l0 : List Nat) (A1 : Option Addr) (kap1 : Nat) (l1 : List Opn) (w : World) (r0x : RowsAt w w.heap.size 1 ucell A0 l0) (ok0 : ∀ x ∈ l0, x ≤ 255) (le0 : l0.length ≤ kap0) (mx0 : kap0 ≤ maxLen) (r1x : RowsAt w w.heap.size 6 ocell A1 l1) (ok1 : ∀ x ∈ l1, OpOk x) (le1 : l1.length ≤ kap1) (mx1 : kap1 ≤ maxLen) :
    Calls Try.prog 8 #[.slice A0 l0.length kap0, .slice A1 l1.length kap1] w fun e w' => e = .returned (.bool true) ∧ Below w.heap.size w w' := by
  have hl0 : l0.length ≤ 9223372036854775807 := by unfold maxLen at mx0; omega
  have hl1 : l1.length ≤ 9223372036854775807 := by unfold maxLen at mx1; omega
  have HR0 := Kept.mk r0x
  have HR1 := Kept.mk r1x
  have HK0 := Kept.mk ok0
  have HO1 := Kept.mk ok1
  clear ok0 ok1 r0x r1x mx0 mx1 le0 le1
  have HDW : Kept (Below w.heap.size w w) := ⟨Below.refl _ _⟩
  have tok1 : True := trivial
  by_cases h120 : 120 < l1.length
  · go_enter Try.func8, Try.ntmps8
    go_wp2_with (first | (go_at_call 10; have _t := tok1; refine (awake_c _).mono ?_; rintro e wa ⟨rfl, hba⟩; have HDA := Kept.mk (join HDW.out hba); clear hba tok1 _t) | (go_at_call 10; refine (awake_c _).mono ?_; rintro e wb ⟨rfl, hbb⟩; have HDB := Kept.mk (join HDA.out hbb); clear hbb))
    go_ret
    exact ⟨rfl, HDB.out⟩
  by_cases h10 : 10 < l0.length
  · go_enter Try.func8, Try.ntmps8
    go_wp2_with (first | (go_at_call 10; have _t := tok1; refine (awake_c _).mono ?_; rintro e wa ⟨rfl, hba⟩; have HDA := Kept.mk (join HDW.out hba); clear hba tok1 _t) | (go_at_call 10; refine (awake_c _).mono ?_; rintro e wb ⟨rfl, hbb⟩; have HDB := Kept.mk (join HDA.out hbb); clear hbb))
    go_ret
    exact ⟨rfl, HDB.out⟩
  have hn1 := (tree_len l0).1
  have hn2 := (tree_len l0).2
  clear tok1
  go_enter Try.func8, Try.ntmps8
  go_wp2_with (first | (go_at_call 10; refine (awake_c _).mono ?_; rintro e wa ⟨rfl, hba⟩; have HDA := Kept.mk (join HDW.out hba); clear hba) | (go_at_call 24; refine (tree_c l0 A0 kap0 _ (HR0.out.new_ HDA.out) HK0.out (by omega)).mono ?_; rintro e wt ⟨At, kt, rfl, hot, hbt⟩; have HOT := Kept.mk hot; have HDT := Kept.mk (join HDA.out hbt); have HKT := Kept.mk (own_cap hot); clear hot hbt) | (go_at_call 11; refine (plan_c (treeP l0).length _ hn2).mono ?_; rintro e wp ⟨⟨N, C, An, kn, Ac, kc⟩, rfl, hN, hC, hp, hb⟩; simp only at hN hC; subst hN hC; unfold pv; have HPP := Kept.mk hp; have HDP := Kept.mk (join HDT.out hb); have HOP := Kept.mk (own_new HOT.out hb); clear hp hb) | (go_at_call 12; refine (New_ (planN (treeP l0).length) (planC (treeP l0).length) An Ac At kn kc kt (treeP l0) _ HPP.out (RowsAt.of_own HOP.out icell_len (by omega) rfl) (by omega)).mono ?_; rintro e wn hnr; obtain ⟨L, rfl, hLP, hLr, hC, hSL, hbn⟩ := hnr.ok (tree_new l0); have HS0 := Kept.mk (st_start hLP hLr hC hSL (join HDP.out hbn) HDP.out.size); clear hnr hLP hLr hC hSL hbn))
  have HLN : Kept (L.P.length = (treeP l0).length) := ⟨by rw [HS0.out.P]⟩
  generalize (treeP l0).length = n at *
  go_loopw [8, 46] (fun vf vi wr => ∃ (k : Nat) (M : List Nm) (fly : List Mg) (Af : Option Addr) (kf : Nat), k ≤ l1.length ∧ vi = .int .i64 k ∧ vf = .slice Af fly.length kf ∧ Kept (St w L l0 k M fly Af kf wr)) (fun _ vi _ => l1.length - (intOf vi).toNat)
  case atStart => exact ⟨0, _, [], none, 0, Nat.zero_le _, rfl, rfl, HS0⟩
  case round =>
    clear HS0
    obtain ⟨k, M, fly, Af, kf, hk, rfl, rfl, HS⟩ := hrel
    have hz := HS.out.bel.size
    by_cases hlt : k < l1.length
    · obtain ⟨x, b, off, hx, hA, -, hb, hc⟩ := (HR1.out.new_ HS.out.bel).at_ hlt
      have c0 := hc 0 (.int .i64 x.kind) rfl
      have c1 := hc 1 (.int .i64 x.n) rfl
      have c2 := hc 2 (.int .i64 x.m.kind) rfl
      have c3 := hc 3 (.int .i64 x.m.frm) rfl
      have c4 := hc 4 (.int .i64 x.m.to_) rfl
      have c5 := hc 5 (.int .i64 x.m.ep) rfl
      simp only [Nat.add_zero] at c0
      have HA := Kept.mk hA
      have HXO := Kept.mk (HO1.out x (List.mem_of_getElem? hx))
      rw [hA]
      clear hx hc hA
      have HSB := Kept.mk (HS.out.new_ ((Below.refl wr.heap.size wr).alloc (Nat.le_refl _) (.cells #[.int .i64 x.kind, .int .i64 x.n, .int .i64 x.m.kind, .int .i64 x.m.frm, .int .i64 x.m.to_, .int .i64 x.m.ep] 56)))
      by_cases h6 : x.kind = 6
      · obtain ⟨q1, q2⟩ := z_yes' h6
        have HSN := Kept.mk (HSB.out.more (Nat.le_succ k))
        clear h6
        go_wp2_with fail
        go_roundw
        case rel => exact ⟨k + 1, M, fly, Af, kf, by omega, by go_num, rfl, HSN⟩
        case measure => simp [intOf]; omega
      · obtain ⟨q1, q2⟩ := z_no' h6
        clear h6 HS
        go_wp2_with (go_at_call 32; refine (step_c _ L M fly Af kf x.kind x.n x.m HSB.out.ch (HSB.out.fit (by omega)) HSB.out.own HSB.out.p10 HSB.out.fl).mono ?_; rintro e w2 hs; obtain ⟨A2, kap2, fly2, M2, rfl, hst, hR, hle, hon⟩ := HSB.out.step hs; have HS2 := Kept.mk hst; clear hs hst hR hle hon)
        go_roundw
        case rel => exact ⟨k + 1, M2, fly2, A2, kap2, by omega, by go_num, rfl, HS2⟩
        case measure => simp [intOf]; omega
    · obtain rfl : k = l1.length := by omega
      have hk120 : l1.length ≤ 120 := by omega
      have HR0N := Kept.mk (rn_start HS.out)
      have HIV := Kept.mk HS.out.inv
      have HTR := Kept.mk HS.out.tree
      clear HS hlt h120 h10
      generalize sns M = ns0 at *
      go_wp2_with fail
      go_loopw [61] (fun v61 wr => ∃ (j : Nat) (M : List Nm), j ≤ 6 * n ∧ v61 = .int .i64 j ∧ Kept (Rn w L l0 (l1.length + 1) (roundsP L.P ns0 j) M wr)) (fun v61 _ => 6 * n - (intOf v61).toNat)
      case atStart => exact ⟨0, M, Nat.zero_le _, rfl, HR0N⟩
      case round =>
        clear HR0N
        obtain ⟨j, M, hj, rfl, HRN⟩ := hrel
        by_cases hjl : j < 6 * n
        · obtain ⟨s0, hs0⟩ : ∃ s, s = roundsP L.P ns0 j := ⟨_, rfl⟩
          have HRS := Kept.mk (HRN.out.at_ hs0.symm)
          have HS0 := Kept.mk hs0
          obtain ⟨rl, hrl⟩ : ∃ l, l = repeatP L.P s0 := ⟨_, rfl⟩
          have hrl110 : rl.length ≤ 110 := by
            rw [hrl]
            have h1 := repeat_len (P := L.P) (ns := s0)
            have h2 := HRS.out.inv.len
            have h3 := HRS.out.p10
            have h4 : s0.length * (L.P.length + 1) ≤ 10 * 11 := Nat.mul_le_mul (by omega) (by omega)
            omega
          have HOK : Kept (∀ m, m ∈ rl → MOk L.P s0 m) := ⟨by rw [hrl]; exact repeat_ok HRS.out.inv⟩
          have HRL := Kept.mk hrl
          clear HRN hs0 hrl
          go_wp2_with (go_at_call 23; refine (Repeat_c _ L M HRS.out.ch (HRS.out.fit (by omega))).mono ?_; rintro e w2 ⟨A2, k2, rfl, ho2, hb2⟩; rw [HRS.out.is, ← HRL.out] at ho2 ⊢; have HOL := Kept.mk (own_base ho2 (Nat.zero_le _)); have HRB := Kept.mk (HRS.out.new_ hb2); clear ho2 hb2)
          go_loopw [66] (fun v66 wr2 => ∃ (i : Nat) (M2 : List Nm), i ≤ rl.length ∧ v66 = .int .i64 i ∧ Kept (Rn w L l0 (l1.length + 1) (deliverL L.P s0 (rl.take i)) M2 wr2) ∧ Kept (wr2.ownsRow 0 39 4 (.slice A2 rl.length k2) rl.length (mcells rl))) (fun v66 _ => rl.length - (intOf v66).toNat)
          case atStart => exact ⟨0, M, Nat.zero_le _, rfl, HRB, HOL⟩
          case round =>
            clear HRB HOL
            obtain ⟨i, M2, hi, rfl, HR2, HOL⟩ := hrel
            by_cases hit : i < rl.length
            · obtain ⟨m, b, off, hm, hA, hb, c1, c2, c3, c4⟩ := m_cells (Reads.of_own HOL.out) hit
              have HM := Kept.mk hm
              have HA := Kept.mk hA
              obtain ⟨d, hd⟩ : ∃ d, d = deliverL L.P s0 (rl.take i) := ⟨_, rfl⟩
              have HMO : Kept (MOk L.P d m) := ⟨by rw [hd]; exact (HOK.out m (List.mem_of_getElem? hm)).le (deliverL_fore HRS.out.inv HTR.out _ (fun x hx => HOK.out x (List.mem_of_mem_take hx))).st⟩
              have HD := Kept.mk hd
              have HR2 := Kept.mk (HR2.out.at_ hd.symm)
              have HRB := Kept.mk (HR2.out.new_ ((Below.refl wr.heap.size wr).alloc (Nat.le_refl _) (.cells #[.int .i64 m.kind, .int .i64 m.frm, .int .i64 m.to_, .int .i64 m.ep] 39)))
              have HOB := Kept.mk (HOL.out.alloc (.cells #[.int .i64 m.kind, .int .i64 m.frm, .int .i64 m.to_, .int .i64 m.ep] 39))
              rw [hA]
              clear hm hA hd HOL
              go_wp2_with (go_at_call 18; refine (Receive_c _ L M2 m HRB.out.ch (HRB.out.fit (by omega))).mono ?_; rintro e w3 hu; rw [HRB.out.root, HRB.out.is] at hu; obtain ⟨A3, k3, M3, rfl, hs3, hC3, ho3, hon3, hsl3⟩ := Upd2.get hu; have HR3 := Kept.mk (HRB.out.recv HMO.out hC3 hs3 hon3 hsl3); have HO3 := Kept.mk (own_base ho3 (Nat.zero_le _)); have HOL3 := Kept.mk (own_keep HOB.out hon3 (sl_own HRB.out.ch HOB.out)); clear hu hs3 hC3 ho3 hon3 hsl3)
              have HG := Kept.mk (recv_good HR2.out.inv HTR.out m HMO.out)
              have HDM : Kept (deliverL L.P s0 (rl.take (i + 1)) = recvL L.P (recvP L.P 0 d m).1 (recvP L.P 0 d m).2) := ⟨by rw [deliverL_take HM.out, ← HD.out]; rfl⟩
              have hans : (recvP L.P 0 d m).2.length ≤ 20 := by have h1 := recv_len (P := L.P) (r := 0) (ns := d) m; have h2 := HR2.out.p10; omega
              have HAM : Kept (∀ x, x ∈ (recvP L.P 0 d m).2 → MOk L.P (recvP L.P 0 d m).1 x) := ⟨HG.out.msg⟩
              generalize (recvP L.P 0 d m).2 = ans at *
              generalize (recvP L.P 0 d m).1 = s1 at *
              go_loopw [78] (fun v78 wr3 => ∃ (t : Nat) (M4 : List Nm), t ≤ ans.length ∧ v78 = .int .i64 t ∧ Kept (Rn w L l0 (l1.length + 1) (recvL L.P s1 (ans.take t)) M4 wr3) ∧ Kept (wr3.ownsRow 0 39 4 (.slice A3 ans.length k3) ans.length (mcells ans)) ∧ Kept (wr3.ownsRow 0 39 4 (.slice A2 rl.length k2) rl.length (mcells rl))) (fun v78 _ => ans.length - (intOf v78).toNat)
              case atStart => exact ⟨0, M3, Nat.zero_le _, rfl, HR3, HO3, by rw [HA.out] at *; exact HOL3⟩
              case round =>
                obtain ⟨t, M4, ht, rfl, HR4, HOA, HOL4⟩ := hrel
                by_cases htl : t < ans.length
                · obtain ⟨y, b', off', hy, hA', hb', d1, d2, d3, d4⟩ := m_cells (Reads.of_own HOA.out) htl
                  have HY := Kept.mk (recvL_take (P := L.P) (ns := s1) hy)
                  have HYO : Kept (MOk L.P (recvL L.P s1 (ans.take t)) y) := ⟨(HAM.out y (List.mem_of_getElem? hy)).le (recvL_fore HR3.out.inv HTR.out _ (fun x hx => HAM.out x (List.mem_of_mem_take hx))).st⟩
                  have HRC := Kept.mk (HR4.out.new_ ((Below.refl wr.heap.size wr).alloc (Nat.le_refl _) (.cells #[.int .i64 y.kind, .int .i64 y.frm, .int .i64 y.to_, .int .i64 y.ep] 39)))
                  have HOC := Kept.mk (HOA.out.alloc (.cells #[.int .i64 y.kind, .int .i64 y.frm, .int .i64 y.to_, .int .i64 y.ep] 39))
                  have HOD := Kept.mk (HOL4.out.alloc (.cells #[.int .i64 y.kind, .int .i64 y.frm, .int .i64 y.to_, .int .i64 y.ep] 39))
                  have HA2 := Kept.mk hA'
                  rw [hA']
                  clear hy hA'
                  go_wp2_with (go_at_call 18; refine (Receive_c _ L M4 y HRC.out.ch (HRC.out.fit (by omega))).mono ?_; rintro e w5 hu; rw [HRC.out.root, HRC.out.is] at hu; obtain ⟨A5, k5, M5, rfl, hs5, hC5, ho5, hon5, hsl5⟩ := Upd2.get hu; have HR5 := Kept.mk (HRC.out.recv HYO.out hC5 hs5 hon5 hsl5); have HOC5 := Kept.mk (own_keep HOC.out hon5 (sl_own HRC.out.ch HOC.out)); have HOD5 := Kept.mk (own_keep HOD.out hon5 (sl_own HRC.out.ch HOD.out)); clear hu hs5 hC5 ho5 hon5 hsl5)
                  go_roundw
                  case rel => exact ⟨t + 1, M5, by omega, by go_num, ⟨by rw [HY.out]; exact HR5.out⟩, ⟨by rw [← HA2.out]; exact HOC5.out⟩, HOD5⟩
                  case measure => simp [intOf]; omega
                · obtain rfl : t = ans.length := by omega
                  have HR6 := Kept.mk (HR4.out.at_ (ns' := deliverL L.P s0 (rl.take (i + 1))) (by rw [List.take_of_length_le (Nat.le_refl _), HDM.out]))
                  clear htl
                  go_wp2_with fail
                  go_roundw
                  case rel => exact ⟨i + 1, M4, by omega, by go_num, HR6, ⟨by rw [← HA.out]; exact HOL4.out⟩⟩
                  case measure => simp [intOf]; omega
            · obtain rfl : i = rl.length := by omega
              have HR7 := Kept.mk (HR2.out.at_ (ns' := drainL L.P (deliverL L.P s0 rl) (List.range 0)) (by rw [List.take_of_length_le (Nat.le_refl _)]; rfl))
              have HRD : Kept (roundsP L.P ns0 (j + 1) = drainL L.P (deliverL L.P s0 rl) (List.range n)) := ⟨by
                show roundP L.P (roundsP L.P ns0 j) = _
                rw [← HS0.out]
                unfold roundP
                rw [← HRL.out, HLN.out]⟩
              generalize deliverL L.P s0 rl = sd at *
              clear hit
              go_wp2_with fail
              go_loopw [89] (fun v89 wr4 => ∃ (i : Nat) (M5 : List Nm), i ≤ n ∧ v89 = .int .i64 i ∧ Kept (Rn w L l0 (l1.length + 1) (drainL L.P sd (List.range i)) M5 wr4)) (fun v89 _ => n - (intOf v89).toNat)
              case atStart => exact ⟨0, M2, Nat.zero_le _, rfl, HR7⟩
              case round =>
                obtain ⟨i, M5, hi5, rfl, HR8⟩ := hrel
                by_cases hin : i < n
                · have HST := Kept.mk (drainL_take (P := L.P) (ns := sd) i)
                  have hiP : i < L.P.length := by rw [HLN.out]; exact hin
                  obtain ⟨sc, hsc⟩ : ∃ s, s = drainL L.P sd (List.range i) := ⟨_, rfl⟩
                  have HSC := Kept.mk hsc
                  have HR9 := Kept.mk (HR8.out.at_ hsc.symm)
                  have HPQ : Kept (phQ (sns M5) (i : Int) = ((nd sc i).ph : Int)) := ⟨by rw [phQ_at (by rw [HR9.out.is, HR9.out.inv.len]; exact hiP), HR9.out.is]⟩
                  clear hsc HR8
                  by_cases h3 : (nd sc i).ph = 3
                  · obtain ⟨q1, -⟩ := z_yes' (show ((nd sc i).ph : Int) = 3 by omega)
                    have H3 := Kept.mk h3
                    clear h3
                    go_wp2_with (first | (go_at_call 21; refine (Phase_c _ L M5 (i : Int) HR9.out.ch).mono ?_; rintro e w6 ⟨rfl, rfl⟩; rw [HPQ.out]) | (go_at_call 19; refine (Drained_c _ L M5 (i : Int) HR9.out.ch (HR9.out.fit (by omega))).mono ?_; rintro e w6 hu; rw [HR9.out.root, HR9.out.is] at hu; obtain ⟨A6, k6, M6, rfl, hs6, hC6, ho6, hon6, hsl6⟩ := Upd2.get hu; have HR10 := Kept.mk (HR9.out.drain hiP H3.out hC6 hs6 hon6 hsl6); clear hu hs6 hC6 ho6 hon6 hsl6))
                    go_roundw
                    case rel => exact ⟨i + 1, M6, by omega, by go_num, ⟨by rw [HST.out, ← HSC.out]; exact HR10.out⟩⟩
                    case measure => simp [intOf]; omega
                  · obtain ⟨q1, -⟩ := z_no' (show ((nd sc i).ph : Int) ≠ 3 by omega)
                    have HSM : Kept (drain1 L.P sc i = sc) := ⟨by unfold drain1; rw [if_neg h3]⟩
                    clear h3
                    go_wp2_with (go_at_call 21; refine (Phase_c _ L M5 (i : Int) HR9.out.ch).mono ?_; rintro e w6 ⟨rfl, rfl⟩; rw [HPQ.out])
                    go_roundw
                    case rel => exact ⟨i + 1, M5, by omega, by go_num, ⟨by rw [HST.out, ← HSC.out, HSM.out]; exact HR9.out⟩⟩
                    case measure => simp [intOf]; omega
                · obtain rfl : i = n := by omega
                  have HR11 := Kept.mk (HR8.out.at_ HRD.out.symm)
                  clear hin
                  go_wp2_with fail
                  go_roundw
                  case rel => exact ⟨j + 1, M5, by omega, by go_num, HR11⟩
                  case measure => simp [intOf]; omega
        · have hj6 : 6 * n ≤ j := by omega
          have HF := Kept.mk (finishes HIV.out HTR.out (k := j) (by rw [HLN.out]; exact hj6))
          have HN0 := Kept.mk (near0 HRN.out.inv HTR.out HF.out)
          have HRE := Kept.mk (repeat_rest HRN.out.inv HTR.out HF.out)
          generalize roundsP L.P ns0 j = sf at *
          have HEQ : Kept (∀ v : Nat, v < n → epQ (sns M) (v : Int) = ((nd sf v).ep : Int) ∧ phQ (sns M) (v : Int) = ((nd sf v).ph : Int)) := ⟨fun v hv => by
            have hl : v < (sns M).length := by rw [HRN.out.is, HRN.out.inv.len, HLN.out]; exact hv
            rw [epQ_at hl, phQ_at hl, HRN.out.is]; exact ⟨rfl, rfl⟩⟩
          have HE0 := Kept.mk ((HEQ.out 0 (by omega)).1)
          have hjl2 : 6 * (n : Int) ≤ (j : Int) := by omega
          clear hjl hj6
          go_wp2_with fail
          go_loop [103] (fun v103 => ∃ i : Nat, i ≤ n ∧ v103 = .int .i64 i) (fun v103 => n - (intOf v103).toNat)
          case atStart => exact ⟨0, Nat.zero_le _, rfl⟩
          case round =>
            obtain ⟨i, hi, rfl⟩ := hrel
            by_cases hin : i < n
            · obtain ⟨a1, a2⟩ := HN0.out (i + 1) i (Nat.lt_succ_self i) (by rw [HLN.out]; exact hin)
              have HEI := Kept.mk (HEQ.out i hin)
              have tok1 : True := trivial
              have HPI : Kept (phQ (sns M) (i : Int) = 0) := ⟨by rw [HEI.out.2, a1]; rfl⟩
              have HEI2 : Kept (epQ (sns M) (i : Int) = ((nd sf 0).ep : Int)) := ⟨by rw [HEI.out.1, a2]⟩
              have HE00 : Kept (epQ (sns M) 0 = ((nd sf 0).ep : Int)) := ⟨HE0.out⟩
              generalize (nd sf 0).ep = ze at *
              clear a1 a2
              go_wp2_with (first | (go_at_call 20; have _t := tok1; refine (Epoch_c _ L M (i : Int) HRN.out.ch).mono ?_; rintro e w7 ⟨rfl, rfl⟩; rw [HEI2.out]; clear tok1 _t) | (go_at_call 20; refine (Epoch_c _ L M 0 HRN.out.ch).mono ?_; rintro e w7 ⟨rfl, rfl⟩; rw [HE00.out]) | (go_at_call 21; refine (Phase_c _ L M (i : Int) HRN.out.ch).mono ?_; rintro e w7 ⟨rfl, rfl⟩; rw [HPI.out]))
              go_round
              case rel => exact ⟨i + 1, by omega, by go_num⟩
              case measure => simp [intOf]; omega
            · obtain rfl : i = n := by omega
              have HFI : Kept ((nd (sns M) L.root).ph = 0) := ⟨by rw [HRN.out.root, HRN.out.is]; exact HF.out⟩
              clear hin
              go_wp2_with (first | (go_at_call 22; refine (Finished_c _ L M HRN.out.ch).mono ?_; rintro e w8 ⟨rfl, n8, rfl⟩; rw [decide_eq_true HFI.out]) | (go_at_call 23; refine (Repeat_c _ L M (HRN.out.ch.new_ (below_dN _ _)) (HRN.out.fit (by omega))).mono ?_; rintro e w9 ⟨A9, k9, rfl, ho9, hb9⟩; rw [HRN.out.is, HRE.out]; have HB9 := Kept.mk (join (dN HRN.out.bel n8) hb9); clear ho9 hb9))
              go_ret
              exact ⟨rfl, HB9.out⟩

set_option maxRecDepth 100000 in
theorem liftedReconfigFinishes (os : Os) (started : os.Started) (H : Type) (enc : TypeId × Value → H) :
    ReturnsInHanded {} Try.checked os 8 .any (Rows.reconfigFinishesSpec.pre6 enc Try.prog Try.f8 Rows.reconfigFinishesRow.domain false) (Rows.reconfigFinishesSpec.post enc Try.prog Try.f8 false true false false) := by
  refine returnsInHanded_of_change (C := Try.checked) own started (by kernel_rfl) Try.func8
    (ChangeSpec.witness6 (enc := enc) (C := Try.checked) false ⟨#[], #[.slice none 0 0, .slice none 0 0], []⟩ 8 (by kernel_rfl) (by kernel_rfl) (by kernel_rfl) (by kernel_rfl)) ?_
  intro W base args ds gs before hval0 hW hcnd _
  have hval : ∀ (j : Nat) t v, Try.f8.params[j]? = some t → args[j]? = some v → Value.okWide Try.prog W .any base t v := hval0
  have hW' := hW
  obtain ⟨p, q, hA0, hV, rfl, hfz, hnd⟩ := hW
  have hA : DataW.TrodAll enc Try.prog W 0 (fun _ => true) true Try.f8.params.toList args.toList ds p := hA0
  rw [Try.params8] at hA hval
  obtain ⟨v0, vs0, d0, ds0, p0, q0, hargs, rfl, rfl, h0, r0⟩ := trodAll_cons hA
  obtain ⟨v1, vs1, d1, ds1, p1, q1, rfl, rfl, rfl, h1, r1⟩ := trodAll_cons r0
  obtain ⟨rfl, rfl, rfl⟩ := trodAll_nil r1
  obtain rfl : args = #[v0, v1] := by cases args; simp_all
  obtain ⟨rfl, rfl⟩ := trodVars_none hV
  have k0 := h0
  have lt0 : ∀ x ∈ p0, x.block < W.heap.size := by obtain ⟨m, hm⟩ := k0; exact DataW.trod_lt m _ _ _ hm
  have k1 := h1
  have lt1 : ∀ x ∈ p1, x.block < W.heap.size := by obtain ⟨m, hm⟩ := k1; exact DataW.trod_lt m _ _ _ hm
  obtain ⟨A0, kap0, l0, rfl, r0x, ok0, le0, mx0⟩ := open_bytes_ (hval 0 48 v0 rfl rfl) h0
  obtain ⟨A1, kap1, l1, rfl, r1x, ok1, le1, mx1⟩ := open_ops_ (hval 1 49 v1 rfl rfl) h1
  clear hA0 hval0
  refine (walkReconfigFinishes A0 kap0 l0 A1 kap1 l1 W r0x ok0 le0 mx0 r1x ok1 le1 mx1).mono fun e W' ⟨he, bel⟩ => ?_
  subst he
  exact ⟨_, rfl, _, _, _, [], _, [], hW', trodAll_mk1 (shut_bool Try.underlying4 _), (trodAll_cons_mk (Below.trod laidOut (by kernel_rfl) (of_decide_eq_true (by kernel_rfl)) k0 bel lt0) (trodAll_cons_mk (Below.trod laidOut (by kernel_rfl) (of_decide_eq_true (by kernel_rfl)) k1 bel lt1) trodAll_mk0)), rfl, bel.frame _, fun h => by cases h⟩
/-- The given statement. -/
theorem reconfigFinishes_holds : Rows.ReconfigFinishesSaid :=
  OpenClaim.holds_of_wide 8 Try.f8 rfl rfl rfl rfl rfl rfl rfl ⟨rfl, rfl, rfl, rfl, rfl⟩ rfl rfl rfl rfl rfl (by kernel_rfl) Try.func8 (by kernel_rfl)
    (of_decide_eq_true (by kernel_rfl)) (by unfold Func.isWrapper; first | (rw [if_pos (by decide +kernel)]; kernel_rfl) | (rw [if_neg (by decide +kernel)]; exact ⟨rfl, rfl⟩))
    (fun os started H enc _ => liftedReconfigFinishes os started H enc)
#print axioms reconfigFinishes_holds
end Go.Proofs.Ytibmbhnpmfgclaa
