/- For all plans, cables that are up and votes the statement ElectionStabilizes returns true: from any votes the votes are stable after twice as many rounds as nodes, each root is the least node of its part, each distance that of the root. No condition. -/
import Derived.Test.YtckigonkcjceeaaEBase
import Derived.Test.YtckigonkcjceeaaEPartsW
import Derived.Test.YtckigonkcjceeaaERefRun
namespace Go.Proofs.Ytckigonkcjceeaa
open Go.ChangeShapes Go.WideShapes Go.ChangeAt Go.RowKit
set_option linter.unusedVariables false
set_option linter.unusedSimpArgs false
/-- What stands in memory. -/
structure SU (w0 W : World) (N : List Nd) (C : List Cb) (An Ac Au Ar Ap : Option Addr) (kn kc : Nat) (up : List Bool) (R : List Vt) (pts : List Pt) : Prop where
  p : PlanAt W W.heap.size ⟨N, C, An, kn, Ac, kc⟩
  u : RowsAt W W.heap.size 1 bcell1 Au up
  r : RowsAt W W.heap.size 3 vcell Ar R
  ps : RowsAt W W.heap.size 1 pcell Ap pts
  pr : ∀ pt ∈ pts, RowsAt W W.heap.size 1 icell pt.A pt.L
  box : Blk W w0.heap.size 32 #[.slice An N.length kn, .slice Ac C.length kc]
  bel : Below w0.heap.size w0 W
theorem SU.new_ {w0 W W' : World} {N : List Nd} {C : List Cb} {An Ac Au Ar Ap : Option Addr} {kn kc : Nat} {up : List Bool} {R : List Vt} {pts : List Pt} (h : SU w0 W N C An Ac Au Ar Ap kn kc up R pts) (hb : Below W.heap.size W W') : SU w0 W' N C An Ac Au Ar Ap kn kc up R pts :=
  ⟨h.p.new_ hb, h.u.new_ hb, h.r.new_ hb, h.ps.new_ hb, fun pt hpt => (h.pr pt hpt).new_ hb, h.box.new_ hb, join h.bel hb⟩
theorem Stable_m (N : List Nd) (C : List Cb) (An Ac Au Av : Option Addr) (kn kc ku kv n : Nat) (up : List Bool) (votes : List Vt) (w : World) (h : ArgsAt w N C An Ac Au Av kn kc ku kv up votes) (hl : votes.length = n) (hf : faultE N C up votes = 0) (hs : roundP C up votes = votes) :
    Calls Try.prog 22 #[.agg #[.slice An N.length kn, .slice Ac C.length kc], .slice Au up.length ku, .slice Av n kv] w fun e w' => e = .returned (.bool true) ∧ Below w.heap.size w w' := by
  subst hl
  refine (Stable_ N C An Ac Au Av kn kc ku kv up votes w h).mono ?_
  rintro e w' ⟨rfl, hb⟩
  exact ⟨by rw [show stableB N C up votes = true by unfold stableB; rw [decide_eq_true hf, decide_eq_true hs]; rfl], hb⟩
/-- The number of nodes in the first j parts. -/
def smP (pts : List Pt) (j : Nat) : Nat := ((pts.take j).map fun pt => pt.L.length).sum
theorem smP_next {pts : List Pt} {j : Nat} {pt : Pt} (h : pts[j]? = some pt) : smP pts (j + 1) = smP pts j + pt.L.length := by
  unfold smP; rw [take_next h, List.map_append, List.sum_append]; simp
theorem smP_le (pts : List Pt) (j : Nat) : smP pts j ≤ (pts.map fun pt => pt.L.length).sum := by
  conv => rhs; rw [← List.take_append_drop j pts, List.map_append, List.sum_append]
  unfold smP; omega
theorem part_vote {C : List Cb} {up : List Bool} {n h j : Nat} {R : List Vt} {L : List Int} {v : Vt} {t : Int} (hN : Net (C.zip up) n) (hl : R.length = n) (hd : DistOk n R) (hs : roundP C up R = R) (hj : j < n) (hL : Least (C.zip up) n h j) (hF : Far (C.zip up) n h L) (hv : R[j]? = some v) (ht : L[j]? = some t) : v.root = h ∧ v.dist = t ∧ (v.port = -1 ↔ j = h) := by
  obtain ⟨m, d, a1, a2, a3, a4, a5⟩ := core_of hN hl hd hs (x := (j : Int)) (by omega) (by omega)
  obtain rfl := Least.uniq hL a1
  rw [vote_get hv] at a3 a4 a5
  have h0 := hF.all d j a2.1
  have h1 := hF.yes j (by omega) (by omega) h0
  have h2 := Dst.uniq a2 h1
  rw [dAt_get ht] at h0 h2
  exact ⟨a3, by omega, by rw [a5]; omega⟩
set_option maxRecDepth 100000 in
set_option maxHeartbeats 16000000 in
theorem stabilizes_walk (N : List Nd) (C : List Cb) (An Ac Au Av : Option Addr) (kn kc ku kv : Nat) (up : List Bool) (votes : List Vt) (w : World) (hp : PlanAt w w.heap.size ⟨N, C, An, kn, Ac, kc⟩) (hu : RowsAt w w.heap.size 1 bcell1 Au up) (hku : up.length ≤ ku) (hku2 : ku ≤ maxLen) (hv : RowsAt w w.heap.size 3 vcell Av votes) (hkv : votes.length ≤ kv) (hkv2 : kv ≤ maxLen) :
    Calls Try.prog 10 #[.agg #[.slice An N.length kn, .slice Ac C.length kc], .slice Au up.length ku, .slice Av votes.length kv] w fun e w' => e = .returned (.bool true) ∧ Below w.heap.size w w' := by
  have HP := Kept.mk hp
  have HU := Kept.mk hu
  have HVT := Kept.mk hv
  obtain ⟨L1, L2⟩ := hp.len
  simp only at L1 L2
  have L3 : up.length ≤ 9223372036854775807 := by unfold maxLen at hku2; omega
  have L4 : votes.length ≤ 9223372036854775807 := by unfold maxLen at hkv2; omega
  clear hp hu hku hku2 hv hkv hkv2
  have HB := Kept.mk (Blk.new w 32 #[.slice An N.length kn, .slice Ac C.length kc])
  have HG : Kept (Below w.heap.size w (w.alloc (.cells #[.slice An N.length kn, .slice Ac C.length kc] 32))) := ⟨(Below.refl _ _).alloc (Nat.le_refl _) _⟩
  go_enter Try.func10, Try.ntmps10
  go_wp2_with (go_at_call 11; refine (awake_c _).mono ?_; rintro e w1 ⟨rfl, hb1⟩; have HB1 := Kept.mk (HB.out.new_ hb1); have HD1 := Kept.mk (join HG.out hb1); clear hb1; have k0 := HB1.out.cell 0 (v := .slice An N.length kn) rfl; have k1 := HB1.out.cell 1 (v := .slice Ac C.length kc) rfl; have z1 := HB1.out.lt)
  refine (great_ N.length C.length up.length votes.length An Ac Au Av kn kc ku kv _ L1 L2 L3 L4).mono ?_
  rintro e w2 ⟨rfl, hb2⟩
  have HB2 := Kept.mk (HB1.out.new_ hb2)
  have HD2 := Kept.mk (join HD1.out hb2)
  clear hb2 k0 k1 z1
  have k0 := HB2.out.cell 0 (v := .slice An N.length kn) rfl
  have k1 := HB2.out.cell 1 (v := .slice Ac C.length kc) rfl
  have z1 := HB2.out.lt
  cases hgr : greatB N.length C.length up.length votes.length with
  | true =>
    go_wp2_with fail
    go_ret
    exact ⟨rfl, HD2.out⟩
  | false =>
    obtain ⟨g1, g2, g3, g4⟩ := great_no hgr
    have HP2 := Kept.mk (HP.out.new_ HD2.out)
    by_cases hv : validE N C = 0
    · have HV := Kept.mk hv
      have hn16 := (valid_spec hv).1
      have HN := Kept.mk (net_of (up := up) hv)
      clear hv
      by_cases hf : faultE N C up votes = 0
      · have HF := Kept.mk hf
        have HLU := Kept.mk (faultE_zero.1 hf).2.1
        have HLV := Kept.mk (faultE_zero.1 hf).2.2.1
        clear hf
        go_wp2_with (first | (go_at_call 15; refine (valid_ N C An Ac kn kc _ HP2.out).mono ?_; rintro e w3 ⟨rfl, hb3⟩; rw [HV.out]; have HB3 := Kept.mk (HB2.out.new_ hb3); have HD3 := Kept.mk (join HD2.out hb3); clear hb3 k0 k1 z1; have k0 := HB3.out.cell 0 (v := .slice An N.length kn) rfl; have k1 := HB3.out.cell 1 (v := .slice Ac C.length kc) rfl; have z1 := HB3.out.lt) | (go_at_call 16; refine (Run_late_n N C An Ac Au Av kn kc ku kv votes.length up.length _ up votes _ ⟨HP.out.new_ HD3.out, HU.out.new_ HD3.out, HVT.out.new_ HD3.out, by omega, by omega⟩ HF.out rfl (by rw [HLV.out]) rfl).mono ?_; rintro e w4 ⟨Ar, k4, r4, R, rfl, t1, t2, t3, t4, t5, t6, t7, t8⟩; have HT1 : Kept (r4 ≤ 2 * N.length) := ⟨by rw [← HLV.out]; exact t1⟩; have HRL := Kept.mk t2; have HRD : Kept (DistOk N.length R) := ⟨by rw [← HLV.out]; exact t3⟩; have HRS := Kept.mk t4; have HR4 := Kept.mk t5; have HB4 := Kept.mk (HB3.out.new_ t8); have HD4 := Kept.mk (join HD3.out t8); have d1 : decide (2 * (N.length : Int) < (r4 : Int)) = false := decide_eq_false (by have := HT1.out; omega); have q1 : ((votes.length : Int) != (N.length : Int)) = false := (by have := HLV.out; simp; omega); clear t1 t2 t3 t4 t5 t6 t7 t8 k0 k1 z1; have k0 := HB4.out.cell 0 (v := .slice An N.length kn) rfl; have k1 := HB4.out.cell 1 (v := .slice Ac C.length kc) rfl; have z1 := HB4.out.lt))
        refine (Stable_m N C An Ac Au Ar kn kc ku k4 votes.length up R _ ⟨HP.out.new_ HD4.out, HU.out.new_ HD4.out, HR4.out, by omega, by rw [HRL.out]; omega⟩ HRL.out (faultE_zero.2 ⟨HV.out, HLU.out, HRL.out.trans HLV.out, HRD.out⟩) HRS.out).mono ?_
        rintro e w5 ⟨rfl, hb5⟩
        have HB5 := Kept.mk (HB4.out.new_ hb5)
        have HD5 := Kept.mk (join HD4.out hb5)
        have HR5 := Kept.mk (HR4.out.new_ hb5)
        clear hb5 k0 k1 z1
        have k0 := HB5.out.cell 0 (v := .slice An N.length kn) rfl
        have k1 := HB5.out.cell 1 (v := .slice Ac C.length kc) rfl
        have z1 := HB5.out.lt
        go_wp2_with (go_at_call 35; refine (Parts_ N C An Ac Au kn kc ku up _ (HP.out.new_ HD5.out) (HU.out.new_ HD5.out) HV.out HLU.out).mono ?_; rintro e w6 ⟨Ap, k6, pts, rfl, t1, t2, t3, t4, t5⟩; have HSU : Kept (SU w w6 N C An Ac Au Ar Ap kn kc up R pts) := ⟨HP.out.new_ (join HD5.out t5), HU.out.new_ (join HD5.out t5), HR5.out.new_ t5, t1, fun pt hpt => (t2 pt hpt).2, HB5.out.new_ t5, join HD5.out t5⟩; have HPO : Kept (∀ pt ∈ pts, PartOk (C.zip up) N.length pt.L) := ⟨fun pt hpt => (t2 pt hpt).1⟩; have HSM := Kept.mk t3; have hpn := t4; clear t1 t2 t3 t4 t5 k0 k1 z1)
        go_loopw [10, 77] (fun v10 v77 wr => ∃ j : Nat, j ≤ pts.length ∧ v77 = .int .i64 j ∧ v10 = .int .i64 (smP pts j) ∧ Kept (Below w6.heap.size w6 wr)) (fun _ v _ => pts.length - (intOf v).toNat)
        case atStart => exact ⟨0, Nat.zero_le _, rfl, rfl, ⟨Below.refl _ _⟩⟩
        case round =>
          obtain ⟨j, hj, rfl, rfl, HD⟩ := hrel
          have HS := Kept.mk (HSU.out.new_ HD.out)
          have k0 := HS.out.box.cell 0 (v := .slice An N.length kn) rfl
          have k1 := HS.out.box.cell 1 (v := .slice Ac C.length kc) rfl
          have z1 := HS.out.box.lt
          have hsm : smP pts j ≤ N.length := by have := smP_le pts j; have := HSM.out; omega
          by_cases hlt : j < pts.length
          · obtain ⟨pt, bp, op, hpt, rfl, -, hbp, hcp⟩ := HS.out.ps.at_ hlt
            have c0 := hcp 0 (.slice pt.A pt.L.length pt.cap) rfl
            simp only [Nat.add_zero, Nat.mul_one] at c0
            have hmem := List.mem_of_getElem? hpt
            have HNX := Kept.mk (smP_next hpt)
            have hsm2 : smP pts j + pt.L.length ≤ N.length := by rw [← HNX.out]; have := smP_le pts (j + 1); have := HSM.out; omega
            obtain ⟨h, t, hL, hh, hall⟩ := HPO.out pt hmem
            have HLL := Kept.mk hL
            have HALL := Kept.mk hall
            have hl0 : 0 < pt.L.length := by rw [hL]; simp
            have HPR := Kept.mk (HS.out.pr pt hmem)
            obtain ⟨y, bi, oi, hy, hA, -, hbi, hci⟩ := HPR.out.at_ hl0
            rw [hL] at hy
            simp at hy
            subst hy
            have y0 := hci 0 (.int .i64 (h : Int)) rfl
            simp only [Nat.add_zero, Nat.zero_mul] at y0
            rw [hA] at c0 HPR
            have HSd := Kept.mk (HS.out.new_ (bdrew (Below.refl _ _)))
            have HPRd := Kept.mk (HPR.out.new_ (bdrew (Below.refl _ _)))
            have HY0 : Kept (pt.L[0]? = some (h : Int)) := ⟨by rw [hL]; rfl⟩
            clear hcp hci hpt hL hall hmem hA
            go_wp2_with fail
            go_region_held3 (fun w' => w'.cell? ⟨w.heap.size, 0, none⟩ = some (.slice An N.length kn) ∧ w'.cell? ⟨w.heap.size, 1, none⟩ = some (.slice Ac C.length kc) ∧ w'.cell? ⟨bi, oi, none⟩ = some (.int .i64 (h : Int))) (first | exact ⟨HSd.out.box.cell 0 rfl, HSd.out.box.cell 1 rfl, y0⟩ | exact ⟨HS7.out.box.cell 0 rfl, HS7.out.box.cell 1 rfl, by have := HPR7.out.cell_ HY0.out (j := 0) (u := .int .i64 (h : Int)) rfl; simpa using this⟩) ((go_at_call 33; refine (Distances_ N C An Ac Au kn kc ku h up _ HSd.out.p HSd.out.u HV.out HLU.out hh).mono ?_; rintro e w7 ⟨A7, k7, L, rfl, hF, hr7, hb7⟩; have HFA := Kept.mk hF; have HQ7 := Kept.mk hr7; have HS7 := Kept.mk (HSd.out.new_ hb7); have HPR7 := Kept.mk (HPRd.out.new_ hb7); have HBB := Kept.mk (join (bdrew HD.out) hb7); clear hF hr7 hb7))
            clear y0 k0 k1 z1 c0
            have HFL := Kept.mk HFA.out.len
            go_wp2_with fail
            go_loopw [10, 89] (fun v10 v89 wr => ∃ i : Nat, i ≤ pt.L.length ∧ v89 = .int .i64 i ∧ v10 = .int .i64 ((smP pts j + i : Nat) : Int) ∧ Kept (Below w7.heap.size w7 wr)) (fun _ v _ => pt.L.length - (intOf v).toNat)
            case atStart => exact ⟨0, Nat.zero_le _, rfl, rfl, ⟨Below.refl _ _⟩⟩
            case round =>
              obtain ⟨i, hi, rfl, rfl, HE⟩ := hrel
              have HPR8 := Kept.mk (HPR7.out.new_ HE.out)
              have HS8 := Kept.mk (HS7.out.new_ HE.out)
              by_cases hli : i < pt.L.length
              · obtain ⟨x, b8, o8, hx, e8, -, hb8, hc8⟩ := HPR8.out.at_ hli
                injection e8 with e8
                injection e8 with e81 e82
                subst e81
                subst e82
                obtain ⟨m, rfl, hm1, hm2⟩ := HALL.out x (List.mem_of_getElem? hx)
                have x0 := hc8 0 (.int .i64 (m : Int)) rfl
                have y0 := HPR8.out.cell_ HY0.out (j := 0) (u := .int .i64 (h : Int)) rfl
                simp only [Nat.add_zero, Nat.mul_one, Nat.zero_mul] at x0 y0
                have hmv : m < votes.length := by have := HLV.out; omega
                obtain ⟨v, br, orr, hvr, rfl, -, hbr, hcr⟩ := HS8.out.r.at_ (k := m) (by rw [HRL.out]; exact hmv)
                obtain ⟨t', bd, od, htd, rfl, -, hbd, hcd⟩ := (HQ7.out.new_ HE.out).at_ (k := m) (by rw [HFL.out]; exact hm1)
                obtain ⟨p1, p2, p3⟩ := part_vote HN.out (HRL.out.trans HLV.out) HRD.out HRS.out hm1 hm2 HFA.out hvr htd
                have v0 := hcr 0 (.int .i64 (h : Int)) (by rw [← p1]; rfl)
                have v1 := hcr 1 (.int .i64 t') (by rw [← p2]; rfl)
                have v2 := hcr 2 (.int .i64 v.port) rfl
                have t0 := hcd 0 (.int .i64 t') rfl
                simp only [Nat.add_zero, Nat.mul_one] at v0 t0
                have b1 : ((h : Int) != (h : Int)) = false := bne_self_eq_false _
                have b2 : (t' != t') = false := bne_self_eq_false _
                clear hx hc8 hcr hcd hvr htd p1 p2 hm2
                by_cases hmh : m = h
                · have b3 : (v.port == -1) = true := beq_iff_eq.2 (p3.2 hmh)
                  have b4 : ((m : Int) == (h : Int)) = true := beq_iff_eq.2 (by omega)
                  clear p3 hmh
                  go_wp2_with fail
                  go_quiet (fail)
                  go_wp2_with fail
                  go_roundw
                  case rel => exact ⟨i + 1, by omega, by go_num, by go_num, ⟨dN HE.out _⟩⟩
                  case measure => simp [intOf]; omega
                · have b3 : (v.port == -1) = false := beq_false_of_ne (fun e => hmh (p3.1 e))
                  have b4 : ((m : Int) == (h : Int)) = false := beq_false_of_ne (by omega)
                  clear p3 hmh
                  go_wp2_with fail
                  go_quiet (fail)
                  go_wp2_with fail
                  go_roundw
                  case rel => exact ⟨i + 1, by omega, by go_num, by go_num, ⟨dN HE.out _⟩⟩
                  case measure => simp [intOf]; omega
              · obtain rfl : i = pt.L.length := by omega
                clear hli
                go_wp2_with fail
                go_roundw
                case rel => exact ⟨j + 1, by omega, by go_num, by rw [HNX.out], ⟨join HBB.out HE.out⟩⟩
                case measure => simp [intOf]; omega
          · obtain rfl : j = pts.length := by omega
            have HEND : Kept (smP pts pts.length = N.length) := ⟨by unfold smP; rw [List.take_length]; exact HSM.out⟩
            rw [HEND.out]
            have b1 : ((N.length : Int) == (N.length : Int)) = true := beq_self_eq_true _
            clear hlt
            go_wp2_with fail
            go_ret
            exact ⟨rfl, HS.out.bel⟩
      · obtain ⟨f, hfe⟩ : ∃ f, faultE N C up votes = f := ⟨_, rfl⟩
        have HF := Kept.mk hf
        have hfc : f = 1 ∨ f = 2 := by rcases fe_cases (N := N) (C := C) (up := up) (votes := votes) with h | h | h <;> omega
        have HFE := Kept.mk hfe
        clear hf hfe
        rcases hfc with rfl | rfl
        · go_wp2_with (first | (go_at_call 15; refine (valid_ N C An Ac kn kc _ HP2.out).mono ?_; rintro e w3 ⟨rfl, hb3⟩; rw [HV.out]; have HB3 := Kept.mk (HB2.out.new_ hb3); have HD3 := Kept.mk (join HD2.out hb3); clear hb3 k0 k1 z1; have k0 := HB3.out.cell 0 (v := .slice An N.length kn) rfl; have k1 := HB3.out.cell 1 (v := .slice Ac C.length kc) rfl; have z1 := HB3.out.lt) | (go_at_call 16; refine (Run_bad N C An Ac Au Av kn kc ku kv up votes _ _ ⟨HP.out.new_ HD3.out, HU.out.new_ HD3.out, HVT.out.new_ HD3.out, by omega, by omega⟩ HF.out).mono ?_; rintro e w4 ⟨rfl, hb4⟩; rw [HFE.out]; have HD4 := Kept.mk (join HD3.out hb4); clear hb4))
          go_ret
          exact ⟨rfl, HD4.out⟩
        · go_wp2_with (first | (go_at_call 15; refine (valid_ N C An Ac kn kc _ HP2.out).mono ?_; rintro e w3 ⟨rfl, hb3⟩; rw [HV.out]; have HB3 := Kept.mk (HB2.out.new_ hb3); have HD3 := Kept.mk (join HD2.out hb3); clear hb3 k0 k1 z1; have k0 := HB3.out.cell 0 (v := .slice An N.length kn) rfl; have k1 := HB3.out.cell 1 (v := .slice Ac C.length kc) rfl; have z1 := HB3.out.lt) | (go_at_call 16; refine (Run_bad N C An Ac Au Av kn kc ku kv up votes _ _ ⟨HP.out.new_ HD3.out, HU.out.new_ HD3.out, HVT.out.new_ HD3.out, by omega, by omega⟩ HF.out).mono ?_; rintro e w4 ⟨rfl, hb4⟩; rw [HFE.out]; have HD4 := Kept.mk (join HD3.out hb4); clear hb4))
          go_ret
          exact ⟨rfl, HD4.out⟩
    · obtain ⟨f, hfe⟩ : ∃ f, validE N C = f := ⟨_, rfl⟩
      have q1 : (f != 0) = true := by rw [← hfe]; simpa using hv
      have HV := Kept.mk hfe
      clear hv hfe
      go_wp2_with (go_at_call 15; refine (valid_ N C An Ac kn kc _ HP2.out).mono ?_; rintro e w3 ⟨rfl, hb3⟩; rw [HV.out]; have HD3 := Kept.mk (join HD2.out hb3); clear hb3)
      go_ret
      exact ⟨rfl, HD3.out⟩
theorem walkElectionStabilizes (p : Pl) (Au : Option Addr) (ku : Nat) (up : List Bool) (Av : Option Addr) (kv : Nat) (votes : List Vt) (w : World) (hp : PlanAt w w.heap.size p) (hu : RowsAt w w.heap.size 1 bcell1 Au up) (hku : up.length ≤ ku) (hku2 : ku ≤ maxLen) (hv : RowsAt w w.heap.size 3 vcell Av votes) (_ : ∀ v ∈ votes, VtOk v) (hkv : votes.length ≤ kv) (hkv2 : kv ≤ maxLen) :
    Calls Try.prog 10 #[pv p, .slice Au up.length ku, .slice Av votes.length kv] w fun e w' => e = .returned (.bool true) ∧ Below w.heap.size w w' := by
  cases p
  exact stabilizes_walk _ _ _ _ _ _ _ _ _ _ _ _ _ hp hu hku hku2 hv hkv hkv2

set_option maxRecDepth 100000 in
theorem liftedElectionStabilizes (os : Os) (started : os.Started) (H : Type) (enc : TypeId × Value → H) :
    ReturnsInHanded {} Try.checked os 10 .any (Rows.electionStabilizesSpec.pre6 enc Try.prog Try.f10 Rows.electionStabilizesRow.domain false) (Rows.electionStabilizesSpec.post enc Try.prog Try.f10 false true false false) := by
  refine returnsInHanded_of_change (C := Try.checked) own started (by kernel_rfl) Try.func10
    (ChangeSpec.witness6 (enc := enc) (C := Try.checked) false ⟨#[], #[.agg #[.slice none 0 0, .slice none 0 0], .slice none 0 0, .slice none 0 0], []⟩ 8 (by kernel_rfl) (by kernel_rfl) (by kernel_rfl) (by kernel_rfl)) ?_
  intro W base args ds gs before hval0 hW hcnd _
  have hval : ∀ (j : Nat) t v, Try.f10.params[j]? = some t → args[j]? = some v → Value.okWide Try.prog W .any base t v := hval0
  have hW' := hW
  obtain ⟨p, q, hA0, hV, rfl, hfz, hnd⟩ := hW
  have hA : DataW.TrodAll enc Try.prog W 0 (fun _ => true) true Try.f10.params.toList args.toList ds p := hA0
  rw [Try.params10] at hA hval
  obtain ⟨v0, vs0, d0, ds0, p0, q0, hargs, rfl, rfl, h0, r0⟩ := trodAll_cons hA
  obtain ⟨v1, vs1, d1, ds1, p1, q1, rfl, rfl, rfl, h1, r1⟩ := trodAll_cons r0
  obtain ⟨v2, vs2, d2, ds2, p2, q2, rfl, rfl, rfl, h2, r2⟩ := trodAll_cons r1
  obtain ⟨rfl, rfl, rfl⟩ := trodAll_nil r2
  obtain rfl : args = #[v0, v1, v2] := by cases args; simp_all
  obtain ⟨rfl, rfl⟩ := trodVars_none hV
  have k0 := h0
  have lt0 : ∀ x ∈ p0, x.block < W.heap.size := by obtain ⟨m, hm⟩ := k0; exact DataW.trod_lt m _ _ _ hm
  have k1 := h1
  have lt1 : ∀ x ∈ p1, x.block < W.heap.size := by obtain ⟨m, hm⟩ := k1; exact DataW.trod_lt m _ _ _ hm
  have k2 := h2
  have lt2 : ∀ x ∈ p2, x.block < W.heap.size := by obtain ⟨m, hm⟩ := k2; exact DataW.trod_lt m _ _ _ hm
  obtain ⟨q0, rfl, pa0⟩ := open_plan (hval 0 32 v0 rfl rfl) h0
  obtain ⟨A1, kap1, l1, rfl, r1x, le1, mx1⟩ := open_up (hval 1 33 v1 rfl rfl) h1
  obtain ⟨A2, kap2, l2, rfl, r2x, ok2, le2, mx2⟩ := open_votes (hval 2 37 v2 rfl rfl) h2
  clear hA0 hval0
  refine (walkElectionStabilizes q0 A1 kap1 l1 A2 kap2 l2 W pa0 r1x le1 mx1 r2x ok2 le2 mx2).mono fun e W' ⟨he, bel⟩ => ?_
  subst he
  exact ⟨_, rfl, _, _, _, [], _, [], hW', trodAll_mk1 (shut_bool Try.underlying4 _), (trodAll_cons_mk (Below.trod laidOut (by kernel_rfl) (of_decide_eq_true (by kernel_rfl)) k0 bel lt0) (trodAll_cons_mk (Below.trod laidOut (by kernel_rfl) (of_decide_eq_true (by kernel_rfl)) k1 bel lt1) (trodAll_cons_mk (Below.trod laidOut (by kernel_rfl) (of_decide_eq_true (by kernel_rfl)) k2 bel lt2) trodAll_mk0))), rfl, bel.frame _, fun h => by cases h⟩
/-- The given statement. -/
theorem electionStabilizes_holds : Rows.ElectionStabilizesSaid :=
  OpenClaim.holds_of_wide 10 Try.f10 rfl rfl rfl rfl rfl rfl rfl ⟨rfl, rfl, rfl, rfl, rfl⟩ rfl rfl rfl rfl rfl (by kernel_rfl) Try.func10 (by kernel_rfl)
    (of_decide_eq_true (by kernel_rfl)) (by unfold Func.isWrapper; first | (rw [if_pos (by decide +kernel)]; kernel_rfl) | (rw [if_neg (by decide +kernel)]; exact ⟨rfl, rfl⟩))
    (fun os started H enc _ => liftedElectionStabilizes os started H enc)
#print axioms electionStabilizes_holds
end Go.Proofs.Ytckigonkcjceeaa
