/- For all rooms and operations the statement SetupEnds returns true: in the end either all hops are Joined, or nothing is reserved anywhere. No condition. -/
import Derived.Test.YtnmgnggchgckoaaBase
import Derived.Test.YtnmgnggchgckoaaRest
namespace Go.Proofs.Ytnmgnggchgckoaa
open Go.ChangeShapes Go.WideShapes Go.ChangeAt Go.RowKit
set_option linter.unusedVariables false
set_option linter.unusedSimpArgs false
theorem left_held {c : Ch} {i : Nat} (hi : i < c.n) (hh : heldB (c.st i) = true) : leftP c i = c.room i - c.need := by
  have hb : c.hasB i = true := hasB_iff.2 ⟨by omega, by omega⟩
  simp [leftP, hb, hh]
theorem left_free {c : Ch} {i : Nat} (hi : i < c.n) (hh : heldB (c.st i) = false) : leftP c i = c.room i := by
  have hb : c.hasB i = true := hasB_iff.2 ⟨by omega, by omega⟩
  simp [leftP, hb, hh]
theorem state_at {c : Ch} {i : Nat} (hi : i < c.n) : stateP c i = c.st i := by
  have hb : c.hasB i = true := hasB_iff.2 ⟨by omega, by omega⟩
  simp [stateP, hb]
theorem stops_yes {c : Ch} {kind : Int} (h : stops c kind = true) : kind = 4 ∧ (c.st 0 = 1 ∨ c.st 0 = 2) := by
  unfold stops at h
  simp at h
  exact h
theorem stops_no {c : Ch} {kind : Int} (h : stops c kind = false) : kind ≠ 4 ∨ (c.st 0 ≠ 1 ∧ c.st 0 ≠ 2) := by
  unfold stops at h
  simp at h
  omega
theorem all_take {c : Ch} {l : List Msg} {j : Nat} {m : Msg} (h : l[j]? = some m) : deliverAll c (l.take (j + 1)) = deliver (deliverAll c (l.take j)) m := by
  unfold deliverAll
  rw [List.take_add_one, h]
  simp
theorem answer_take {c : Ch} {l : List Msg} {j : Nat} {m : Msg} (h : l[j]? = some m) : answer c (l.take (j + 1)) = (recvP (answer c (l.take j)) m).1 := by
  unfold answer
  rw [List.take_add_one, h]
  simp
theorem alike_deliver (c : Ch) (m : Msg) : Alike c (deliver c m) := (alike_recv c m).trans (alike_answer _ _)
set_option maxRecDepth 100000 in
set_option maxHeartbeats 16000000 in
theorem walkSetupEnds (a0 : Option Addr) (len0 cap0 : Nat) (a1 : Int) (a2 : Option Addr) (len2 cap2 : Nat) (w : World) (w0 : IsRows w 1 IsByte a0 len0 cap0) (w1 : (Lit.int .u8 a1).wf = true) (w2 : IsRows w 5 IsOp a2 len2 cap2) :
    Calls Try.prog 9 #[.slice a0 len0 cap0, .int .u8 a1, .slice a2 len2 cap2] w fun e w' => e = .returned (.bool true) ∧ Below w.heap.size w w' := by
  obtain ⟨n0, n1⟩ := bounds_u8 w1
  have hmax0 := w0.2.1
  have hcap0 := w0.1
  obtain ⟨hcap, hmax, hrow⟩ := w2
  unfold maxLen at hmax hmax0
  obtain ⟨bs, rfl, hbs, hr⟩ := rows_bytes w0
  have HR := Kept.mk hr
  have HBS := Kept.mk hbs
  have HROW := Kept.mk hrow
  clear w0 w1 hr hbs hrow
  by_cases hl : 120 < len2 ∨ 16 < bs.length
  · have hl2 : 120 < len2 ∨ (¬ 120 < len2 ∧ 16 < bs.length) := by omega
    clear hl
    rcases hl2 with hl | ⟨hl, hl3⟩
    all_goals
      go_enter Try.func9, Try.ntmps9
      go_wp2_with fail
      refine (awake_c _).mono ?_
      rintro e wa ⟨rfl, hba⟩
      have HBA := Kept.mk hba
      clear hba
      go_wp2_with fail
      refine (awake_c _).mono ?_
      rintro e wb ⟨rfl, hbb⟩
      have HBB := Kept.mk (join HBA.out hbb)
      clear hbb
      go_wp2_with fail
      go_ret
      exact ⟨rfl, HBB.out⟩
  · have hl1 : len2 ≤ 120 := by omega
    have hl3 : bs.length ≤ 16 := by omega
    clear hl
    have HF := Kept.mk (chainL_fits (bs := bs) n0)
    have hll : (chainL bs).length ≤ 8 := by rw [chainL_len]; omega
    have hll0 : 1 ≤ (chainL bs).length := by rw [chainL_len]; omega
    have hnd0 : 1 ≤ 1 + a1 % 4 := by omega
    have hnd1 : 1 + a1 % 4 ≤ 4 := by omega
    have HE00 : Kept (end0 (start0 5 (chainL bs) (1 + a1 % 4)) = false) := ⟨by
      have : (start0 5 (chainL bs) (1 + a1 % 4)).st 0 = 0 := by simp only [start0, Ch.st, List.getD_eq_getElem?_getD, List.getElem?_replicate]; split <;> rfl
      unfold end0; rw [this]; rfl⟩
    go_enter Try.func9, Try.ntmps9
    go_wp2_with fail
    refine (awake_c _).mono ?_
    rintro e wa ⟨rfl, hba⟩
    have HBA := Kept.mk hba
    have HRa := Kept.mk (HR.out.below hba)
    have hza := hba.size
    clear hba
    go_wp2_with fail
    refine (chain_c bs a0 cap0 a1 _ (HRa.out.more hza) HBS.out n0 n1 (by omega)).mono ?_
    rintro e wb ⟨L, A, kap, B, rfl, hch⟩
    have HT0 : Kept (OpW w L A B wb.heap.size (chainL bs) (1 + a1 % 4) (start0 5 (chainL bs) (1 + a1 % 4)) [] (.slice none 0 0) wb) := ⟨(opW_start HF.out hch).rebase HBA.out⟩
    have hlow := HT0.out.low
    clear hch
    generalize start0 5 (chainL bs) (1 + a1 % 4) = c0 at *
    generalize chainL bs = l at *
    generalize 1 + a1 % 4 = need at *
    generalize wb.heap.size = B2 at *
    go_wp2_with fail
    go_loopw [10, 11, 47] (fun v10 v11 v47 wr => ∃ (k : Nat) (c : Ch) (fly : List Msg) (st : Bool), k ≤ len2 ∧ v47 = .int .i64 k ∧ v11 = .bool st ∧ Kept (OpW w L A B B2 l need c fly v10 wr) ∧ Kept (end0 c = st)) (fun _ _ v47 _ => len2 - (intOf v47).toNat)
    case atStart => exact ⟨0, c0, [], false, by omega, rfl, rfl, HT0, HE00⟩
    case round =>
      obtain ⟨k, c, fly, st, hk, rfl, rfl, HT, HE⟩ := hrel
      clear HT0 HE00
      by_cases hlt : k < len2
      · obtain ⟨bb, off, rfl, hbb, hel⟩ := HROW.out (by omega)
        obtain ⟨cs, ⟨kind, nn, m1, m2, m3, rfl⟩, hcell⟩ := hel k hlt
        have hbl := HT.out.below
        have hsz := hbl.size
        have g0 := (hbl.cell (p := ⟨bb, off + k * 5 + 0, none⟩) hbb).trans (hcell 0 _ rfl)
        have g1 := (hbl.cell (p := ⟨bb, off + k * 5 + 1, none⟩) hbb).trans (hcell 1 _ rfl)
        have g2 := (hbl.cell (p := ⟨bb, off + k * 5 + 2, none⟩) hbb).trans (hcell 2 _ rfl)
        have g3 := (hbl.cell (p := ⟨bb, off + k * 5 + 3, none⟩) hbb).trans (hcell 3 _ rfl)
        have g4 := (hbl.cell (p := ⟨bb, off + k * 5 + 4, none⟩) hbb).trans (hcell 4 _ rfl)
        rw [Nat.add_zero] at g0
        have HTA := Kept.mk (HT.out.new_ ((Below.refl _ _).alloc (Nat.le_refl _) (.cells #[.int .i64 kind, .int .i64 nn, .int .i64 m1, .int .i64 m2, .int .i64 m3] 46)))
        have hcn1 := HT.out.inv.ok.n1
        have HS0 : Kept (stateP c 0 = c.st 0) := ⟨state_at (i := 0) (by omega)⟩
        clear hbl hel hcell
        rcases bool_int kind 6 with ⟨q1, q2⟩ | ⟨q1, q2⟩
        · obtain rfl : kind = 6 := by simpa using q1
          clear q1 q2
          go_wp2_with fail
          go_roundw
          case rel => exact ⟨k + 1, c, fly, st, by omega, by go_num, rfl, HTA, HE⟩
          case measure => simp [intOf]; omega
        · obtain ⟨AF, kf, rfl⟩ := own_slice HT.out.own
          have HES := Kept.mk (fun i hi => end0_step HT.out.inv kind i hi)
          cases hst : stops c kind with
          | false =>
            have HST := Kept.mk hst
            have hno := stops_no hst
            clear hst
            by_cases h4 : kind = 4
            · obtain ⟨x1, x2⟩ : c.st 0 ≠ 1 ∧ c.st 0 ≠ 2 := by omega
              have p1 : (c.st 0 == 1) = false := by simpa using x1
              have p2 : (c.st 0 == 2) = false := by simpa using x2
              subst h4
              clear hno x1 x2 q1 q2
              generalize c.st 0 = s0 at *
              go_wp2_with fail
              refine (state_c c 0 _ L HTA.out.ch).mono ?_
              rintro e w' ⟨rfl, rfl⟩
              rw [HS0.out]
              go_wp2_with fail
              refine (state_c c 0 _ L HTA.out.ch).mono ?_
              rintro e w' ⟨rfl, rfl⟩
              rw [HS0.out]
              go_wp2_with fail
              refine (step_c c fly AF kf 4 nn m1 m2 m3 _ L B2 HTA.out.ch HTA.out.own HTA.out.big HTA.out.low (by have := HTA.out.len; omega)).mono ?_
              rintro e ws ⟨i, v', hi, rfl, ho, hc, hO⟩
              have HTS := Kept.mk (opW_step HTA.out hi ho hc hO)
              have HE2 : Kept (end0 (stepAt c fly 4 i).1 = st) := ⟨by rw [HES.out i hi, HST.out, HE.out, Bool.false_or]⟩
              clear hi ho hc hO HTA HT g0 g1 g2 g3 g4
              generalize (stepAt c fly 4 i).1 = c2 at *
              generalize (stepAt c fly 4 i).2 = fly2 at *
              go_wp2_with fail
              go_roundw
              case rel => exact ⟨k + 1, c2, fly2, st, by omega, by go_num, rfl, HTS, HE2⟩
              case measure => simp [intOf]; omega
            · have p4 : (kind == 4) = false := by simpa using h4
              clear hno h4
              go_wp2_with fail
              refine (step_c c fly AF kf kind nn m1 m2 m3 _ L B2 HTA.out.ch HTA.out.own HTA.out.big HTA.out.low (by have := HTA.out.len; omega)).mono ?_
              rintro e ws ⟨i, v', hi, rfl, ho, hc, hO⟩
              have HTS := Kept.mk (opW_step HTA.out hi ho hc hO)
              have HE2 : Kept (end0 (stepAt c fly kind i).1 = st) := ⟨by rw [HES.out i hi, HST.out, HE.out, Bool.false_or]⟩
              clear hi ho hc hO HTA HT g0 g1 g2 g3 g4
              generalize (stepAt c fly kind i).1 = c2 at *
              generalize (stepAt c fly kind i).2 = fly2 at *
              go_wp2_with fail
              go_roundw
              case rel => exact ⟨k + 1, c2, fly2, st, by omega, by go_num, rfl, HTS, HE2⟩
              case measure => simp [intOf]; omega
          | true =>
            have HST := Kept.mk hst
            obtain ⟨rfl, hs12⟩ := stops_yes hst
            clear hst q1 q2
            rcases hs12 with hs | hs
            · rw [hs] at HS0
              clear hs
              go_wp2_with fail
              refine (state_c c 0 _ L HTA.out.ch).mono ?_
              rintro e w' ⟨rfl, rfl⟩
              rw [HS0.out]
              go_wp2_with fail
              refine (step_c c fly AF kf 4 nn m1 m2 m3 _ L B2 HTA.out.ch HTA.out.own HTA.out.big HTA.out.low (by have := HTA.out.len; omega)).mono ?_
              rintro e ws ⟨i, v', hi, rfl, ho, hc, hO⟩
              have HTS := Kept.mk (opW_step HTA.out hi ho hc hO)
              have HE2 : Kept (end0 (stepAt c fly 4 i).1 = true) := ⟨by rw [HES.out i hi, HST.out, Bool.true_or]⟩
              clear hi ho hc hO HTA HT g0 g1 g2 g3 g4
              generalize (stepAt c fly 4 i).1 = c2 at *
              generalize (stepAt c fly 4 i).2 = fly2 at *
              go_wp2_with fail
              go_roundw
              case rel => exact ⟨k + 1, c2, fly2, true, by omega, by go_num, rfl, HTS, HE2⟩
              case measure => simp [intOf]; omega
            · rw [hs] at HS0
              clear hs
              go_wp2_with fail
              refine (state_c c 0 _ L HTA.out.ch).mono ?_
              rintro e w' ⟨rfl, rfl⟩
              rw [HS0.out]
              go_wp2_with fail
              refine (state_c c 0 _ L HTA.out.ch).mono ?_
              rintro e w' ⟨rfl, rfl⟩
              rw [HS0.out]
              go_wp2_with fail
              refine (step_c c fly AF kf 4 nn m1 m2 m3 _ L B2 HTA.out.ch HTA.out.own HTA.out.big HTA.out.low (by have := HTA.out.len; omega)).mono ?_
              rintro e ws ⟨i, v', hi, rfl, ho, hc, hO⟩
              have HTS := Kept.mk (opW_step HTA.out hi ho hc hO)
              have HE2 : Kept (end0 (stepAt c fly 4 i).1 = true) := ⟨by rw [HES.out i hi, HST.out, Bool.true_or]⟩
              clear hi ho hc hO HTA HT g0 g1 g2 g3 g4
              generalize (stepAt c fly 4 i).1 = c2 at *
              generalize (stepAt c fly 4 i).2 = fly2 at *
              go_wp2_with fail
              go_roundw
              case rel => exact ⟨k + 1, c2, fly2, true, by omega, by go_num, rfl, HTS, HE2⟩
              case measure => simp [intOf]; omega
      · obtain rfl : k = len2 := by omega
        clear hlt HROW
        have HEW := Kept.mk HT.out.ew
        have HI0 := Kept.mk (HT.out.inv.sub (fly' := []) (by simp))
        have hcn : c.n = l.length := HT.out.n
        have HRND := Kept.mk (fun k => inv_rounds HI0.out k)
        have HRE : Kept (repP (roundsP c (4 * l.length)) = []) := ⟨by have := rest_end HI0.out; rwa [hcn] at this⟩
        have HEE : Kept (end0 (roundsP c (4 * l.length)) = st) := ⟨(end0_rounds HI0.out _).trans HE.out⟩
        clear HT hcn
        go_wp2_with fail
        go_loopw [75] (fun v75 wr => ∃ k : Nat, k ≤ 4 * l.length ∧ v75 = .int .i64 k ∧ Kept (EW w L A B B2 l need (roundsP c k) [] wr)) (fun v75 _ => 4 * l.length - (intOf v75).toNat)
        case atStart => exact ⟨0, by omega, rfl, HEW⟩
        case round =>
          obtain ⟨k2, hk2, rfl, HT⟩ := hrel
          by_cases hlt : k2 < 4 * l.length
          · obtain ⟨ck, hck⟩ : ∃ ck, ck = roundsP c k2 := ⟨_, rfl⟩
            have HCK : Kept (roundsP c (k2 + 1) = deliverAll ck (repP ck)) := ⟨by rw [hck]; rfl⟩
            rw [← hck] at HT
            clear hck
            have hrl : (repP ck).length ≤ 100 := repP_len HT.out.inv.ok
            go_wp2_with fail
            refine (rep_c ck _ L HT.out.ch).mono ?_
            rintro e w1 ⟨v1, rfl, ho1, hb1⟩
            obtain ⟨A1, k1, rfl⟩ := own_slice ho1
            have HR1 := Kept.mk ho1
            have HIR : Kept (Inv ck (repP ck)) := ⟨by have := HT.out.inv.add (inv_rep HT.out.inv); simpa using this⟩
            have HT1 := Kept.mk ((HT.out.new_ hb1).fly_ HIR.out)
            have hbase := HT.out.ch.row.lt
            generalize wr.heap.size = Bk at *
            clear ho1 hb1 HT
            generalize repP ck = reps at *
            go_wp2_with fail
            go_loopw [80] (fun v80 wr => ∃ j : Nat, j ≤ reps.length ∧ v80 = .int .i64 j ∧ Kept (EW w L A B B2 l need (deliverAll ck (reps.take j)) reps wr) ∧ Kept (wr.ownsRow Bk 38 3 (.slice A1 reps.length k1) reps.length (mcells reps))) (fun v80 _ => reps.length - (intOf v80).toNat)
            case atStart => exact ⟨0, by omega, rfl, HT1, HR1⟩
            case round =>
              obtain ⟨j, hj, rfl, HT, HRR⟩ := hrel
              by_cases hjl : j < reps.length
              · obtain ⟨m, hm⟩ := get_some hjl
                have HNX := Kept.mk (all_take (c := ck) hm)
                have hmem : m ∈ reps := List.mem_of_getElem? hm
                obtain ⟨b, off, rfl, -, hb, hc⟩ := (own_reads HRR.out).spot (by omega) (by omega)
                obtain ⟨g1, g2, g3⟩ := mcells_get hm
                have c1 := hc _ _ g1
                have c2 := hc _ _ g2
                have c3 := hc _ _ g3
                rw [show off + (j * 3 + 1) = off + j * 3 + 1 by omega] at c2
                rw [show off + (j * 3 + 2) = off + j * 3 + 2 by omega] at c3
                clear hc g1 g2 g3 hm
                obtain ⟨cj, hcj⟩ : ∃ cj, cj = deliverAll ck (reps.take j) := ⟨_, rfl⟩
                rw [← hcj] at HT HNX
                clear hcj
                have HIJ := Kept.mk (inv_recv HT.out.inv (HT.out.inv.msg m hmem))
                have HAJ := Kept.mk (alike_recv cj m)
                have hml : (recvP cj m).2.1.length ≤ 100 := recvP_len cj m
                have HDE : Kept (deliver cj m = answer (recvP cj m).1 (recvP cj m).2.1) := ⟨rfl⟩
                rw [HDE.out] at HNX
                have HTa := Kept.mk (HT.out.alloc (.cells #[.int .i64 m.kind, .int .i64 m.conn, .int .i64 m.dest] 38))
                have HRa := Kept.mk (HRR.out.alloc (.cells #[.int .i64 m.kind, .int .i64 m.conn, .int .i64 m.dest] 38))
                clear HT HRR hmem
                go_wp2_with fail
                refine (recv_c cj m _ L HTa.out.ch).mono ?_
                rintro e w2 ⟨v2, rfl, ho2, hc2, hO2⟩
                obtain ⟨A2, k22, rfl⟩ := own_slice ho2
                have HT2 := Kept.mk (HTa.out.turn HAJ.out HIJ.out hc2 hO2)
                have HR2 := Kept.mk (own_only HRa.out hO2 (by rintro g rfl; omega))
                have HA2 := Kept.mk ho2
                have hbase2 := HTa.out.ch.row.lt
                clear ho2 hc2 hO2 HTa HRa HIJ HAJ HDE
                generalize (World.heap (wr.alloc (.cells #[.int .i64 m.kind, .int .i64 m.conn, .int .i64 m.dest] 38))).size = Bj at *
                generalize (recvP cj m).1 = c4 at *
                generalize (recvP cj m).2.1 = ans at *
                generalize (recvP cj m).2.2 = er at *
                go_wp2_with fail
                go_loopw [92] (fun v92 wr => ∃ i : Nat, i ≤ ans.length ∧ v92 = .int .i64 i ∧ Kept (EW w L A B B2 l need (answer c4 (ans.take i)) (reps ++ ans) wr) ∧ Kept (wr.ownsRow Bk 38 3 (.slice (some ⟨b, off, none⟩) reps.length k1) reps.length (mcells reps)) ∧ Kept (wr.ownsRow Bj 38 3 (.slice A2 ans.length k22) ans.length (mcells ans))) (fun v92 _ => ans.length - (intOf v92).toNat)
                case atStart => exact ⟨0, by omega, rfl, HT2, HR2, HA2⟩
                case round =>
                  obtain ⟨i, hi, rfl, HT, HRR, HAA⟩ := hrel
                  by_cases hil : i < ans.length
                  · obtain ⟨x, hx⟩ := get_some hil
                    have HNX2 := Kept.mk (answer_take (c := c4) hx)
                    have hmem : x ∈ reps ++ ans := List.mem_append.2 (.inr (List.mem_of_getElem? hx))
                    obtain ⟨b', off', rfl, -, hb', hc'⟩ := (own_reads HAA.out).spot (by omega) (by omega)
                    obtain ⟨g1, g2, g3⟩ := mcells_get hx
                    have d1 := hc' _ _ g1
                    have d2 := hc' _ _ g2
                    have d3 := hc' _ _ g3
                    rw [show off' + (i * 3 + 1) = off' + i * 3 + 1 by omega] at d2
                    rw [show off' + (i * 3 + 2) = off' + i * 3 + 2 by omega] at d3
                    clear hc' g1 g2 g3 hx c1 c2 c3
                    obtain ⟨ci, hci⟩ : ∃ ci, ci = answer c4 (ans.take i) := ⟨_, rfl⟩
                    rw [← hci] at HT HNX2
                    clear hci
                    have HIJ := Kept.mk ((inv_recv HT.out.inv (HT.out.inv.msg x hmem)).sub (fly' := reps ++ ans) fun y hy => List.mem_append.2 (.inl hy))
                    have HAJ := Kept.mk (alike_recv ci x)
                    have HTa := Kept.mk (HT.out.alloc (.cells #[.int .i64 x.kind, .int .i64 x.conn, .int .i64 x.dest] 38))
                    have HRa := Kept.mk (HRR.out.alloc (.cells #[.int .i64 x.kind, .int .i64 x.conn, .int .i64 x.dest] 38))
                    have HAa := Kept.mk (HAA.out.alloc (.cells #[.int .i64 x.kind, .int .i64 x.conn, .int .i64 x.dest] 38))
                    clear HT HRR HAA hmem
                    go_wp2_with fail
                    refine (recv_c ci x _ L HTa.out.ch).mono ?_
                    rintro e w3 ⟨v3, rfl, ho3, hc3, hO3⟩
                    have HT3 := Kept.mk (HTa.out.turn HAJ.out HIJ.out hc3 hO3)
                    have HR3 := Kept.mk (own_only HRa.out hO3 (by rintro g rfl; omega))
                    have HA3 := Kept.mk (own_only HAa.out hO3 (by rintro g rfl; omega))
                    rw [← HNX2.out] at HT3
                    clear ho3 hc3 hO3 HTa HRa HAa HIJ HAJ
                    go_wp2_with fail
                    go_roundw
                    case rel => exact ⟨i + 1, by omega, by go_num, HT3, HR3, HA3⟩
                    case measure => simp [intOf]; omega
                  · obtain rfl : i = ans.length := by omega
                    rw [List.take_length, ← HNX.out] at HT
                    have HT5 := Kept.mk (HT.out.fly_ (HT.out.inv.sub (fly' := reps) fun y hy => List.mem_append.2 (.inl hy)))
                    clear HT HAA
                    go_wp2_with fail
                    go_roundw
                    case rel => exact ⟨j + 1, by omega, by go_num, HT5, HRR⟩
                    case measure => simp [intOf]; omega
              · obtain rfl : j = reps.length := by omega
                rw [List.take_length, ← HCK.out] at HT
                have HT5 := Kept.mk (HT.out.fly_ (HT.out.inv.sub (fly' := []) (by simp)))
                clear HT HRR
                go_wp2_with fail
                go_roundw
                case rel => exact ⟨k2 + 1, by omega, by go_num, HT5⟩
                case measure => simp [intOf]; omega
          · obtain rfl : k2 = 4 * l.length := by omega
            clear HEW HRND HI0
            obtain ⟨cf, hcf⟩ : ∃ cf, cf = roundsP c (4 * l.length) := ⟨_, rfl⟩
            rw [← hcf] at HT HRE HEE
            clear hcf
            have hcn : cf.n = l.length := HT.out.n
            have HS : Kept (∀ i, i < l.length → stateP cf i = cf.st i) := ⟨fun i hi => state_at (by omega)⟩
            have HLF : Kept (∀ i, i < l.length → heldB (cf.st i) = false → leftP cf i = l.getD i 0) := ⟨fun i hi hh => by rw [left_free (by omega) hh]; unfold Ch.room; rw [HT.out.rooms]⟩
            have HJ : Kept (cf.st 0 = 2 → ∀ i, i < l.length → cf.st i = 2) := ⟨fun h0 i hi => rest_joined HT.out.inv h0 (by omega)⟩
            have HFR : Kept (cf.st 0 ≠ 2 → ∀ i, i < l.length → cf.st i = 0 ∨ cf.st i = 3 ∨ cf.st i = 5) := ⟨fun h0 i hi => rest_free HT.out.inv HRE.out h0 (by omega)⟩
            have HRES : Kept (∀ i, i < l.length → cf.st i = 2 → need ≤ l.getD i 0) := ⟨fun i hi h => by
              have := HT.out.inv.res i (by omega) (by omega)
              unfold Ch.room at this
              rwa [HT.out.rooms, HT.out.need] at this⟩
            have HREF : Kept (cf.st 0 = 3 → ∃ i, i < l.length ∧ l.getD i 0 < need) := ⟨fun h => by
              obtain ⟨i, hi, hr⟩ := refused_some HT.out.inv (i := 0) (by omega) h
              unfold Ch.room at hr
              rw [HT.out.rooms, HT.out.need] at hr
              exact ⟨i, by omega, hr⟩⟩
            obtain ⟨s0, hs0⟩ : ∃ s0, cf.st 0 = s0 := ⟨_, rfl⟩
            have hs5 := HT.out.inv.ok.st 0 (by omega)
            have HS00 := Kept.mk (HS.out 0 (by omega))
            have hf0 := fun h => HFR.out h 0 (by omega)
            have HEE2 : Kept ((s0 == 4 || s0 == 5) = st) := ⟨by have := HEE.out; unfold end0 at this; rwa [hs0] at this⟩
            rw [hs0] at HJ HFR HREF HS00 hf0 hs5
            have HS0E := Kept.mk hs0
            clear hcn hs0
            go_wp2_with fail
            refine (rep_c cf _ L HT.out.ch).mono ?_
            rw [HRE.out]
            rintro e w1 ⟨v1, rfl, ho1, hb1⟩
            obtain ⟨A1, k1, rfl⟩ := own_slice ho1
            have HT1 := Kept.mk (HT.out.new_ hb1)
            clear ho1 hb1
            go_wp2_with fail
            refine (min_c l A kap _ B HT1.out.list (by omega) (by omega)).mono ?_
            rintro e w' ⟨mn, rfl, rfl, hmn⟩
            have HMN := Kept.mk hmn
            clear hmn
            have hsc : s0 = 2 ∨ (s0 ≠ 2 ∧ (s0 = 0 ∨ s0 = 3 ∨ s0 = 5)) := by
              by_cases h : s0 = 2
              · exact .inl h
              · exact .inr ⟨h, hf0 h⟩
            clear hf0
            rcases hsc with rfl | ⟨hne, hsc⟩
            · have HSJ : Kept (∀ i, i < l.length → stateP cf i = 2) := ⟨fun i hi => by rw [HS.out i hi, HJ.out rfl i hi]⟩
              have hmin : need ≤ mn := by
                obtain ⟨i, hi, e⟩ := HMN.out.2
                have := HRES.out i hi (HJ.out rfl i hi)
                omega
              obtain rfl : false = st := HEE2.out
              go_wp2_with fail
              refine (state_c cf 0 _ L HT1.out.ch).mono ?_
              rintro e w' ⟨rfl, rfl⟩
              rw [show stateP cf 0 = 2 from HS00.out]
              go_wp2_with fail
              go_loopw [116] (fun v wr => ∃ i : Nat, i ≤ l.length ∧ v = .int .i64 i ∧ Kept (Drewn w1 wr)) (fun v _ => l.length - (intOf v).toNat)
              case atStart => exact ⟨0, by omega, rfl, ⟨⟨0, rfl⟩⟩⟩
              case round =>
                obtain ⟨i, hi, rfl, HD⟩ := hrel
                have HTD := Kept.mk (HD.out.ew HT1.out)
                by_cases hil : i < l.length
                · go_wp2_with fail
                  refine (state_c cf i _ L HTD.out.ch).mono ?_
                  rintro e w' ⟨rfl, rfl⟩
                  rw [HSJ.out i hil]
                  go_wp2_with fail
                  go_roundw
                  case rel => exact ⟨i + 1, by omega, by go_num, HD⟩
                  case measure => simp [intOf]; omega
                · obtain rfl : i = l.length := by omega
                  go_wp2_with fail
                  go_ret
                  exact ⟨rfl, HTD.out.below⟩
            · have HFL : Kept (∀ i, i < l.length → leftP cf i = l.getD i 0) := ⟨fun i hi => HLF.out i hi (by have := HFR.out hne i hi; simp only [heldB]; rcases this with h | h | h <;> rw [h] <;> rfl)⟩
              clear HLF HFR HJ hne
              rcases hsc with rfl | rfl | rfl
              · obtain rfl : false = st := HEE2.out
                go_wp2_with fail
                refine (state_c cf 0 _ L HT1.out.ch).mono ?_
                rintro e w' ⟨rfl, rfl⟩
                rw [show stateP cf 0 = 0 from HS00.out]
                go_wp2_with fail
                go_loopw [143] (fun v wr => ∃ i : Nat, i ≤ l.length ∧ v = .int .i64 i ∧ Kept (Drewn w1 wr)) (fun v _ => l.length - (intOf v).toNat)
                case atStart => exact ⟨0, by omega, rfl, ⟨⟨0, rfl⟩⟩⟩
                case round =>
                  obtain ⟨i, hi, rfl, HD⟩ := hrel
                  have HTD := Kept.mk (HD.out.ew HT1.out)
                  by_cases hil : i < l.length
                  · have HLI := Kept.mk (HFL.out i hil)
                    obtain ⟨ad, v, rfl, hadb, hx, hcl⟩ := HTD.out.list.at_ hil
                    rw [iv_get hil] at hx
                    injection hx with hx
                    subst hx
                    generalize l.getD i 0 = r at *
                    go_wp2_with fail
                    go_quiet ((go_at_call 14; exact Calls.quiet_of ((left_c cf i _ L (HTD.out.ch.drewN _)).mono fun _ _ h => ⟨h.1.trans (by rw [HLI.out]), h.2⟩)))
                    go_wp2_with fail
                    go_roundw
                    case rel => exact ⟨i + 1, by omega, by go_num, ⟨HD.out.step _⟩⟩
                    case measure => simp [intOf]; omega
                  · obtain rfl : i = l.length := by omega
                    go_wp2_with fail
                    go_ret
                    exact ⟨rfl, HTD.out.below⟩
              · obtain rfl : false = st := HEE2.out
                have hmin : mn < need := by
                  obtain ⟨i, hi, e⟩ := HREF.out rfl
                  have := HMN.out.1 i hi
                  omega
                go_wp2_with fail
                refine (state_c cf 0 _ L HT1.out.ch).mono ?_
                rintro e w' ⟨rfl, rfl⟩
                rw [show stateP cf 0 = 3 from HS00.out]
                go_wp2_with fail
                go_loopw [143] (fun v wr => ∃ i : Nat, i ≤ l.length ∧ v = .int .i64 i ∧ Kept (Drewn w1 wr)) (fun v _ => l.length - (intOf v).toNat)
                case atStart => exact ⟨0, by omega, rfl, ⟨⟨0, rfl⟩⟩⟩
                case round =>
                  obtain ⟨i, hi, rfl, HD⟩ := hrel
                  have HTD := Kept.mk (HD.out.ew HT1.out)
                  by_cases hil : i < l.length
                  · have HLI := Kept.mk (HFL.out i hil)
                    obtain ⟨ad, v, rfl, hadb, hx, hcl⟩ := HTD.out.list.at_ hil
                    rw [iv_get hil] at hx
                    injection hx with hx
                    subst hx
                    generalize l.getD i 0 = r at *
                    go_wp2_with fail
                    go_quiet ((go_at_call 14; exact Calls.quiet_of ((left_c cf i _ L (HTD.out.ch.drewN _)).mono fun _ _ h => ⟨h.1.trans (by rw [HLI.out]), h.2⟩)))
                    go_wp2_with fail
                    go_roundw
                    case rel => exact ⟨i + 1, by omega, by go_num, ⟨HD.out.step _⟩⟩
                    case measure => simp [intOf]; omega
                  · obtain rfl : i = l.length := by omega
                    go_wp2_with fail
                    go_ret
                    exact ⟨rfl, HTD.out.below⟩
              · obtain rfl : true = st := HEE2.out
                go_wp2_with fail
                refine (state_c cf 0 _ L HT1.out.ch).mono ?_
                rintro e w' ⟨rfl, rfl⟩
                rw [show stateP cf 0 = 5 from HS00.out]
                go_wp2_with fail
                go_loopw [143] (fun v wr => ∃ i : Nat, i ≤ l.length ∧ v = .int .i64 i ∧ Kept (Drewn w1 wr)) (fun v _ => l.length - (intOf v).toNat)
                case atStart => exact ⟨0, by omega, rfl, ⟨⟨0, rfl⟩⟩⟩
                case round =>
                  obtain ⟨i, hi, rfl, HD⟩ := hrel
                  have HTD := Kept.mk (HD.out.ew HT1.out)
                  by_cases hil : i < l.length
                  · have HLI := Kept.mk (HFL.out i hil)
                    obtain ⟨ad, v, rfl, hadb, hx, hcl⟩ := HTD.out.list.at_ hil
                    rw [iv_get hil] at hx
                    injection hx with hx
                    subst hx
                    generalize l.getD i 0 = r at *
                    go_wp2_with fail
                    go_quiet ((go_at_call 14; exact Calls.quiet_of ((left_c cf i _ L (HTD.out.ch.drewN _)).mono fun _ _ h => ⟨h.1.trans (by rw [HLI.out]), h.2⟩)))
                    go_wp2_with fail
                    go_roundw
                    case rel => exact ⟨i + 1, by omega, by go_num, ⟨HD.out.step _⟩⟩
                    case measure => simp [intOf]; omega
                  · obtain rfl : i = l.length := by omega
                    go_wp2_with fail
                    go_ret
                    exact ⟨rfl, HTD.out.below⟩

set_option maxRecDepth 100000 in
theorem liftedSetupEnds (os : Os) (started : os.Started) (H : Type) (enc : TypeId × Value → H) :
    ReturnsInHanded {} Try.checked os 9 .any (Rows.setupEndsSpec.pre6 enc Try.prog Try.f9 Rows.setupEndsRow.domain false) (Rows.setupEndsSpec.post enc Try.prog Try.f9 false true false false) := by
  refine returnsInHanded_of_change (C := Try.checked) own started (by kernel_rfl) Try.func9
    (ChangeSpec.witness6 (enc := enc) (C := Try.checked) false ⟨#[], #[.slice none 0 0, .int .u8 0, .slice none 0 0], []⟩ 8 (by kernel_rfl) (by kernel_rfl) (by kernel_rfl) (by kernel_rfl)) ?_
  intro W base args ds gs before hval0 hW hcnd _
  have hval : ∀ (j : Nat) t v, Try.f9.params[j]? = some t → args[j]? = some v → Value.okWide Try.prog W .any base t v := hval0
  have hW' := hW
  obtain ⟨p, q, hA0, hV, rfl, hfz, hnd⟩ := hW
  have hA : DataW.TrodAll enc Try.prog W 0 (fun _ => true) true Try.f9.params.toList args.toList ds p := hA0
  rw [Try.params9] at hA hval
  obtain ⟨v0, vs0, d0, ds0, p0, q0, hargs, rfl, rfl, h0, r0⟩ := trodAll_cons hA
  obtain ⟨v1, vs1, d1, ds1, p1, q1, rfl, rfl, rfl, h1, r1⟩ := trodAll_cons r0
  obtain ⟨v2, vs2, d2, ds2, p2, q2, rfl, rfl, rfl, h2, r2⟩ := trodAll_cons r1
  obtain ⟨rfl, rfl, rfl⟩ := trodAll_nil r2
  obtain rfl : args = #[v0, v1, v2] := by cases args; simp_all
  obtain ⟨rfl, rfl⟩ := trodVars_none hV
  have k0 := h0
  have lt0 : ∀ x ∈ p0, x.block < W.heap.size := by obtain ⟨m, hm⟩ := k0; exact DataW.trod_lt m _ _ _ hm
  have k1 := h1
  have lt1 : ∀ x ∈ p1, x.block < W.heap.size := by obtain ⟨m, hm⟩ := k1; exact DataW.trod_lt m _ _ _ hm
  have k2 := h2
  have lt2 : ∀ x ∈ p2, x.block < W.heap.size := by obtain ⟨m, hm⟩ := k2; exact DataW.trod_lt m _ _ _ hm
  obtain ⟨a0, len0, cap0, rfl⟩ := okWide_slice Try.underlying32 (hval 0 32 v0 rfl rfl)
  have w0 : IsRows W 1 IsByte a0 len0 cap0 := open_rows Try.underlying32 (show Try.prog.cellsOf 5 = 1 by kernel_rfl) (by decide) isByte h0
  obtain ⟨a1, rfl, -, -, w1⟩ := open_int Try.underlying5 (hval 1 5 v1 rfl rfl) h1
  obtain ⟨a2, len2, cap2, rfl⟩ := okWide_slice Try.underlying44 (hval 2 44 v2 rfl rfl)
  have w2 : IsRows W 5 IsOp a2 len2 cap2 := open_rows Try.underlying44 (show Try.prog.cellsOf 46 = 5 by kernel_rfl) (by decide) isOp h2
  clear hA0 hval0
  refine (walkSetupEnds a0 len0 cap0 a1 a2 len2 cap2 W w0 w1 w2).mono fun e W' ⟨he, bel⟩ => ?_
  subst he
  exact ⟨_, rfl, _, _, _, [], _, [], hW', trodAll_mk1 (shut_bool Try.underlying4 _), (trodAll_cons_mk (Below.trod laidOut (by kernel_rfl) (of_decide_eq_true (by kernel_rfl)) k0 bel lt0) (trodAll_cons_mk (Below.trod laidOut (by kernel_rfl) (of_decide_eq_true (by kernel_rfl)) k1 bel lt1) (trodAll_cons_mk (Below.trod laidOut (by kernel_rfl) (of_decide_eq_true (by kernel_rfl)) k2 bel lt2) trodAll_mk0))), rfl, bel.frame _, fun h => by cases h⟩
/-- The given statement. -/
theorem setupEnds_holds : Rows.SetupEndsSaid :=
  OpenClaim.holds_of_wide 9 Try.f9 rfl rfl rfl rfl rfl rfl rfl ⟨rfl, rfl, rfl, rfl, rfl⟩ rfl rfl rfl rfl rfl (by kernel_rfl) Try.func9 (by kernel_rfl)
    (of_decide_eq_true (by kernel_rfl)) (by unfold Func.isWrapper; first | (rw [if_pos (by decide +kernel)]; kernel_rfl) | (rw [if_neg (by decide +kernel)]; exact ⟨rfl, rfl⟩))
    (fun os started H enc _ => liftedSetupEnds os started H enc)
#print axioms setupEnds_holds
end Go.Proofs.Ytnmgnggchgckoaa
