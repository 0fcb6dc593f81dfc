/- For all rooms and operations the statement SetupRuns returns true: all messages, states and rooms are those of the reference. No condition. -/
import Derived.Test.YtnmgnggchgckoaaBase
import Derived.Test.YtnmgnggchgckoaaRefR
namespace Go.Proofs.Ytnmgnggchgckoaa
open Go.ChangeShapes Go.WideShapes Go.ChangeAt Go.RowKit
set_option linter.unusedVariables false
set_option linter.unusedSimpArgs false
theorem run_keep {w wr : World} {L : Loc} {A : Option Addr} {B B2 bs : Nat} {l : List Int} {c : Ch} {R Rb : Rf} {fly : List Msg} {v : Value} (h : RunW w L A B B2 bs l c R Rb fly v wr) : wr.cell? ⟨bs, 0, none⟩ = some (.int .i64 Rb.c.conn) ∧ wr.cell? ⟨bs, 1, none⟩ = some (.int .i64 Rb.c.need) ∧ wr.cell? ⟨bs, 2, none⟩ = some (.slice (some ⟨Rb.gA, 0, none⟩) Rb.c.n Rb.k) ∧ wr.cell? ⟨bs, 3, none⟩ = some (.slice (some ⟨Rb.gD, 0, none⟩) Rb.c.n Rb.m) :=
  ⟨h.bx.cell 0 rfl, h.bx.cell 1 rfl, h.bx.cell 2 rfl, h.bx.cell 3 rfl⟩
theorem run_keep2 {w wr : World} {L : Loc} {A : Option Addr} {B B2 bs : Nat} {l : List Int} {c : Ch} {R : Rf} {fly : List Msg} {v : Value} {j : Nat} {sj : Int} (h : RunW w L A B B2 bs l c R R fly v wr) (hj : j < R.c.n) (hs : R.c.st j = sj) : wr.cell? ⟨bs, 0, none⟩ = some (.int .i64 R.c.conn) ∧ wr.cell? ⟨bs, 1, none⟩ = some (.int .i64 R.c.need) ∧ wr.cell? ⟨bs, 2, none⟩ = some (.slice (some ⟨R.gA, 0, none⟩) R.c.n R.k) ∧ wr.cell? ⟨bs, 3, none⟩ = some (.slice (some ⟨R.gD, 0, none⟩) R.c.n R.m) ∧ wr.cell? ⟨R.gD, j, none⟩ = some (.int .i64 sj) :=
  ⟨h.bx.cell 0 rfl, h.bx.cell 1 rfl, h.bx.cell 2 rfl, h.bx.cell 3 rfl, by rw [← hs]; exact h.ref.cD hj⟩
set_option maxRecDepth 100000 in
set_option maxHeartbeats 32000000 in
theorem walkSetupRuns (a0 : Option Addr) (len0 cap0 : Nat) (a1 : Int) (a2 : Option Addr) (len2 cap2 : Nat) (w : World) (w0 : IsRows w 1 IsByte a0 len0 cap0) (w1 : (Lit.int .u8 a1).wf = true) (w2 : IsRows w 5 IsOp a2 len2 cap2) :
    Calls Try.prog 7 #[.slice a0 len0 cap0, .int .u8 a1, .slice a2 len2 cap2] w fun e w' => e = .returned (.bool true) ∧ Below w.heap.size w w' := by
  obtain ⟨n0, n1⟩ := bounds_u8 w1
  have hmax0 := w0.2.1
  have hcap0 := w0.1
  obtain ⟨hcap, hmax, hrow⟩ := w2
  unfold maxLen at hmax hmax0
  obtain ⟨bs, rfl, hbs, hr⟩ := rows_bytes w0
  have HR := Kept.mk hr
  have HBS := Kept.mk hbs
  have HROW := Kept.mk hrow
  clear w0 w1 hr hbs hrow
  by_cases hl : 120 < len2 ∨ 16 < bs.length
  · have hl2 : 120 < len2 ∨ (¬ 120 < len2 ∧ 16 < bs.length) := by omega
    clear hl
    rcases hl2 with hl | ⟨hl, hl3⟩
    all_goals
      go_enter Try.func7, Try.ntmps7
      go_wp2_with fail
      refine (awake_c _).mono ?_
      rintro e wa ⟨rfl, hba⟩
      have HBA := Kept.mk hba
      clear hba
      go_wp2_with fail
      refine (awake_c _).mono ?_
      rintro e wb ⟨rfl, hbb⟩
      have HBB := Kept.mk (join HBA.out hbb)
      clear hbb
      go_wp2_with fail
      go_ret
      exact ⟨rfl, HBB.out⟩
  · have hl1 : len2 ≤ 120 := by omega
    have hl3 : bs.length ≤ 16 := by omega
    clear hl
    have HF := Kept.mk (chainL_fits (bs := bs) n0)
    have hll : (chainL bs).length ≤ 8 := by rw [chainL_len]; omega
    have hnd0 : 1 ≤ 1 + a1 % 4 := by omega
    have hnd1 : 1 + a1 % 4 ≤ 4 := by omega
    go_enter Try.func7, Try.ntmps7
    go_wp2_with fail
    refine (awake_c _).mono ?_
    rintro e wa ⟨rfl, hba⟩
    have HBA := Kept.mk hba
    have HRa := Kept.mk (HR.out.below hba)
    have hza := hba.size
    clear hba
    go_wp2_with fail
    refine (chain_c bs a0 cap0 a1 _ (HRa.out.more hza) HBS.out n0 n1 (by omega)).mono ?_
    rintro e wb ⟨L, A, kap, B, rfl, hch⟩
    have hlow := Kept.mk hch.low
    have HCH := Kept.mk hch
    have HOK0 := Kept.mk (start0_ok HF.out)
    have HCNX : Kept ((start0 5 (chainL bs) (1 + a1 % 4)).n = (chainL bs).length) := ⟨start0_n _ _ _⟩
    have hl8 : 1 ≤ (chainL bs).length := by rw [chainL_len]; omega
    have HBW := Kept.mk (HBA.out.trans (hch.below.mono HBA.out.size))
    have hzb := hch.below.size
    have HLS0 := Kept.mk (lastOk_start (conn := 5) (need := 1 + a1 % 4) (l := chainL bs))
    clear hch
    go_wp2_with fail
    refine (rnew_c 5 (1 + a1 % 4) (chainL bs) A kap _ (HCH.out.list.more (by have := HCH.out.p; have := HCH.out.ch.tab.lt; omega)) (by omega) hl8 HOK0.out).mono ?_
    rintro e wm ⟨gA, kA, gD, mD, rfl, hrm, hbm, hgA, hgD⟩
    generalize hc0 : start0 5 (chainL bs) (1 + a1 % 4) = c0 at *
    clear hc0
    have HT0 : Kept (RunW w L A B wb.heap.size wm.heap.size (chainL bs) c0 ⟨c0, gA, kA, gD, mD⟩ ⟨c0, gA, kA, gD, mD⟩ [] (.slice none 0 0) (wm.alloc (.cells #[.int .i64 c0.conn, .int .i64 c0.need, .slice (some ⟨gA, 0, none⟩) c0.n kA, .slice (some ⟨gD, 0, none⟩) c0.n mD] 51))) := ⟨⟨(HCH.out.ch.new_ hbm).alloc _, hrm.alloc _, Blk.new _ _ _, World.ownsRow_nil _ _ _ _, (HCH.out.list.below (hbm.mono (by have := HCH.out.p; have := HCH.out.ch.tab.lt; omega))).below ((Below.refl _ _).alloc (by have := hbm.size; have := HCH.out.p; have := HCH.out.ch.tab.lt; omega) _), ⟨HCH.out.ch.tab.lt, HCH.out.ch.rlt, HCH.out.ch.row.lt⟩, HCH.out.S, Nat.le_trans HBA.out.size HCH.out.low, by have := hbm.size; simp; omega, hgA, hgD, hbm.size, ((join HBW.out hbm)).alloc (by have := (join HBW.out hbm).size; omega) _⟩⟩
    clear HCH hrm hbm hgA hgD HBW HOK0 HF hzb
    go_wp2_with fail
    generalize (wm.alloc (.cells #[.int .i64 c0.conn, .int .i64 c0.need, .slice (some ⟨gA, 0, none⟩) c0.n kA, .slice (some ⟨gD, 0, none⟩) c0.n mD] 51)) = wq at *
    generalize chainL bs = l at *
    generalize wm.heap.size = bs at *
    generalize wb.heap.size = B2 at *
    generalize 1 + a1 % 4 = need at *
    obtain ⟨i0, hi0, hz0, hz1, hz2⟩ := info_parts info38
    go_loopw [11, 47] (fun v11 v47 wr => ∃ (k : Nat) (c : Ch) (gA kA gD mD : Nat) (fly : List Msg), k ≤ len2 ∧ v47 = .int .i64 k ∧ Kept (RunW w L A B B2 bs l c ⟨c, gA, kA, gD, mD⟩ ⟨c, gA, kA, gD, mD⟩ fly v11 wr) ∧ Kept (LastOk c) ∧ Kept (c.n = l.length) ∧ fly.length ≤ 100 * k) (fun _ v47 _ => len2 - (intOf v47).toNat)
    case atStart => exact ⟨0, c0, gA, kA, gD, mD, [], by omega, rfl, HT0, HLS0, HCNX, by simp⟩
    case round =>
      clear HT0 HLS0 HCNX
      obtain ⟨k, c, gA, kA, gD, mD, fly, hk, rfl, HT, HLA, HCN, hfl⟩ := hrel
      by_cases hlt : k < len2
      · obtain ⟨bb, off, rfl, hbb, hel⟩ := HROW.out (by omega)
        obtain ⟨cs, ⟨kind, nn, m1, m2, m3, rfl⟩, hcell⟩ := hel k hlt
        have hbl := HT.out.below
        have hsz := hbl.size
        have g0 := (hbl.cell (p := ⟨bb, off + k * 5 + 0, none⟩) hbb).trans (hcell 0 _ rfl)
        have g1 := (hbl.cell (p := ⟨bb, off + k * 5 + 1, none⟩) hbb).trans (hcell 1 _ rfl)
        have g2 := (hbl.cell (p := ⟨bb, off + k * 5 + 2, none⟩) hbb).trans (hcell 2 _ rfl)
        have g3 := (hbl.cell (p := ⟨bb, off + k * 5 + 3, none⟩) hbb).trans (hcell 3 _ rfl)
        have g4 := (hbl.cell (p := ⟨bb, off + k * 5 + 4, none⟩) hbb).trans (hcell 4 _ rfl)
        rw [Nat.add_zero] at g0
        obtain ⟨AF, kf, rfl⟩ := own_slice HT.out.own
        have PR1 := Kept.mk (HT.out.new_ ((Below.refl wr.heap.size wr).alloc (Nat.le_refl _) (.cells #[.int .i64 kind, .int .i64 nn, .int .i64 m1, .int .i64 m2, .int .i64 m3] 46)))
        have OB1 := Kept.mk (Blk.new wr 46 #[.int .i64 kind, .int .i64 nn, .int .i64 m1, .int .i64 m2, .int .i64 m3])
        have HOK := Kept.mk HT.out.ch.ok
        have hcn1 := HT.out.ch.ok.n1
        have hcn2 := HT.out.ch.ok.n2
        clear hbl hel hcell HT
        go_upto_block 2 with fail
        generalize (wr.alloc (.cells #[.int .i64 kind, .int .i64 nn, .int .i64 m1, .int .i64 m2, .int .i64 m3] 46)) = wb at *
        generalize wr.heap.size = bo at *
        clear g0 g1 g2 g3 g4
        go_cut [14, 15, 16, 17] (fun s14 s15 s16 s17 wx => ∃ (c2 : Ch) (gA2 kA2 gD2 mD2 : Nat) (ms : List Msg) (v2 v3 : Value) (z : Int), s14 = v2 ∧ s15 = v3 ∧ s16 = .int .i64 z ∧ s17 = .int .i64 z ∧ Kept (RunW w L A B B2 bs l c2 ⟨c2, gA2, kA2, gD2, mD2⟩ ⟨c2, gA2, kA2, gD2, mD2⟩ fly (.slice AF fly.length kf) wx) ∧ Kept (RowP B2 wx v2 ms) ∧ Kept (RowR B2 wx v3 ms) ∧ ms.length ≤ 100 ∧ Kept (LastOk c2) ∧ Kept (c2.n = c.n))
        case first =>
          clear hi0 hz0 hz1 hz2
          rcases (by omega : kind = 0 ∨ kind = 1 ∨ kind = 2 ∨ kind = 4 ∨ kind = 5 ∨ kind = 6 ∨ (kind < 0 ∨ kind = 3 ∨ 6 < kind)) with hkd | hkd | hkd | hkd | hkd | hkd | hko
          · subst hkd
            obtain ⟨r, hop⟩ : ∃ r, OpS L c gA kA gD mD 19 25 _ r := ⟨_, op_start HLA.out HOK.out⟩
            have HOP1 := Kept.mk hop
            clear hop
            have k0 := PR1.out.bx.cell 0 (v := .int .i64 c.conn) rfl
            have k1 := PR1.out.bx.cell 1 (v := .int .i64 c.need) rfl
            have k2 := PR1.out.bx.cell 2 (v := .slice (some ⟨gA, 0, none⟩) c.n kA) rfl
            have k3 := PR1.out.bx.cell 3 (v := .slice (some ⟨gD, 0, none⟩) c.n mD) rfl
            have kz := PR1.out.bx.lt
            have kf0 := PR1.out.bx.free 0
            have kf1 := PR1.out.bx.free 1
            have kf2 := PR1.out.bx.free 2
            have kf3 := PR1.out.bx.free 3
            have o0 := OB1.out.cell 0 (v := .int .i64 0) rfl
            have o1 := OB1.out.cell 1 (v := .int .i64 nn) rfl
            have o2 := OB1.out.cell 2 (v := .int .i64 m1) rfl
            have o3 := OB1.out.cell 3 (v := .int .i64 m2) rfl
            have o4 := OB1.out.cell 4 (v := .int .i64 m3) rfl
            have oz := OB1.out.lt
            go_wp2_with (first | (go_at_call 19; refine (HOP1.out.cp _ PR1.out.ch).mono ?_; rintro e w2 hu; obtain ⟨v2, rfl, hp2, hr2, hkp⟩ := PR1.out.prog hu; have PR2 := Kept.mk hp2; have R2 := Kept.mk hr2; have OB2 := Kept.mk (hkp _ _ _ OB1.out (by decide)); clear k0 k1 k2 k3 kz kf0 kf1 kf2 kf3; clear o0 o1 o2 o3 o4 oz; have k0 := PR2.out.bx.cell 0 (v := .int .i64 c.conn) rfl; have k1 := PR2.out.bx.cell 1 (v := .int .i64 c.need) rfl; have k2 := PR2.out.bx.cell 2 (v := .slice (some ⟨gA, 0, none⟩) c.n kA) rfl; have k3 := PR2.out.bx.cell 3 (v := .slice (some ⟨gD, 0, none⟩) c.n mD) rfl; have kz := PR2.out.bx.lt; have kf0 := PR2.out.bx.free 0; have kf1 := PR2.out.bx.free 1; have kf2 := PR2.out.bx.free 2; have kf3 := PR2.out.bx.free 3; have o0 := OB2.out.cell 0 (v := .int .i64 0) rfl; have o1 := OB2.out.cell 1 (v := .int .i64 nn) rfl; have o2 := OB2.out.cell 2 (v := .int .i64 m1) rfl; have o3 := OB2.out.cell 3 (v := .int .i64 m2) rfl; have o4 := OB2.out.cell 4 (v := .int .i64 m3) rfl; have oz := OB2.out.lt; clear hu hp2 hr2 hkp) | (go_at_call 25; refine (HOP1.out.cr _ PR2.out.ref).mono ?_; rintro e w3 hu; obtain ⟨gA3, kA3, gD3, mD3, v3, rfl, hp3, hr3, hb3⟩ := PR2.out.ref_ hu; have PR3 := Kept.mk hp3; have R3 := Kept.mk hr3; have R23 := Kept.mk (R2.out.new_ hb3); have OB3 := Kept.mk (OB2.out.new_ hb3); clear k0 k1 k2 k3 kz kf0 kf1 kf2 kf3; clear o0 o1 o2 o3 o4 oz; have k0 := PR3.out.bx.cell 0 (v := .int .i64 c.conn) rfl; have k1 := PR3.out.bx.cell 1 (v := .int .i64 c.need) rfl; have k2 := PR3.out.bx.cell 2 (v := .slice (some ⟨gA, 0, none⟩) c.n kA) rfl; have k3 := PR3.out.bx.cell 3 (v := .slice (some ⟨gD, 0, none⟩) c.n mD) rfl; have kz := PR3.out.bx.lt; have kf0 := PR3.out.bx.free 0; have kf1 := PR3.out.bx.free 1; have kf2 := PR3.out.bx.free 2; have kf3 := PR3.out.bx.free 3; clear hu hp3 hr3 hb3))
            go_meet
            refine ⟨r.1, gA3, kA3, gD3, mD3, r.2.1, v2, v3, r.2.2, rfl, rfl, rfl, rfl, ⟨PR3.out.put⟩, ⟨R23.out.put PR3.out⟩, ⟨R3.out.put PR3.out⟩, HOP1.out.ln, ⟨HOP1.out.last⟩, ⟨HOP1.out.al⟩⟩
          · subst hkd
            by_cases h0 : 0 < fly.length
            · obtain ⟨i, hat, hi⟩ := at_of nn h0
              have hwb := wrap_bd nn
              have qq : ((fly.length : Int) == 0) = false := beq_false_of_ne (by omega)
              obtain ⟨bq, offq, eA, -, hbq, hcq⟩ := (own_reads PR1.out.own).spot (by omega) (by omega)
              obtain ⟨q, hq⟩ := get_some hi
              obtain ⟨g1, g2, g3⟩ := mcells_get hq
              have c1 := hcq (i * 3) _ g1
              have c2 := hcq (i * 3 + 1) _ g2
              have c3 := hcq (i * 3 + 2) _ g3
              simp only [← Nat.add_assoc] at c2 c3
              subst eA
              clear hcq g1 g2 g3 hq
              have PRM := Kept.mk (PR1.out.new_ ((Below.refl wb.heap.size wb).alloc (Nat.le_refl _) (.cells #[.int .i64 q.kind, .int .i64 q.conn, .int .i64 q.dest] 38)))
              have OBM := Kept.mk (OB1.out.new_ ((Below.refl wb.heap.size wb).alloc (Nat.le_refl _) (.cells #[.int .i64 q.kind, .int .i64 q.conn, .int .i64 q.dest] 38)))
              have MB := Kept.mk (Blk.new wb 38 #[.int .i64 q.kind, .int .i64 q.conn, .int .i64 q.dest])
              obtain ⟨r, hop⟩ : ∃ r, OpS L c gA kA gD mD 18 26 _ r := ⟨_, op_recv q HLA.out⟩
              have HOP1 := Kept.mk hop
              clear hop h0
              have k0 := PR1.out.bx.cell 0 (v := .int .i64 c.conn) rfl
              have k1 := PR1.out.bx.cell 1 (v := .int .i64 c.need) rfl
              have k2 := PR1.out.bx.cell 2 (v := .slice (some ⟨gA, 0, none⟩) c.n kA) rfl
              have k3 := PR1.out.bx.cell 3 (v := .slice (some ⟨gD, 0, none⟩) c.n mD) rfl
              have kz := PR1.out.bx.lt
              have kf0 := PR1.out.bx.free 0
              have kf1 := PR1.out.bx.free 1
              have kf2 := PR1.out.bx.free 2
              have kf3 := PR1.out.bx.free 3
              have o0 := OB1.out.cell 0 (v := .int .i64 1) rfl
              have o1 := OB1.out.cell 1 (v := .int .i64 nn) rfl
              have o2 := OB1.out.cell 2 (v := .int .i64 m1) rfl
              have o3 := OB1.out.cell 3 (v := .int .i64 m2) rfl
              have o4 := OB1.out.cell 4 (v := .int .i64 m3) rfl
              have oz := OB1.out.lt
              go_wp2_with (first | (go_at_call 18; refine (HOP1.out.cp _ PRM.out.ch).mono ?_; rintro e w2 hu; obtain ⟨v2, rfl, hp2, hr2, hkp⟩ := PRM.out.prog hu; have PR2 := Kept.mk hp2; have R2 := Kept.mk hr2; have OB2 := Kept.mk (hkp _ _ _ OBM.out (by decide)); have MB2 := Kept.mk (hkp _ _ _ MB.out (by decide)); have m0 := MB2.out.cell 0 (v := .int .i64 q.kind) rfl; have m1x := MB2.out.cell 1 (v := .int .i64 q.conn) rfl; have m2x := MB2.out.cell 2 (v := .int .i64 q.dest) rfl; have mz := MB2.out.lt; clear k0 k1 k2 k3 kz kf0 kf1 kf2 kf3; clear o0 o1 o2 o3 o4 oz; have k0 := PR2.out.bx.cell 0 (v := .int .i64 c.conn) rfl; have k1 := PR2.out.bx.cell 1 (v := .int .i64 c.need) rfl; have k2 := PR2.out.bx.cell 2 (v := .slice (some ⟨gA, 0, none⟩) c.n kA) rfl; have k3 := PR2.out.bx.cell 3 (v := .slice (some ⟨gD, 0, none⟩) c.n mD) rfl; have kz := PR2.out.bx.lt; have kf0 := PR2.out.bx.free 0; have kf1 := PR2.out.bx.free 1; have kf2 := PR2.out.bx.free 2; have kf3 := PR2.out.bx.free 3; have o0 := OB2.out.cell 0 (v := .int .i64 1) rfl; have o1 := OB2.out.cell 1 (v := .int .i64 nn) rfl; have o2 := OB2.out.cell 2 (v := .int .i64 m1) rfl; have o3 := OB2.out.cell 3 (v := .int .i64 m2) rfl; have o4 := OB2.out.cell 4 (v := .int .i64 m3) rfl; have oz := OB2.out.lt; clear hu hp2 hr2 hkp) | (go_at_call 26; refine (HOP1.out.cr _ PR2.out.ref).mono ?_; rintro e w3 hu; obtain ⟨gA3, kA3, gD3, mD3, v3, rfl, hp3, hr3, hb3⟩ := PR2.out.ref_ hu; have PR3 := Kept.mk hp3; have R3 := Kept.mk hr3; have R23 := Kept.mk (R2.out.new_ hb3); have OB3 := Kept.mk (OB2.out.new_ hb3); clear k0 k1 k2 k3 kz kf0 kf1 kf2 kf3; clear o0 o1 o2 o3 o4 oz; clear m0 m1x m2x mz; have k0 := PR3.out.bx.cell 0 (v := .int .i64 c.conn) rfl; have k1 := PR3.out.bx.cell 1 (v := .int .i64 c.need) rfl; have k2 := PR3.out.bx.cell 2 (v := .slice (some ⟨gA, 0, none⟩) c.n kA) rfl; have k3 := PR3.out.bx.cell 3 (v := .slice (some ⟨gD, 0, none⟩) c.n mD) rfl; have kz := PR3.out.bx.lt; have kf0 := PR3.out.bx.free 0; have kf1 := PR3.out.bx.free 1; have kf2 := PR3.out.bx.free 2; have kf3 := PR3.out.bx.free 3; clear hu hp3 hr3 hb3))
              go_meet
              refine ⟨r.1, gA3, kA3, gD3, mD3, r.2.1, v2, v3, r.2.2, rfl, rfl, rfl, rfl, ⟨PR3.out.put⟩, ⟨R23.out.put PR3.out⟩, ⟨R3.out.put PR3.out⟩, HOP1.out.ln, ⟨HOP1.out.last⟩, ⟨HOP1.out.al⟩⟩
            · have qq : ((fly.length : Int) == 0) = true := by rw [show (fly.length : Int) = 0 by omega]; rfl
              have k0 := PR1.out.bx.cell 0 (v := .int .i64 c.conn) rfl
              have k1 := PR1.out.bx.cell 1 (v := .int .i64 c.need) rfl
              have k2 := PR1.out.bx.cell 2 (v := .slice (some ⟨gA, 0, none⟩) c.n kA) rfl
              have k3 := PR1.out.bx.cell 3 (v := .slice (some ⟨gD, 0, none⟩) c.n mD) rfl
              have kz := PR1.out.bx.lt
              have kf0 := PR1.out.bx.free 0
              have kf1 := PR1.out.bx.free 1
              have kf2 := PR1.out.bx.free 2
              have kf3 := PR1.out.bx.free 3
              have o0 := OB1.out.cell 0 (v := .int .i64 1) rfl
              have o1 := OB1.out.cell 1 (v := .int .i64 nn) rfl
              have o2 := OB1.out.cell 2 (v := .int .i64 m1) rfl
              have o3 := OB1.out.cell 3 (v := .int .i64 m2) rfl
              have o4 := OB1.out.cell 4 (v := .int .i64 m3) rfl
              have oz := OB1.out.lt
              go_wp2_with fail
              go_roundw
              case rel => exact ⟨k + 1, c, gA, kA, gD, mD, fly, by omega, by go_num, PR1, HLA, HCN, by omega⟩
              case measure => simp [intOf]; omega
          · subst hkd
            by_cases h0 : 0 < fly.length
            · obtain ⟨i, hat, hi⟩ := at_of nn h0
              have hwb := wrap_bd nn
              have qq : ((fly.length : Int) == 0) = false := beq_false_of_ne (by omega)
              obtain ⟨bq, offq, eA, -, hbq, hcq⟩ := (own_reads PR1.out.own).spot (by omega) (by omega)
              obtain ⟨q, hq⟩ := get_some hi
              obtain ⟨g1, g2, g3⟩ := mcells_get hq
              have c1 := hcq (i * 3) _ g1
              have c2 := hcq (i * 3 + 1) _ g2
              have c3 := hcq (i * 3 + 2) _ g3
              simp only [← Nat.add_assoc] at c2 c3
              subst eA
              clear hcq g1 g2 g3 hq
              have PRM := Kept.mk (PR1.out.new_ ((Below.refl wb.heap.size wb).alloc (Nat.le_refl _) (.cells #[.int .i64 q.kind, .int .i64 q.conn, .int .i64 q.dest] 38)))
              have OBM := Kept.mk (OB1.out.new_ ((Below.refl wb.heap.size wb).alloc (Nat.le_refl _) (.cells #[.int .i64 q.kind, .int .i64 q.conn, .int .i64 q.dest] 38)))
              have MB := Kept.mk (Blk.new wb 38 #[.int .i64 q.kind, .int .i64 q.conn, .int .i64 q.dest])
              obtain ⟨r, hop⟩ : ∃ r, OpS L c gA kA gD mD 18 26 _ r := ⟨_, op_recv q HLA.out⟩
              have HOP1 := Kept.mk hop
              clear hop h0
              have k0 := PR1.out.bx.cell 0 (v := .int .i64 c.conn) rfl
              have k1 := PR1.out.bx.cell 1 (v := .int .i64 c.need) rfl
              have k2 := PR1.out.bx.cell 2 (v := .slice (some ⟨gA, 0, none⟩) c.n kA) rfl
              have k3 := PR1.out.bx.cell 3 (v := .slice (some ⟨gD, 0, none⟩) c.n mD) rfl
              have kz := PR1.out.bx.lt
              have kf0 := PR1.out.bx.free 0
              have kf1 := PR1.out.bx.free 1
              have kf2 := PR1.out.bx.free 2
              have kf3 := PR1.out.bx.free 3
              have o0 := OB1.out.cell 0 (v := .int .i64 2) rfl
              have o1 := OB1.out.cell 1 (v := .int .i64 nn) rfl
              have o2 := OB1.out.cell 2 (v := .int .i64 m1) rfl
              have o3 := OB1.out.cell 3 (v := .int .i64 m2) rfl
              have o4 := OB1.out.cell 4 (v := .int .i64 m3) rfl
              have oz := OB1.out.lt
              go_wp2_with (first | (go_at_call 18; refine (HOP1.out.cp _ PRM.out.ch).mono ?_; rintro e w2 hu; obtain ⟨v2, rfl, hp2, hr2, hkp⟩ := PRM.out.prog hu; have PR2 := Kept.mk hp2; have R2 := Kept.mk hr2; have OB2 := Kept.mk (hkp _ _ _ OBM.out (by decide)); have MB2 := Kept.mk (hkp _ _ _ MB.out (by decide)); have m0 := MB2.out.cell 0 (v := .int .i64 q.kind) rfl; have m1x := MB2.out.cell 1 (v := .int .i64 q.conn) rfl; have m2x := MB2.out.cell 2 (v := .int .i64 q.dest) rfl; have mz := MB2.out.lt; clear k0 k1 k2 k3 kz kf0 kf1 kf2 kf3; clear o0 o1 o2 o3 o4 oz; have k0 := PR2.out.bx.cell 0 (v := .int .i64 c.conn) rfl; have k1 := PR2.out.bx.cell 1 (v := .int .i64 c.need) rfl; have k2 := PR2.out.bx.cell 2 (v := .slice (some ⟨gA, 0, none⟩) c.n kA) rfl; have k3 := PR2.out.bx.cell 3 (v := .slice (some ⟨gD, 0, none⟩) c.n mD) rfl; have kz := PR2.out.bx.lt; have kf0 := PR2.out.bx.free 0; have kf1 := PR2.out.bx.free 1; have kf2 := PR2.out.bx.free 2; have kf3 := PR2.out.bx.free 3; have o0 := OB2.out.cell 0 (v := .int .i64 2) rfl; have o1 := OB2.out.cell 1 (v := .int .i64 nn) rfl; have o2 := OB2.out.cell 2 (v := .int .i64 m1) rfl; have o3 := OB2.out.cell 3 (v := .int .i64 m2) rfl; have o4 := OB2.out.cell 4 (v := .int .i64 m3) rfl; have oz := OB2.out.lt; clear hu hp2 hr2 hkp) | (go_at_call 26; refine (HOP1.out.cr _ PR2.out.ref).mono ?_; rintro e w3 hu; obtain ⟨gA3, kA3, gD3, mD3, v3, rfl, hp3, hr3, hb3⟩ := PR2.out.ref_ hu; have PR3 := Kept.mk hp3; have R3 := Kept.mk hr3; have R23 := Kept.mk (R2.out.new_ hb3); have OB3 := Kept.mk (OB2.out.new_ hb3); clear k0 k1 k2 k3 kz kf0 kf1 kf2 kf3; clear o0 o1 o2 o3 o4 oz; clear m0 m1x m2x mz; have k0 := PR3.out.bx.cell 0 (v := .int .i64 c.conn) rfl; have k1 := PR3.out.bx.cell 1 (v := .int .i64 c.need) rfl; have k2 := PR3.out.bx.cell 2 (v := .slice (some ⟨gA, 0, none⟩) c.n kA) rfl; have k3 := PR3.out.bx.cell 3 (v := .slice (some ⟨gD, 0, none⟩) c.n mD) rfl; have kz := PR3.out.bx.lt; have kf0 := PR3.out.bx.free 0; have kf1 := PR3.out.bx.free 1; have kf2 := PR3.out.bx.free 2; have kf3 := PR3.out.bx.free 3; clear hu hp3 hr3 hb3))
              go_meet
              refine ⟨r.1, gA3, kA3, gD3, mD3, r.2.1, v2, v3, r.2.2, rfl, rfl, rfl, rfl, ⟨PR3.out.put⟩, ⟨R23.out.put PR3.out⟩, ⟨R3.out.put PR3.out⟩, HOP1.out.ln, ⟨HOP1.out.last⟩, ⟨HOP1.out.al⟩⟩
            · have qq : ((fly.length : Int) == 0) = true := by rw [show (fly.length : Int) = 0 by omega]; rfl
              have k0 := PR1.out.bx.cell 0 (v := .int .i64 c.conn) rfl
              have k1 := PR1.out.bx.cell 1 (v := .int .i64 c.need) rfl
              have k2 := PR1.out.bx.cell 2 (v := .slice (some ⟨gA, 0, none⟩) c.n kA) rfl
              have k3 := PR1.out.bx.cell 3 (v := .slice (some ⟨gD, 0, none⟩) c.n mD) rfl
              have kz := PR1.out.bx.lt
              have kf0 := PR1.out.bx.free 0
              have kf1 := PR1.out.bx.free 1
              have kf2 := PR1.out.bx.free 2
              have kf3 := PR1.out.bx.free 3
              have o0 := OB1.out.cell 0 (v := .int .i64 2) rfl
              have o1 := OB1.out.cell 1 (v := .int .i64 nn) rfl
              have o2 := OB1.out.cell 2 (v := .int .i64 m1) rfl
              have o3 := OB1.out.cell 3 (v := .int .i64 m2) rfl
              have o4 := OB1.out.cell 4 (v := .int .i64 m3) rfl
              have oz := OB1.out.lt
              go_wp2_with fail
              go_roundw
              case rel => exact ⟨k + 1, c, gA, kA, gD, mD, fly, by omega, by go_num, PR1, HLA, HCN, by omega⟩
              case measure => simp [intOf]; omega
          · subst hkd
            obtain ⟨r, hop⟩ : ∃ r, OpS L c gA kA gD mD 21 27 _ r := ⟨_, op_stop HLA.out HOK.out⟩
            have HOP1 := Kept.mk hop
            clear hop
            have k0 := PR1.out.bx.cell 0 (v := .int .i64 c.conn) rfl
            have k1 := PR1.out.bx.cell 1 (v := .int .i64 c.need) rfl
            have k2 := PR1.out.bx.cell 2 (v := .slice (some ⟨gA, 0, none⟩) c.n kA) rfl
            have k3 := PR1.out.bx.cell 3 (v := .slice (some ⟨gD, 0, none⟩) c.n mD) rfl
            have kz := PR1.out.bx.lt
            have kf0 := PR1.out.bx.free 0
            have kf1 := PR1.out.bx.free 1
            have kf2 := PR1.out.bx.free 2
            have kf3 := PR1.out.bx.free 3
            have o0 := OB1.out.cell 0 (v := .int .i64 4) rfl
            have o1 := OB1.out.cell 1 (v := .int .i64 nn) rfl
            have o2 := OB1.out.cell 2 (v := .int .i64 m1) rfl
            have o3 := OB1.out.cell 3 (v := .int .i64 m2) rfl
            have o4 := OB1.out.cell 4 (v := .int .i64 m3) rfl
            have oz := OB1.out.lt
            go_wp2_with (first | (go_at_call 21; refine (HOP1.out.cp _ PR1.out.ch).mono ?_; rintro e w2 hu; obtain ⟨v2, rfl, hp2, hr2, hkp⟩ := PR1.out.prog hu; have PR2 := Kept.mk hp2; have R2 := Kept.mk hr2; have OB2 := Kept.mk (hkp _ _ _ OB1.out (by decide)); clear k0 k1 k2 k3 kz kf0 kf1 kf2 kf3; clear o0 o1 o2 o3 o4 oz; have k0 := PR2.out.bx.cell 0 (v := .int .i64 c.conn) rfl; have k1 := PR2.out.bx.cell 1 (v := .int .i64 c.need) rfl; have k2 := PR2.out.bx.cell 2 (v := .slice (some ⟨gA, 0, none⟩) c.n kA) rfl; have k3 := PR2.out.bx.cell 3 (v := .slice (some ⟨gD, 0, none⟩) c.n mD) rfl; have kz := PR2.out.bx.lt; have kf0 := PR2.out.bx.free 0; have kf1 := PR2.out.bx.free 1; have kf2 := PR2.out.bx.free 2; have kf3 := PR2.out.bx.free 3; have o0 := OB2.out.cell 0 (v := .int .i64 4) rfl; have o1 := OB2.out.cell 1 (v := .int .i64 nn) rfl; have o2 := OB2.out.cell 2 (v := .int .i64 m1) rfl; have o3 := OB2.out.cell 3 (v := .int .i64 m2) rfl; have o4 := OB2.out.cell 4 (v := .int .i64 m3) rfl; have oz := OB2.out.lt; clear hu hp2 hr2 hkp) | (go_at_call 27; refine (HOP1.out.cr _ PR2.out.ref).mono ?_; rintro e w3 hu; obtain ⟨gA3, kA3, gD3, mD3, v3, rfl, hp3, hr3, hb3⟩ := PR2.out.ref_ hu; have PR3 := Kept.mk hp3; have R3 := Kept.mk hr3; have R23 := Kept.mk (R2.out.new_ hb3); have OB3 := Kept.mk (OB2.out.new_ hb3); clear k0 k1 k2 k3 kz kf0 kf1 kf2 kf3; clear o0 o1 o2 o3 o4 oz; have k0 := PR3.out.bx.cell 0 (v := .int .i64 c.conn) rfl; have k1 := PR3.out.bx.cell 1 (v := .int .i64 c.need) rfl; have k2 := PR3.out.bx.cell 2 (v := .slice (some ⟨gA, 0, none⟩) c.n kA) rfl; have k3 := PR3.out.bx.cell 3 (v := .slice (some ⟨gD, 0, none⟩) c.n mD) rfl; have kz := PR3.out.bx.lt; have kf0 := PR3.out.bx.free 0; have kf1 := PR3.out.bx.free 1; have kf2 := PR3.out.bx.free 2; have kf3 := PR3.out.bx.free 3; clear hu hp3 hr3 hb3))
            go_meet
            refine ⟨r.1, gA3, kA3, gD3, mD3, r.2.1, v2, v3, r.2.2, rfl, rfl, rfl, rfl, ⟨PR3.out.put⟩, ⟨R23.out.put PR3.out⟩, ⟨R3.out.put PR3.out⟩, HOP1.out.ln, ⟨HOP1.out.last⟩, ⟨HOP1.out.al⟩⟩
          · subst hkd
            have k0 := PR1.out.bx.cell 0 (v := .int .i64 c.conn) rfl
            have k1 := PR1.out.bx.cell 1 (v := .int .i64 c.need) rfl
            have k2 := PR1.out.bx.cell 2 (v := .slice (some ⟨gA, 0, none⟩) c.n kA) rfl
            have k3 := PR1.out.bx.cell 3 (v := .slice (some ⟨gD, 0, none⟩) c.n mD) rfl
            have kz := PR1.out.bx.lt
            have kf0 := PR1.out.bx.free 0
            have kf1 := PR1.out.bx.free 1
            have kf2 := PR1.out.bx.free 2
            have kf3 := PR1.out.bx.free 3
            have o0 := OB1.out.cell 0 (v := .int .i64 5) rfl
            have o1 := OB1.out.cell 1 (v := .int .i64 nn) rfl
            have o2 := OB1.out.cell 2 (v := .int .i64 m1) rfl
            have o3 := OB1.out.cell 3 (v := .int .i64 m2) rfl
            have o4 := OB1.out.cell 4 (v := .int .i64 m3) rfl
            have oz := OB1.out.lt
            go_upto_region 28 with fail
            refine wp_region_held_drew (S := fun w' => w'.cell? ⟨bs, 0, none⟩ = some (.int .i64 c.conn) ∧ w'.cell? ⟨bs, 1, none⟩ = some (.int .i64 c.need) ∧ w'.cell? ⟨bs, 2, none⟩ = some (.slice (some ⟨gA, 0, none⟩) c.n kA) ∧ w'.cell? ⟨bs, 3, none⟩ = some (.slice (some ⟨gD, 0, none⟩) c.n mD)) (by kernel_rfl) (by (try dsimp only); (first | exact run_keep PR3.out | exact run_keep PR2.out | exact run_keep PR1.out | exact run_keep (PR1.out.new_ (dN (Below.refl _ _) 1)))) (fun hHeld => ?_)
            refine wpAnyH_take (i := 0) (v := ?_) rfl (by kernel_rfl) (by kernel_rfl) (by kernel_rfl) (fun _ _ _ h => h) (Or.inl ⟨by rfl, ?_⟩) (by assumption) ?_; rotate_left; (intro w hSw; (try dsimp only at hSw); go_simp; try (with_reducible rfl)); try simp only [Act.put, List.setIfInBounds_toArray, List.set_cons_zero, List.set_cons_succ, List.getElem_toArray, List.getElem_cons_succ, List.getElem_cons_zero]
            refine wpAnyH_take (i := 2) (v := ?_) rfl (by kernel_rfl) (by kernel_rfl) (by kernel_rfl) (fun _ _ _ h => h) (Or.inl ⟨by rfl, ?_⟩) (by assumption) ?_; rotate_left; (intro w hSw; (try dsimp only at hSw); go_simp; try (with_reducible rfl)); try simp only [Act.put, List.setIfInBounds_toArray, List.set_cons_zero, List.set_cons_succ, List.getElem_toArray, List.getElem_cons_succ, List.getElem_cons_zero]
            refine wpAnyH_ready (rs := [1]) (by kernel_rfl) (by simp) ?_; refine AllReadyH.cons rfl (fun K hK => ?_) AllReadyH.nil; go_simp
            refine (rep_c c _ L (PR1.out.new_ (dN (Below.refl _ _) 1)).ch).mono ?_; rintro e w2 ⟨v2, rfl, hr2, hb2⟩; have R2 := Kept.mk (ownsRow_base (B' := B2) hr2 (PR1.out.new_ (dN (Below.refl _ _) 1)).big); have PR2 := Kept.mk ((PR1.out.new_ (dN (Below.refl _ _) 1)).new_ hb2); have OB2 := Kept.mk ((OB1.out.new_ (dN (Below.refl _ _) 1)).new_ hb2); clear hr2 hb2
            try go_wp2_with fail
            refine hK.out _ _ (by (try dsimp only); (first | exact run_keep PR3.out | exact run_keep PR2.out | exact run_keep PR1.out | exact run_keep (PR1.out.new_ (dN (Below.refl _ _) 1)))) (fun hHeld => ?_); clear hK K; try simp only [Act.put, List.setIfInBounds_toArray, List.set_cons_zero, List.set_cons_succ, List.getElem_toArray, List.getElem_cons_succ, List.getElem_cons_zero]
            refine wpAnyH_ready (rs := [3]) (by kernel_rfl) (by simp) ?_; refine AllReadyH.cons rfl (fun K hK => ?_) AllReadyH.nil; go_simp
            refine (rrep_c PR2.out.ref HLA.out).mono ?_; rintro e w3 ⟨v3, rfl, hr3, hb3⟩; have R3 := Kept.mk (ownsRow_base (B' := B2) hr3 PR2.out.big); have R23 := Kept.mk (own_new R2.out hb3); have PR3 := Kept.mk (PR2.out.new_ hb3); have OB3 := Kept.mk (OB2.out.new_ hb3); clear hr3 hb3
            try go_wp2_with fail
            refine hK.out _ _ (by (try dsimp only); (first | exact run_keep PR3.out | exact run_keep PR2.out | exact run_keep PR1.out | exact run_keep (PR1.out.new_ (dN (Below.refl _ _) 1)))) (fun hHeld => ?_); clear hK K; try simp only [Act.put, List.setIfInBounds_toArray, List.set_cons_zero, List.set_cons_succ, List.getElem_toArray, List.getElem_cons_succ, List.getElem_cons_zero]
            refine wpAnyH_take (i := 4) (v := ?_) rfl (by kernel_rfl) (by kernel_rfl) (by kernel_rfl) (fun _ _ _ h => h) (Or.inl ⟨by rfl, ?_⟩) (by assumption) ?_; rotate_left; (intro w hSw; (try dsimp only at hSw); go_simp; try (with_reducible rfl)); try simp only [Act.put, List.setIfInBounds_toArray, List.set_cons_zero, List.set_cons_succ, List.getElem_toArray, List.getElem_cons_succ, List.getElem_cons_zero]
            refine wpAnyH_take (i := 5) (v := ?_) rfl (by kernel_rfl) (by kernel_rfl) (by kernel_rfl) (fun _ _ _ h => h) (Or.inl ⟨by rfl, ?_⟩) (by assumption) ?_; rotate_left; (intro w hSw; (try dsimp only at hSw); go_simp; try (with_reducible rfl)); try simp only [Act.put, List.setIfInBounds_toArray, List.set_cons_zero, List.set_cons_succ, List.getElem_toArray, List.getElem_cons_succ, List.getElem_cons_zero]
            refine wpAnyH_done (by kernel_rfl) ?_ _
            go_wp2_with fail
            go_meet
            refine ⟨c, gA, kA, gD, mD, repP c, v2, v3, 0, rfl, rfl, rfl, rfl, PR3, R23, R3, ?_, HLA, ⟨rfl⟩⟩
            have h9 := repN_le c c.n
            unfold repP
            omega
          · subst hkd
            obtain ⟨r, hop⟩ : ∃ r, OpS L c gA kA gD mD 18 26 _ r := ⟨_, op_recv ⟨m1, m2, m3⟩ HLA.out⟩
            have HOP1 := Kept.mk hop
            clear hop
            have k0 := PR1.out.bx.cell 0 (v := .int .i64 c.conn) rfl
            have k1 := PR1.out.bx.cell 1 (v := .int .i64 c.need) rfl
            have k2 := PR1.out.bx.cell 2 (v := .slice (some ⟨gA, 0, none⟩) c.n kA) rfl
            have k3 := PR1.out.bx.cell 3 (v := .slice (some ⟨gD, 0, none⟩) c.n mD) rfl
            have kz := PR1.out.bx.lt
            have kf0 := PR1.out.bx.free 0
            have kf1 := PR1.out.bx.free 1
            have kf2 := PR1.out.bx.free 2
            have kf3 := PR1.out.bx.free 3
            have o0 := OB1.out.cell 0 (v := .int .i64 6) rfl
            have o1 := OB1.out.cell 1 (v := .int .i64 nn) rfl
            have o2 := OB1.out.cell 2 (v := .int .i64 m1) rfl
            have o3 := OB1.out.cell 3 (v := .int .i64 m2) rfl
            have o4 := OB1.out.cell 4 (v := .int .i64 m3) rfl
            have oz := OB1.out.lt
            go_wp2_with (first | (go_at_call 18; refine (HOP1.out.cp _ PR1.out.ch).mono ?_; rintro e w2 hu; obtain ⟨v2, rfl, hp2, hr2, hkp⟩ := PR1.out.prog hu; have PR2 := Kept.mk hp2; have R2 := Kept.mk hr2; have OB2 := Kept.mk (hkp _ _ _ OB1.out (by decide)); clear k0 k1 k2 k3 kz kf0 kf1 kf2 kf3; clear o0 o1 o2 o3 o4 oz; have k0 := PR2.out.bx.cell 0 (v := .int .i64 c.conn) rfl; have k1 := PR2.out.bx.cell 1 (v := .int .i64 c.need) rfl; have k2 := PR2.out.bx.cell 2 (v := .slice (some ⟨gA, 0, none⟩) c.n kA) rfl; have k3 := PR2.out.bx.cell 3 (v := .slice (some ⟨gD, 0, none⟩) c.n mD) rfl; have kz := PR2.out.bx.lt; have kf0 := PR2.out.bx.free 0; have kf1 := PR2.out.bx.free 1; have kf2 := PR2.out.bx.free 2; have kf3 := PR2.out.bx.free 3; have o0 := OB2.out.cell 0 (v := .int .i64 6) rfl; have o1 := OB2.out.cell 1 (v := .int .i64 nn) rfl; have o2 := OB2.out.cell 2 (v := .int .i64 m1) rfl; have o3 := OB2.out.cell 3 (v := .int .i64 m2) rfl; have o4 := OB2.out.cell 4 (v := .int .i64 m3) rfl; have oz := OB2.out.lt; clear hu hp2 hr2 hkp) | (go_at_call 26; refine (HOP1.out.cr _ PR2.out.ref).mono ?_; rintro e w3 hu; obtain ⟨gA3, kA3, gD3, mD3, v3, rfl, hp3, hr3, hb3⟩ := PR2.out.ref_ hu; have PR3 := Kept.mk hp3; have R3 := Kept.mk hr3; have R23 := Kept.mk (R2.out.new_ hb3); have OB3 := Kept.mk (OB2.out.new_ hb3); clear k0 k1 k2 k3 kz kf0 kf1 kf2 kf3; clear o0 o1 o2 o3 o4 oz; have k0 := PR3.out.bx.cell 0 (v := .int .i64 c.conn) rfl; have k1 := PR3.out.bx.cell 1 (v := .int .i64 c.need) rfl; have k2 := PR3.out.bx.cell 2 (v := .slice (some ⟨gA, 0, none⟩) c.n kA) rfl; have k3 := PR3.out.bx.cell 3 (v := .slice (some ⟨gD, 0, none⟩) c.n mD) rfl; have kz := PR3.out.bx.lt; have kf0 := PR3.out.bx.free 0; have kf1 := PR3.out.bx.free 1; have kf2 := PR3.out.bx.free 2; have kf3 := PR3.out.bx.free 3; clear hu hp3 hr3 hb3))
            go_meet
            refine ⟨r.1, gA3, kA3, gD3, mD3, r.2.1, v2, v3, r.2.2, rfl, rfl, rfl, rfl, ⟨PR3.out.put⟩, ⟨R23.out.put PR3.out⟩, ⟨R3.out.put PR3.out⟩, HOP1.out.ln, ⟨HOP1.out.last⟩, ⟨HOP1.out.al⟩⟩
          · have q0 : (kind == 0) = false := by simp; omega
            have q1 : (kind == 1) = false := by simp; omega
            have q2 : (kind == 2) = false := by simp; omega
            have q4 : (kind == 4) = false := by simp; omega
            have q5 : (kind == 5) = false := by simp; omega
            have q6 : (kind == 6) = false := by simp; omega
            have k0 := PR1.out.bx.cell 0 (v := .int .i64 c.conn) rfl
            have k1 := PR1.out.bx.cell 1 (v := .int .i64 c.need) rfl
            have k2 := PR1.out.bx.cell 2 (v := .slice (some ⟨gA, 0, none⟩) c.n kA) rfl
            have k3 := PR1.out.bx.cell 3 (v := .slice (some ⟨gD, 0, none⟩) c.n mD) rfl
            have kz := PR1.out.bx.lt
            have kf0 := PR1.out.bx.free 0
            have kf1 := PR1.out.bx.free 1
            have kf2 := PR1.out.bx.free 2
            have kf3 := PR1.out.bx.free 3
            have o0 := OB1.out.cell 0 (v := .int .i64 kind) rfl
            have o1 := OB1.out.cell 1 (v := .int .i64 nn) rfl
            have o2 := OB1.out.cell 2 (v := .int .i64 m1) rfl
            have o3 := OB1.out.cell 3 (v := .int .i64 m2) rfl
            have o4 := OB1.out.cell 4 (v := .int .i64 m3) rfl
            have oz := OB1.out.lt
            go_wp2_with fail
            go_meet
            exact ⟨c, gA, kA, gD, mD, [], .slice none 0 0, .slice none 0 0, 0, rfl, rfl, rfl, rfl, PR1, ⟨World.ownsRow_nil _ _ _ _⟩, ⟨World.ownsRow_nil _ _ _ _⟩, by simp, HLA, ⟨rfl⟩⟩
        case rest =>
          obtain ⟨c2, gA2, kA2, gD2, mD2, ms, v2, v3, z, rfl, rfl, rfl, rfl, HRW, HR2, HR3, hms, HLA2, HCN2⟩ := hcut
          obtain ⟨A2, k2, rfl⟩ := own_slice HR2.out
          obtain ⟨A3, k3, rfl⟩ := own_slice HR3.out
          clear PR1 OB1
          go_wp2_with (go_at_call 29; refine (same_t ms A2 A3 k2 k3 _ (own_reads HR2.out) (own_reads HR3.out) (by omega)).mono ?_; rintro e w4 ⟨rfl, hb4⟩; have HRW4 := Kept.mk (HRW.out.new_ hb4); have HR24 := Kept.mk (own_new HR2.out hb4); clear hb4)
          go_loopw [143] (fun v143 wd => ∃ j : Nat, j ≤ l.length ∧ v143 = .int .i64 j ∧ Kept (Below w4.heap.size w4 wd)) (fun v143 _ => l.length - (intOf v143).toNat)
          case atStart => exact ⟨0, by omega, rfl, ⟨Below.refl _ _⟩⟩
          case round =>
            obtain ⟨j, hj, rfl, HD⟩ := hrel
            have PJ := Kept.mk (HRW4.out.new_ HD.out)
            by_cases hjl : j < l.length
            · have hjn : j < c2.n := by rw [HCN2.out, HCN.out]; exact hjl
              obtain ⟨sj, hsj⟩ : ∃ sj, c2.st j = sj := ⟨_, rfl⟩
              obtain ⟨lj, hlj⟩ : ∃ lj, leftP c2 j = lj := ⟨_, rfl⟩
              have HSJ := Kept.mk hsj
              have HLF := Kept.mk hlj
              have HST : Kept (stateP c2 j = sj) := ⟨by rw [state_at' hjn, hsj]⟩
              have zD := PJ.out.ref.zD
              have zB := PJ.out.bx.lt
              have hj0 : (0 : Int) ≤ j := by omega
              have hj1 : (j : Int) < c2.n := by omega
              clear hsj hlj
              go_upto_region 37 with fail
              refine wp_region_held_drew (S := fun w' => w'.cell? ⟨bs, 0, none⟩ = some (.int .i64 c2.conn) ∧ w'.cell? ⟨bs, 1, none⟩ = some (.int .i64 c2.need) ∧ w'.cell? ⟨bs, 2, none⟩ = some (.slice (some ⟨gA2, 0, none⟩) c2.n kA2) ∧ w'.cell? ⟨bs, 3, none⟩ = some (.slice (some ⟨gD2, 0, none⟩) c2.n mD2) ∧ w'.cell? ⟨gD2, j, none⟩ = some (.int .i64 sj)) (by kernel_rfl) (by (try dsimp only); (first | exact run_keep2 PJ3.out hjn HSJ.out | exact run_keep2 PJ2.out hjn HSJ.out | exact run_keep2 PJ1.out hjn HSJ.out | exact run_keep2 PJ.out hjn HSJ.out | exact run_keep2 (PJ.out.new_ (dN (Below.refl _ _) 1)) hjn HSJ.out)) (fun hHeld => ?_)
              refine wpAnyH_take (i := 0) (v := ?_) rfl (by kernel_rfl) (by kernel_rfl) (by kernel_rfl) (fun _ _ _ h => h) (Or.inl ⟨by rfl, ?_⟩) (by assumption) ?_; rotate_left; (intro w hSw; (try dsimp only at hSw); go_simp; try (with_reducible rfl)); try simp only [Act.put, List.setIfInBounds_toArray, List.set_cons_zero, List.set_cons_succ, List.getElem_toArray, List.getElem_cons_succ, List.getElem_cons_zero]
              refine wpAnyH_take (i := 1) (v := ?_) rfl (by kernel_rfl) (by kernel_rfl) (by kernel_rfl) (fun _ _ _ h => h) (Or.inl ⟨by rfl, ?_⟩) (by assumption) ?_; rotate_left; (intro w hSw; (try dsimp only at hSw); go_simp; try (with_reducible rfl)); try simp only [Act.put, List.setIfInBounds_toArray, List.set_cons_zero, List.set_cons_succ, List.getElem_toArray, List.getElem_cons_succ, List.getElem_cons_zero]
              refine wpAnyH_take (i := 3) (v := ?_) rfl (by kernel_rfl) (by kernel_rfl) (by kernel_rfl) (fun _ _ _ h => h) (Or.inl ⟨by rfl, ?_⟩) (by assumption) ?_; rotate_left; (intro w hSw; (try dsimp only at hSw); go_simp; try (with_reducible rfl)); try simp only [Act.put, List.setIfInBounds_toArray, List.set_cons_zero, List.set_cons_succ, List.getElem_toArray, List.getElem_cons_succ, List.getElem_cons_zero]
              refine wpAnyH_take (i := 4) (v := ?_) rfl (by kernel_rfl) (by kernel_rfl) (by kernel_rfl) (fun _ _ _ h => h) (Or.inl ⟨by rfl, ?_⟩) (by assumption) ?_; rotate_left; (intro w hSw; (try dsimp only at hSw); go_simp; try (with_reducible rfl)); try simp only [Act.put, List.setIfInBounds_toArray, List.set_cons_zero, List.set_cons_succ, List.getElem_toArray, List.getElem_cons_succ, List.getElem_cons_zero]
              refine wpAnyH_take (i := 5) (v := ?_) rfl (by kernel_rfl) (by kernel_rfl) (by kernel_rfl) (fun _ _ _ h => h) (Or.inl ⟨by rfl, ?_⟩) (by assumption) ?_; rotate_left; (intro w hSw; (try dsimp only at hSw); go_simp; try (with_reducible rfl)); try simp only [Act.put, List.setIfInBounds_toArray, List.set_cons_zero, List.set_cons_succ, List.getElem_toArray, List.getElem_cons_succ, List.getElem_cons_zero]
              refine wpAnyH_take (i := 6) (v := ?_) rfl (by kernel_rfl) (by kernel_rfl) (by kernel_rfl) (fun _ _ _ h => h) (Or.inl ⟨by rfl, ?_⟩) (by assumption) ?_; rotate_left; (intro w hSw; (try dsimp only at hSw); go_simp; try (with_reducible rfl)); try simp only [Act.put, List.setIfInBounds_toArray, List.set_cons_zero, List.set_cons_succ, List.getElem_toArray, List.getElem_cons_succ, List.getElem_cons_zero]
              refine wpAnyH_take (i := 7) (v := ?_) rfl (by kernel_rfl) (by kernel_rfl) (by kernel_rfl) (fun _ _ _ h => h) (Or.inl ⟨by rfl, ?_⟩) (by assumption) ?_; rotate_left; (intro w hSw; (try dsimp only at hSw); go_simp; try (with_reducible rfl)); try simp only [Act.put, List.setIfInBounds_toArray, List.set_cons_zero, List.set_cons_succ, List.getElem_toArray, List.getElem_cons_succ, List.getElem_cons_zero]
              refine wpAnyH_ready (rs := [2]) (by kernel_rfl) (by simp) ?_; refine AllReadyH.cons rfl (fun K hK => ?_) AllReadyH.nil; go_simp
              refine (state_c c2 j _ L (PJ.out.new_ (dN (Below.refl _ _) 1)).ch).mono ?_; rintro e w5 ⟨rfl, hw⟩; rw [HST.out]; have PJ1 := Kept.mk (hw ▸ (PJ.out.new_ (dN (Below.refl _ _) 1))); have HW5 := Kept.mk (hw ▸ dN (Below.refl wr.heap.size wr) 1 : Below wr.heap.size wr w5); clear hw
              try go_wp2_with fail
              refine hK.out _ _ (by (try dsimp only); (first | exact run_keep2 PJ3.out hjn HSJ.out | exact run_keep2 PJ2.out hjn HSJ.out | exact run_keep2 PJ1.out hjn HSJ.out | exact run_keep2 PJ.out hjn HSJ.out | exact run_keep2 (PJ.out.new_ (dN (Below.refl _ _) 1)) hjn HSJ.out)) (fun hHeld => ?_); clear hK K; try simp only [Act.put, List.setIfInBounds_toArray, List.set_cons_zero, List.set_cons_succ, List.getElem_toArray, List.getElem_cons_succ, List.getElem_cons_zero]
              refine wpAnyH_take (i := 8) (v := ?_) rfl (by kernel_rfl) (by kernel_rfl) (by kernel_rfl) (fun _ _ _ h => h) (Or.inl ⟨by rfl, ?_⟩) (by assumption) ?_; rotate_left; (intro w hSw; (try dsimp only at hSw); go_simp; try (with_reducible rfl)); try simp only [Act.put, List.setIfInBounds_toArray, List.set_cons_zero, List.set_cons_succ, List.getElem_toArray, List.getElem_cons_succ, List.getElem_cons_zero]
              refine wpAnyH_take (i := 9) (v := ?_) rfl (by kernel_rfl) (by kernel_rfl) (by kernel_rfl) (fun _ _ _ h => h) (Or.inl ⟨by rfl, ?_⟩) (by assumption) ?_; rotate_left; (intro w hSw; (try dsimp only at hSw); go_simp; try (with_reducible rfl)); try simp only [Act.put, List.setIfInBounds_toArray, List.set_cons_zero, List.set_cons_succ, List.getElem_toArray, List.getElem_cons_succ, List.getElem_cons_zero]
              refine wpAnyH_take (i := 10) (v := ?_) rfl (by kernel_rfl) (by kernel_rfl) (by kernel_rfl) (fun _ _ _ h => h) (Or.inl ⟨by rfl, ?_⟩) (by assumption) ?_; rotate_left; (intro w hSw; (try dsimp only at hSw); go_simp; try (with_reducible rfl)); try simp only [Act.put, List.setIfInBounds_toArray, List.set_cons_zero, List.set_cons_succ, List.getElem_toArray, List.getElem_cons_succ, List.getElem_cons_zero]
              refine wpAnyH_take (i := 11) (v := ?_) rfl (by kernel_rfl) (by kernel_rfl) (by kernel_rfl) (fun _ _ _ h => h) (Or.inl ⟨by rfl, ?_⟩) (by assumption) ?_; rotate_left; (intro w hSw; (try dsimp only at hSw); go_simp; try (with_reducible rfl)); try simp only [Act.put, List.setIfInBounds_toArray, List.set_cons_zero, List.set_cons_succ, List.getElem_toArray, List.getElem_cons_succ, List.getElem_cons_zero]
              refine wpAnyH_take (i := 13) (v := ?_) rfl (by kernel_rfl) (by kernel_rfl) (by kernel_rfl) (fun _ _ _ h => h) (Or.inl ⟨by rfl, ?_⟩) (by assumption) ?_; rotate_left; (intro w hSw; (try dsimp only at hSw); go_simp; try (with_reducible rfl)); try simp only [Act.put, List.setIfInBounds_toArray, List.set_cons_zero, List.set_cons_succ, List.getElem_toArray, List.getElem_cons_succ, List.getElem_cons_zero]
              refine wpAnyH_take (i := 14) (v := ?_) rfl (by kernel_rfl) (by kernel_rfl) (by kernel_rfl) (fun _ _ _ h => h) (Or.inl ⟨by rfl, ?_⟩) (by assumption) ?_; rotate_left; (intro w hSw; (try dsimp only at hSw); go_simp; try (with_reducible rfl)); try simp only [Act.put, List.setIfInBounds_toArray, List.set_cons_zero, List.set_cons_succ, List.getElem_toArray, List.getElem_cons_succ, List.getElem_cons_zero]
              refine wpAnyH_ready (rs := [12]) (by kernel_rfl) (by simp) ?_; refine AllReadyH.cons rfl (fun K hK => ?_) AllReadyH.nil; go_simp
              refine (left_c c2 j _ L PJ1.out.ch).mono ?_; rintro e w6 ⟨rfl, nf, hw⟩; rw [HLF.out]; have PJ2 := Kept.mk (PJ1.out.new_ (hw ▸ dN (Below.refl _ _) nf)); have HWN := Kept.mk (hw ▸ dN (HW5.out) nf : Below wr.heap.size wr w6); clear hw
              try go_wp2_with fail
              refine hK.out _ _ (by (try dsimp only); (first | exact run_keep2 PJ3.out hjn HSJ.out | exact run_keep2 PJ2.out hjn HSJ.out | exact run_keep2 PJ1.out hjn HSJ.out | exact run_keep2 PJ.out hjn HSJ.out | exact run_keep2 (PJ.out.new_ (dN (Below.refl _ _) 1)) hjn HSJ.out)) (fun hHeld => ?_); clear hK K; try simp only [Act.put, List.setIfInBounds_toArray, List.set_cons_zero, List.set_cons_succ, List.getElem_toArray, List.getElem_cons_succ, List.getElem_cons_zero]
              refine wpAnyH_ready (rs := [15]) (by kernel_rfl) (by simp) ?_; refine AllReadyH.cons rfl (fun K hK => ?_) AllReadyH.nil; go_simp
              refine (rleft_c (j : Int) PJ2.out.ref).mono ?_; rintro e w7 ⟨rfl, hb7⟩; rw [HLF.out]; have PJ3 := Kept.mk (PJ2.out.new_ hb7); have PJB := Kept.mk (join (join HD.out HWN.out) hb7); clear hb7
              try go_wp2_with fail
              refine hK.out _ _ (by (try dsimp only); (first | exact run_keep2 PJ3.out hjn HSJ.out | exact run_keep2 PJ2.out hjn HSJ.out | exact run_keep2 PJ1.out hjn HSJ.out | exact run_keep2 PJ.out hjn HSJ.out | exact run_keep2 (PJ.out.new_ (dN (Below.refl _ _) 1)) hjn HSJ.out)) (fun hHeld => ?_); clear hK K; try simp only [Act.put, List.setIfInBounds_toArray, List.set_cons_zero, List.set_cons_succ, List.getElem_toArray, List.getElem_cons_succ, List.getElem_cons_zero]
              refine wpAnyH_take (i := 16) (v := ?_) rfl (by kernel_rfl) (by kernel_rfl) (by kernel_rfl) (fun _ _ _ h => h) (Or.inl ⟨by rfl, ?_⟩) (by assumption) ?_; rotate_left; (intro w hSw; (try dsimp only at hSw); go_simp; try (with_reducible rfl)); try simp only [Act.put, List.setIfInBounds_toArray, List.set_cons_zero, List.set_cons_succ, List.getElem_toArray, List.getElem_cons_succ, List.getElem_cons_zero]
              refine wpAnyH_take (i := 17) (v := ?_) rfl (by kernel_rfl) (by kernel_rfl) (by kernel_rfl) (fun _ _ _ h => h) (Or.inl ⟨by rfl, ?_⟩) (by assumption) ?_; rotate_left; (intro w hSw; (try dsimp only at hSw); go_simp; try (with_reducible rfl)); try simp only [Act.put, List.setIfInBounds_toArray, List.set_cons_zero, List.set_cons_succ, List.getElem_toArray, List.getElem_cons_succ, List.getElem_cons_zero]
              refine wpAnyH_done (by kernel_rfl) ?_ _
              go_wp2_with fail
              go_roundw
              case rel => exact ⟨j + 1, by omega, by go_num, ⟨PJB.out⟩⟩
              case measure => simp [intOf]; omega
            · obtain rfl : j = l.length := by omega
              go_wp2_with (at_builtin; refine wpList_append_any _ rfl _ _ _ rfl B2 38 i0 _ 3 24 Try.underlying30 hi0 hz0 hz1 hz2 rfl (by omega) _ fly.length _ rfl PJ.out.own _ A2 ms.length k2 _ rfl (own_reads (own_new HR24.out HD.out)) mcells_one (by unfold maxLen; omega) (by omega) PJ.out.big ?_; intro v' w9 ho hgw hat; have HN := Kept.mk (PJ.out.app ho hgw); clear ho hgw hat)
              go_roundw
              case rel => exact ⟨k + 1, c2, gA2, kA2, gD2, mD2, fly ++ ms, by omega, by go_num, HN, HLA2, ⟨by rw [HCN2.out, HCN.out]⟩, by rw [List.length_append]; omega⟩
              case measure => simp [intOf]; omega
      · obtain rfl : k = len2 := by omega
        go_wp2_with fail
        go_ret
        exact ⟨rfl, HT.out.below⟩

set_option maxRecDepth 100000 in
theorem liftedSetupRuns (os : Os) (started : os.Started) (H : Type) (enc : TypeId × Value → H) :
    ReturnsInHanded {} Try.checked os 7 .any (Rows.setupRunsSpec.pre6 enc Try.prog Try.f7 Rows.setupRunsRow.domain false) (Rows.setupRunsSpec.post enc Try.prog Try.f7 false true false false) := by
  refine returnsInHanded_of_change (C := Try.checked) own started (by kernel_rfl) Try.func7
    (ChangeSpec.witness6 (enc := enc) (C := Try.checked) false ⟨#[], #[.slice none 0 0, .int .u8 0, .slice none 0 0], []⟩ 8 (by kernel_rfl) (by kernel_rfl) (by kernel_rfl) (by kernel_rfl)) ?_
  intro W base args ds gs before hval0 hW hcnd _
  have hval : ∀ (j : Nat) t v, Try.f7.params[j]? = some t → args[j]? = some v → Value.okWide Try.prog W .any base t v := hval0
  have hW' := hW
  obtain ⟨p, q, hA0, hV, rfl, hfz, hnd⟩ := hW
  have hA : DataW.TrodAll enc Try.prog W 0 (fun _ => true) true Try.f7.params.toList args.toList ds p := hA0
  rw [Try.params7] at hA hval
  obtain ⟨v0, vs0, d0, ds0, p0, q0, hargs, rfl, rfl, h0, r0⟩ := trodAll_cons hA
  obtain ⟨v1, vs1, d1, ds1, p1, q1, rfl, rfl, rfl, h1, r1⟩ := trodAll_cons r0
  obtain ⟨v2, vs2, d2, ds2, p2, q2, rfl, rfl, rfl, h2, r2⟩ := trodAll_cons r1
  obtain ⟨rfl, rfl, rfl⟩ := trodAll_nil r2
  obtain rfl : args = #[v0, v1, v2] := by cases args; simp_all
  obtain ⟨rfl, rfl⟩ := trodVars_none hV
  have k0 := h0
  have lt0 : ∀ x ∈ p0, x.block < W.heap.size := by obtain ⟨m, hm⟩ := k0; exact DataW.trod_lt m _ _ _ hm
  have k1 := h1
  have lt1 : ∀ x ∈ p1, x.block < W.heap.size := by obtain ⟨m, hm⟩ := k1; exact DataW.trod_lt m _ _ _ hm
  have k2 := h2
  have lt2 : ∀ x ∈ p2, x.block < W.heap.size := by obtain ⟨m, hm⟩ := k2; exact DataW.trod_lt m _ _ _ hm
  obtain ⟨a0, len0, cap0, rfl⟩ := okWide_slice Try.underlying32 (hval 0 32 v0 rfl rfl)
  have w0 : IsRows W 1 IsByte a0 len0 cap0 := open_rows Try.underlying32 (show Try.prog.cellsOf 5 = 1 by kernel_rfl) (by decide) isByte h0
  obtain ⟨a1, rfl, -, -, w1⟩ := open_int Try.underlying5 (hval 1 5 v1 rfl rfl) h1
  obtain ⟨a2, len2, cap2, rfl⟩ := okWide_slice Try.underlying44 (hval 2 44 v2 rfl rfl)
  have w2 : IsRows W 5 IsOp a2 len2 cap2 := open_rows Try.underlying44 (show Try.prog.cellsOf 46 = 5 by kernel_rfl) (by decide) isOp h2
  clear hA0 hval0
  refine (walkSetupRuns a0 len0 cap0 a1 a2 len2 cap2 W w0 w1 w2).mono fun e W' ⟨he, bel⟩ => ?_
  subst he
  exact ⟨_, rfl, _, _, _, [], _, [], hW', trodAll_mk1 (shut_bool Try.underlying4 _), (trodAll_cons_mk (Below.trod laidOut (by kernel_rfl) (of_decide_eq_true (by kernel_rfl)) k0 bel lt0) (trodAll_cons_mk (Below.trod laidOut (by kernel_rfl) (of_decide_eq_true (by kernel_rfl)) k1 bel lt1) (trodAll_cons_mk (Below.trod laidOut (by kernel_rfl) (of_decide_eq_true (by kernel_rfl)) k2 bel lt2) trodAll_mk0))), rfl, bel.frame _, fun h => by cases h⟩
/-- The given statement. -/
theorem setupRuns_holds : Rows.SetupRunsSaid :=
  OpenClaim.holds_of_wide 7 Try.f7 rfl rfl rfl rfl rfl rfl rfl ⟨rfl, rfl, rfl, rfl, rfl⟩ rfl rfl rfl rfl rfl (by kernel_rfl) Try.func7 (by kernel_rfl)
    (of_decide_eq_true (by kernel_rfl)) (by unfold Func.isWrapper; first | (rw [if_pos (by decide +kernel)]; kernel_rfl) | (rw [if_neg (by decide +kernel)]; exact ⟨rfl, rfl⟩))
    (fun os started H enc _ => liftedSetupRuns os started H enc)
#print axioms setupRuns_holds
end Go.Proofs.Ytnmgnggchgckoaa
