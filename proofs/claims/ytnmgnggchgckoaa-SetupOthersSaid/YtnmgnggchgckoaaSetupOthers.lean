/- For all rooms, operations and messages the statement SetupOthers returns true: messages about other connections change nothing. No condition. -/
import Derived.Test.YtnmgnggchgckoaaBase
import Derived.Test.YtnmgnggchgckoaaOps
namespace Go.Proofs.Ytnmgnggchgckoaa
open Go.ChangeShapes Go.WideShapes Go.ChangeAt Go.RowKit
set_option linter.unusedVariables false
set_option linter.unusedSimpArgs false
theorem recv_bad {c : Ch} {m : Msg} {x : Int} (h : (m.kind < 1 ∨ 5 < m.kind) ∧ x = 16 ∨ (¬(m.kind < 1 ∨ 5 < m.kind) ∧ m.conn ≠ c.conn ∧ x = 7) ∨ (¬(m.kind < 1 ∨ 5 < m.kind) ∧ m.conn = c.conn ∧ (c.hasB m.dest && c.hasB (fromP m)) = false ∧ x = 2)) : recvP c m = (c, [], x) := by
  unfold recvP
  rcases h with ⟨h1, rfl⟩ | ⟨h1, h2, rfl⟩ | ⟨h1, h2, h3, rfl⟩
  · rw [if_pos h1]
  · rw [if_neg h1, if_pos h2]
  · rw [if_neg h1, if_neg (by simp [h2]), if_neg (by simp [h3])]
theorem box_cells {w W0 wr : World} {k n d : Int} (hb : Below W0.heap.size W0 wr) (h : Blk W0 w.heap.size 38 #[.int .i64 k, .int .i64 n, .int .i64 d]) :
    wr.cell? ⟨w.heap.size, 0, none⟩ = some (.int .i64 k) ∧ wr.cell? ⟨w.heap.size, 1, none⟩ = some (.int .i64 n) ∧ wr.cell? ⟨w.heap.size, 2, none⟩ = some (.int .i64 d) ∧ w.heap.size < wr.heap.size :=
  ⟨(h.new_ hb).cell 0 rfl, (h.new_ hb).cell 1 rfl, (h.new_ hb).cell 2 rfl, (h.new_ hb).lt⟩
set_option maxRecDepth 100000 in
set_option maxHeartbeats 8000000 in
theorem walkSetupOthers (a0 : Option Addr) (len0 cap0 : Nat) (a1 : Int) (a2 : Option Addr) (len2 cap2 : Nat) (a3_0 a3_1 a3_2 : Int) (w : World) (w0 : IsRows w 1 IsByte a0 len0 cap0) (w1 : (Lit.int .u8 a1).wf = true) (w2 : IsRows w 5 IsOp a2 len2 cap2) (w3_0 : (Lit.int .i64 a3_0).wf = true) (w3_1 : (Lit.int .i64 a3_1).wf = true) (w3_2 : (Lit.int .i64 a3_2).wf = true) :
    Calls Try.prog 6 #[.slice a0 len0 cap0, .int .u8 a1, .slice a2 len2 cap2, .agg #[.int .i64 a3_0, .int .i64 a3_1, .int .i64 a3_2]] w fun e w' => e = .returned (.bool true) ∧ Below w.heap.size w w' := by
  obtain ⟨n0, n1⟩ := bounds_u8 w1
  have hmax0 := w0.2.1
  have hcap0 := w0.1
  obtain ⟨hcap, hmax, hrow⟩ := w2
  unfold maxLen at hmax hmax0
  obtain ⟨bs, rfl, hbs, hr⟩ := rows_bytes w0
  have HR := Kept.mk hr
  have HBS := Kept.mk hbs
  have HROW := Kept.mk hrow
  clear w0 w1 hr hbs hrow w3_0 w3_1 w3_2
  have HBX := Kept.mk (Blk.new w 38 #[.int .i64 a3_0, .int .i64 a3_1, .int .i64 a3_2])
  have HW0 : Kept (Below w.heap.size w (w.alloc (.cells #[.int .i64 a3_0, .int .i64 a3_1, .int .i64 a3_2] 38))) := ⟨(Below.refl _ _).alloc (Nat.le_refl _) _⟩
  by_cases hl : 120 < len2 ∨ 16 < bs.length
  · have hl2 : 120 < len2 ∨ (¬ 120 < len2 ∧ 16 < bs.length) := by omega
    clear hl
    rcases hl2 with hl | ⟨hl, hl3⟩
    all_goals
      go_enter Try.func6, Try.ntmps6
      go_wp2_with fail
      refine (awake_c _).mono ?_
      rintro e wa ⟨rfl, hba⟩
      have HBA := Kept.mk (join HW0.out hba)
      clear hba
      go_wp2_with fail
      refine (awake_c _).mono ?_
      rintro e wb ⟨rfl, hbb⟩
      have HBB := Kept.mk (join HBA.out hbb)
      clear hbb
      go_wp2_with fail
      go_ret
      exact ⟨rfl, HBB.out⟩
  · have hl1 : len2 ≤ 120 := by omega
    have hl3 : bs.length ≤ 16 := by omega
    clear hl
    have HF := Kept.mk (chainL_fits (bs := bs) n0)
    have hll : (chainL bs).length ≤ 8 := by rw [chainL_len]; omega
    have hll1 : 1 ≤ (chainL bs).length := by rw [chainL_len]; omega
    have hnd0 : 1 ≤ 1 + a1 % 4 := by omega
    have hnd1 : 1 + a1 % 4 ≤ 4 := by omega
    go_enter Try.func6, Try.ntmps6
    go_wp2_with fail
    obtain ⟨W0, hW0⟩ : ∃ W0, W0 = w.alloc (.cells #[.int .i64 a3_0, .int .i64 a3_1, .int .i64 a3_2] 38) := ⟨_, rfl⟩
    rw [← hW0] at HBX HW0 ⊢
    clear hW0
    refine (awake_c _).mono ?_
    rintro e wa ⟨rfl, hba⟩
    have HBA := Kept.mk hba
    have HRa := Kept.mk ((HR.out.below HW0.out).below (hba.mono HW0.out.size))
    have hza := Nat.le_trans HW0.out.size hba.size
    clear hba
    go_wp2_with fail
    refine (chain_c bs a0 cap0 a1 _ (HRa.out.more hza) HBS.out n0 n1 (by omega)).mono ?_
    rintro e wb ⟨L, A, kap, B, rfl, hch⟩
    have HT0 : Kept (OpW W0 L A B wb.heap.size (chainL bs) (1 + a1 % 4) (start0 5 (chainL bs) (1 + a1 % 4)) [] (.slice none 0 0) wb) := ⟨(opW_start HF.out hch).rebase HBA.out⟩
    have hlow := HT0.out.low
    clear hch
    generalize start0 5 (chainL bs) (1 + a1 % 4) = c0 at *
    generalize chainL bs = l at *
    generalize 1 + a1 % 4 = need at *
    generalize wb.heap.size = B2 at *
    go_wp2_with fail
    go_loopw [12, 44] (fun v12 v44 wr => ∃ (k : Nat) (c : Ch) (fly : List Msg), k ≤ len2 ∧ v44 = .int .i64 k ∧ Kept (OpW W0 L A B B2 l need c fly v12 wr)) (fun _ v44 _ => len2 - (intOf v44).toNat)
    case atStart => exact ⟨0, c0, [], by omega, rfl, HT0⟩
    case round =>
      obtain ⟨k, c, fly, hk, rfl, HT⟩ := hrel
      clear HT0
      by_cases hlt : k < len2
      · obtain ⟨bb, off, rfl, hbb, hel⟩ := HROW.out (by omega)
        obtain ⟨cs, ⟨kind, nn, m1, m2, m3, rfl⟩, hcell⟩ := hel k hlt
        have hbl := join HW0.out HT.out.below
        have hsz := hbl.size
        have g0 := (hbl.cell (p := ⟨bb, off + k * 5 + 0, none⟩) hbb).trans (hcell 0 _ rfl)
        have g1 := (hbl.cell (p := ⟨bb, off + k * 5 + 1, none⟩) hbb).trans (hcell 1 _ rfl)
        have g2 := (hbl.cell (p := ⟨bb, off + k * 5 + 2, none⟩) hbb).trans (hcell 2 _ rfl)
        have g3 := (hbl.cell (p := ⟨bb, off + k * 5 + 3, none⟩) hbb).trans (hcell 3 _ rfl)
        have g4 := (hbl.cell (p := ⟨bb, off + k * 5 + 4, none⟩) hbb).trans (hcell 4 _ rfl)
        rw [Nat.add_zero] at g0
        have HTA := Kept.mk (HT.out.new_ ((Below.refl _ _).alloc (Nat.le_refl _) (.cells #[.int .i64 kind, .int .i64 nn, .int .i64 m1, .int .i64 m2, .int .i64 m3] 46)))
        clear hbl hel hcell
        rcases bool_int kind 6 with ⟨q1, q2⟩ | ⟨q1, q2⟩
        · obtain rfl : kind = 6 := by simpa using q1
          clear q1 q2
          go_wp2_with fail
          go_roundw
          case rel => exact ⟨k + 1, c, fly, by omega, by go_num, HTA⟩
          case measure => simp [intOf]; omega
        · obtain ⟨AF, kf, rfl⟩ := own_slice HT.out.own
          go_wp2_with fail
          refine (step_c c fly AF kf kind nn m1 m2 m3 _ L B2 HTA.out.ch HTA.out.own HTA.out.big HTA.out.low (by have := HTA.out.len; omega)).mono ?_
          rintro e ws ⟨i, v', hi, rfl, ho, hc, hO⟩
          have HTS := Kept.mk (opW_step HTA.out hi ho hc hO)
          clear hi ho hc hO HTA HT g0 g1 g2 g3 g4
          generalize (stepAt c fly kind i).1 = c2 at *
          generalize (stepAt c fly kind i).2 = fly2 at *
          go_wp2_with fail
          go_roundw
          case rel => exact ⟨k + 1, c2, fly2, by omega, by go_num, HTS⟩
          case measure => simp [intOf]; omega
      · obtain rfl : k = len2 := by omega
        clear hlt
        have hcn : c.n = l.length := HT.out.n
        have hcc := HT.out.conn
        have HHB : Kept (∀ d : Int, c.hasB d = (decide (0 ≤ d) && decide (d < l.length))) := ⟨fun d => by unfold Ch.hasB; rw [hcn]⟩
        have HCC := Kept.mk hcc
        have hrpl : (repP c).length ≤ 100 := repP_len HT.out.inv.ok
        clear hcn hcc
        by_cases hk1 : a3_0 < 1
        · have q1 : (a3_0 == 1) = false := by simp; omega
          have q4 : (a3_0 == 4) = false := by simp; omega
          have HBAD : Kept (recvP c ⟨a3_0, a3_1, a3_2⟩ = (c, [], 16)) := ⟨recv_bad (.inl ⟨.inl hk1, rfl⟩)⟩
          go_wp2_with fail
          refine (rep_c c _ L HT.out.ch).mono ?_
          rintro e w1 ⟨v1, rfl, ho1, hb1⟩
          obtain ⟨A1, k1, rfl⟩ := own_slice ho1
          have HO1 := Kept.mk ho1
          have HT1 := Kept.mk (HT.out.new_ hb1)
          obtain ⟨b0, b1, b2, b3⟩ := box_cells HT1.out.below HBX.out
          clear ho1 hb1
          go_wp2_with fail
          refine (recv_c c ⟨a3_0, a3_1, a3_2⟩ _ L HT1.out.ch).mono ?_
          rw [HBAD.out]
          rintro e w2 ⟨v2, rfl, ho2, hc2, hO2⟩
          obtain ⟨A2, k2, rfl⟩ := own_slice ho2
          have HC2 := Kept.mk hc2
          have hs1 := HT.out.ch.row.lt
          have HO12 := Kept.mk (own_only HO1.out hO2 (by rintro g rfl; exact hs1))
          have HL2 := Kept.mk (HT1.out.below.trans (hO2.below (B := W0.heap.size) (by rintro g rfl; exact Nat.le_trans HT1.out.base HT1.out.lowS) HT1.out.below.size))
          clear ho2 hc2 hO2
          go_wp2_with fail
          refine (rep_c c _ L HC2.out).mono ?_
          rintro e w3 ⟨v3, rfl, ho3, hb3⟩
          obtain ⟨A3, k3, rfl⟩ := own_slice ho3
          have HR3 := Kept.mk (own_reads ho3)
          have HR1 := Kept.mk (own_reads (own_new HO12.out hb3))
          have HL3 := Kept.mk (join HL2.out hb3)
          clear ho3 hb3
          go_wp2_with fail
          refine (eqm_c (repP c) (repP c) A3 A1 k3 k1 _ _ _ HR3.out HR1.out (by omega) (by omega)).mono ?_
          rintro e w4 ⟨rfl, hD⟩
          have HL4 := Kept.mk (HL3.out.trans (hD.below.mono HL3.out.size))
          clear hD
          rw [decide_eq_true (show repP c = repP c from rfl)]
          go_wp2_with fail
          go_ret
          exact ⟨rfl, join HW0.out HL4.out⟩
        by_cases hk5 : 5 < a3_0
        · have q1 : (a3_0 == 1) = false := by simp; omega
          have q4 : (a3_0 == 4) = false := by simp; omega
          have HBAD : Kept (recvP c ⟨a3_0, a3_1, a3_2⟩ = (c, [], 16)) := ⟨recv_bad (.inl ⟨.inr hk5, rfl⟩)⟩
          go_wp2_with fail
          refine (rep_c c _ L HT.out.ch).mono ?_
          rintro e w1 ⟨v1, rfl, ho1, hb1⟩
          obtain ⟨A1, k1, rfl⟩ := own_slice ho1
          have HO1 := Kept.mk ho1
          have HT1 := Kept.mk (HT.out.new_ hb1)
          obtain ⟨b0, b1, b2, b3⟩ := box_cells HT1.out.below HBX.out
          clear ho1 hb1
          go_wp2_with fail
          refine (recv_c c ⟨a3_0, a3_1, a3_2⟩ _ L HT1.out.ch).mono ?_
          rw [HBAD.out]
          rintro e w2 ⟨v2, rfl, ho2, hc2, hO2⟩
          obtain ⟨A2, k2, rfl⟩ := own_slice ho2
          have HC2 := Kept.mk hc2
          have hs1 := HT.out.ch.row.lt
          have HO12 := Kept.mk (own_only HO1.out hO2 (by rintro g rfl; exact hs1))
          have HL2 := Kept.mk (HT1.out.below.trans (hO2.below (B := W0.heap.size) (by rintro g rfl; exact Nat.le_trans HT1.out.base HT1.out.lowS) HT1.out.below.size))
          clear ho2 hc2 hO2
          go_wp2_with fail
          refine (rep_c c _ L HC2.out).mono ?_
          rintro e w3 ⟨v3, rfl, ho3, hb3⟩
          obtain ⟨A3, k3, rfl⟩ := own_slice ho3
          have HR3 := Kept.mk (own_reads ho3)
          have HR1 := Kept.mk (own_reads (own_new HO12.out hb3))
          have HL3 := Kept.mk (join HL2.out hb3)
          clear ho3 hb3
          go_wp2_with fail
          refine (eqm_c (repP c) (repP c) A3 A1 k3 k1 _ _ _ HR3.out HR1.out (by omega) (by omega)).mono ?_
          rintro e w4 ⟨rfl, hD⟩
          have HL4 := Kept.mk (HL3.out.trans (hD.below.mono HL3.out.size))
          clear hD
          rw [decide_eq_true (show repP c = repP c from rfl)]
          go_wp2_with fail
          go_ret
          exact ⟨rfl, join HW0.out HL4.out⟩
        by_cases e1 : a3_0 = 1
        · subst e1
          clear hk1 hk5
          rcases bool_int a3_1 5 with ⟨hc1, hc2⟩ | ⟨hc1, hc2⟩
          · by_cases hd0 : a3_2 < 0
            · have HBAD : Kept (recvP c ⟨1, a3_1, a3_2⟩ = (c, [], 2)) := ⟨recv_bad (.inr (.inr ⟨by simp, by rw [HCC.out]; simpa using hc1, by rw [HHB.out]; simp only [fromP]; rw [show wayP 1 = true from rfl]; simp only [if_true, if_false, Bool.false_eq_true]; rw [HHB.out, Bool.eq_false_iff]; simp; omega, rfl⟩))⟩
              clear hc1
              go_wp2_with fail
              refine (rep_c c _ L HT.out.ch).mono ?_
              rintro e w1 ⟨v1, rfl, ho1, hb1⟩
              obtain ⟨A1, k1, rfl⟩ := own_slice ho1
              have HO1 := Kept.mk ho1
              have HT1 := Kept.mk (HT.out.new_ hb1)
              obtain ⟨b0, b1, b2, b3⟩ := box_cells HT1.out.below HBX.out
              clear ho1 hb1
              go_wp2_with fail
              refine (recv_c c ⟨1, a3_1, a3_2⟩ _ L HT1.out.ch).mono ?_
              rw [HBAD.out]
              rintro e w2 ⟨v2, rfl, ho2, hc2, hO2⟩
              obtain ⟨A2, k2, rfl⟩ := own_slice ho2
              have HC2 := Kept.mk hc2
              have hs1 := HT.out.ch.row.lt
              have HO12 := Kept.mk (own_only HO1.out hO2 (by rintro g rfl; exact hs1))
              have HL2 := Kept.mk (HT1.out.below.trans (hO2.below (B := W0.heap.size) (by rintro g rfl; exact Nat.le_trans HT1.out.base HT1.out.lowS) HT1.out.below.size))
              clear ho2 hc2 hO2
              go_wp2_with fail
              refine (rep_c c _ L HC2.out).mono ?_
              rintro e w3 ⟨v3, rfl, ho3, hb3⟩
              obtain ⟨A3, k3, rfl⟩ := own_slice ho3
              have HR3 := Kept.mk (own_reads ho3)
              have HR1 := Kept.mk (own_reads (own_new HO12.out hb3))
              have HL3 := Kept.mk (join HL2.out hb3)
              clear ho3 hb3
              go_wp2_with fail
              refine (eqm_c (repP c) (repP c) A3 A1 k3 k1 _ _ _ HR3.out HR1.out (by omega) (by omega)).mono ?_
              rintro e w4 ⟨rfl, hD⟩
              have HL4 := Kept.mk (HL3.out.trans (hD.below.mono HL3.out.size))
              clear hD
              rw [decide_eq_true (show repP c = repP c from rfl)]
              go_wp2_with fail
              go_ret
              exact ⟨rfl, join HW0.out HL4.out⟩
            · by_cases hd1 : (l.length : Int) ≤ a3_2
              · have HBAD : Kept (recvP c ⟨1, a3_1, a3_2⟩ = (c, [], 2)) := ⟨recv_bad (.inr (.inr ⟨by simp, by rw [HCC.out]; simpa using hc1, by rw [HHB.out]; simp only [fromP]; rw [show wayP 1 = true from rfl]; simp only [if_true, if_false, Bool.false_eq_true]; rw [HHB.out, Bool.eq_false_iff]; simp; omega, rfl⟩))⟩
                clear hc1
                go_wp2_with fail
                refine (rep_c c _ L HT.out.ch).mono ?_
                rintro e w1 ⟨v1, rfl, ho1, hb1⟩
                obtain ⟨A1, k1, rfl⟩ := own_slice ho1
                have HO1 := Kept.mk ho1
                have HT1 := Kept.mk (HT.out.new_ hb1)
                obtain ⟨b0, b1, b2, b3⟩ := box_cells HT1.out.below HBX.out
                clear ho1 hb1
                go_wp2_with fail
                refine (recv_c c ⟨1, a3_1, a3_2⟩ _ L HT1.out.ch).mono ?_
                rw [HBAD.out]
                rintro e w2 ⟨v2, rfl, ho2, hc2, hO2⟩
                obtain ⟨A2, k2, rfl⟩ := own_slice ho2
                have HC2 := Kept.mk hc2
                have hs1 := HT.out.ch.row.lt
                have HO12 := Kept.mk (own_only HO1.out hO2 (by rintro g rfl; exact hs1))
                have HL2 := Kept.mk (HT1.out.below.trans (hO2.below (B := W0.heap.size) (by rintro g rfl; exact Nat.le_trans HT1.out.base HT1.out.lowS) HT1.out.below.size))
                clear ho2 hc2 hO2
                go_wp2_with fail
                refine (rep_c c _ L HC2.out).mono ?_
                rintro e w3 ⟨v3, rfl, ho3, hb3⟩
                obtain ⟨A3, k3, rfl⟩ := own_slice ho3
                have HR3 := Kept.mk (own_reads ho3)
                have HR1 := Kept.mk (own_reads (own_new HO12.out hb3))
                have HL3 := Kept.mk (join HL2.out hb3)
                clear ho3 hb3
                go_wp2_with fail
                refine (eqm_c (repP c) (repP c) A3 A1 k3 k1 _ _ _ HR3.out HR1.out (by omega) (by omega)).mono ?_
                rintro e w4 ⟨rfl, hD⟩
                have HL4 := Kept.mk (HL3.out.trans (hD.below.mono HL3.out.size))
                clear hD
                rw [decide_eq_true (show repP c = repP c from rfl)]
                go_wp2_with fail
                go_ret
                exact ⟨rfl, join HW0.out HL4.out⟩
              · by_cases hd2 : a3_2 = 0
                · have HBAD : Kept (recvP c ⟨1, a3_1, a3_2⟩ = (c, [], 2)) := ⟨recv_bad (.inr (.inr ⟨by simp, by rw [HCC.out]; simpa using hc1, by rw [HHB.out]; simp only [fromP]; rw [show wayP 1 = true from rfl]; simp only [if_true, if_false, Bool.false_eq_true]; rw [HHB.out, Bool.eq_false_iff]; simp; omega, rfl⟩))⟩
                  have q9 : (a3_2 == 0) = true := by simpa using hd2
                  clear hc1 hd2
                  go_wp2_with fail
                  refine (rep_c c _ L HT.out.ch).mono ?_
                  rintro e w1 ⟨v1, rfl, ho1, hb1⟩
                  obtain ⟨A1, k1, rfl⟩ := own_slice ho1
                  have HO1 := Kept.mk ho1
                  have HT1 := Kept.mk (HT.out.new_ hb1)
                  obtain ⟨b0, b1, b2, b3⟩ := box_cells HT1.out.below HBX.out
                  clear ho1 hb1
                  go_wp2_with fail
                  refine (recv_c c ⟨1, a3_1, a3_2⟩ _ L HT1.out.ch).mono ?_
                  rw [HBAD.out]
                  rintro e w2 ⟨v2, rfl, ho2, hc2, hO2⟩
                  obtain ⟨A2, k2, rfl⟩ := own_slice ho2
                  have HC2 := Kept.mk hc2
                  have hs1 := HT.out.ch.row.lt
                  have HO12 := Kept.mk (own_only HO1.out hO2 (by rintro g rfl; exact hs1))
                  have HL2 := Kept.mk (HT1.out.below.trans (hO2.below (B := W0.heap.size) (by rintro g rfl; exact Nat.le_trans HT1.out.base HT1.out.lowS) HT1.out.below.size))
                  clear ho2 hc2 hO2
                  go_wp2_with fail
                  refine (rep_c c _ L HC2.out).mono ?_
                  rintro e w3 ⟨v3, rfl, ho3, hb3⟩
                  obtain ⟨A3, k3, rfl⟩ := own_slice ho3
                  have HR3 := Kept.mk (own_reads ho3)
                  have HR1 := Kept.mk (own_reads (own_new HO12.out hb3))
                  have HL3 := Kept.mk (join HL2.out hb3)
                  clear ho3 hb3
                  go_wp2_with fail
                  refine (eqm_c (repP c) (repP c) A3 A1 k3 k1 _ _ _ HR3.out HR1.out (by omega) (by omega)).mono ?_
                  rintro e w4 ⟨rfl, hD⟩
                  have HL4 := Kept.mk (HL3.out.trans (hD.below.mono HL3.out.size))
                  clear hD
                  rw [decide_eq_true (show repP c = repP c from rfl)]
                  go_wp2_with fail
                  go_ret
                  exact ⟨rfl, join HW0.out HL4.out⟩
                · have q9 : (a3_2 == 0) = false := by simpa using hd2
                  clear hc1 hd2
                  go_wp2_with fail
                  refine (rep_c c _ L HT.out.ch).mono ?_
                  rintro e w1 ⟨v1, rfl, ho1, hb1⟩
                  obtain ⟨A1, k1, rfl⟩ := own_slice ho1
                  have HO1 := Kept.mk ho1
                  have HT1 := Kept.mk (HT.out.new_ hb1)
                  obtain ⟨b0, b1, b2, b3⟩ := box_cells HT1.out.below HBX.out
                  clear ho1 hb1
                  go_wp2_with fail
                  go_ret
                  exact ⟨rfl, join HW0.out HT1.out.below⟩
          · have HBAD : Kept (recvP c ⟨1, a3_1, a3_2⟩ = (c, [], 7)) := ⟨recv_bad (.inr (.inl ⟨by simp, by rw [HCC.out]; simpa using hc2, rfl⟩))⟩
            clear hc1
            go_wp2_with fail
            refine (rep_c c _ L HT.out.ch).mono ?_
            rintro e w1 ⟨v1, rfl, ho1, hb1⟩
            obtain ⟨A1, k1, rfl⟩ := own_slice ho1
            have HO1 := Kept.mk ho1
            have HT1 := Kept.mk (HT.out.new_ hb1)
            obtain ⟨b0, b1, b2, b3⟩ := box_cells HT1.out.below HBX.out
            clear ho1 hb1
            go_wp2_with fail
            refine (recv_c c ⟨1, a3_1, a3_2⟩ _ L HT1.out.ch).mono ?_
            rw [HBAD.out]
            rintro e w2 ⟨v2, rfl, ho2, hc2, hO2⟩
            obtain ⟨A2, k2, rfl⟩ := own_slice ho2
            have HC2 := Kept.mk hc2
            have hs1 := HT.out.ch.row.lt
            have HO12 := Kept.mk (own_only HO1.out hO2 (by rintro g rfl; exact hs1))
            have HL2 := Kept.mk (HT1.out.below.trans (hO2.below (B := W0.heap.size) (by rintro g rfl; exact Nat.le_trans HT1.out.base HT1.out.lowS) HT1.out.below.size))
            clear ho2 hc2 hO2
            go_wp2_with fail
            refine (rep_c c _ L HC2.out).mono ?_
            rintro e w3 ⟨v3, rfl, ho3, hb3⟩
            obtain ⟨A3, k3, rfl⟩ := own_slice ho3
            have HR3 := Kept.mk (own_reads ho3)
            have HR1 := Kept.mk (own_reads (own_new HO12.out hb3))
            have HL3 := Kept.mk (join HL2.out hb3)
            clear ho3 hb3
            go_wp2_with fail
            refine (eqm_c (repP c) (repP c) A3 A1 k3 k1 _ _ _ HR3.out HR1.out (by omega) (by omega)).mono ?_
            rintro e w4 ⟨rfl, hD⟩
            have HL4 := Kept.mk (HL3.out.trans (hD.below.mono HL3.out.size))
            clear hD
            rw [decide_eq_true (show repP c = repP c from rfl)]
            go_wp2_with fail
            go_ret
            exact ⟨rfl, join HW0.out HL4.out⟩
        by_cases e4 : a3_0 = 4
        · subst e4
          clear hk1 hk5 e1
          rcases bool_int a3_1 5 with ⟨hc1, hc2⟩ | ⟨hc1, hc2⟩
          · by_cases hd0 : a3_2 < 0
            · have HBAD : Kept (recvP c ⟨4, a3_1, a3_2⟩ = (c, [], 2)) := ⟨recv_bad (.inr (.inr ⟨by simp, by rw [HCC.out]; simpa using hc1, by rw [HHB.out]; simp only [fromP]; rw [show wayP 4 = true from rfl]; simp only [if_true, if_false, Bool.false_eq_true]; rw [HHB.out, Bool.eq_false_iff]; simp; omega, rfl⟩))⟩
              clear hc1
              go_wp2_with fail
              refine (rep_c c _ L HT.out.ch).mono ?_
              rintro e w1 ⟨v1, rfl, ho1, hb1⟩
              obtain ⟨A1, k1, rfl⟩ := own_slice ho1
              have HO1 := Kept.mk ho1
              have HT1 := Kept.mk (HT.out.new_ hb1)
              obtain ⟨b0, b1, b2, b3⟩ := box_cells HT1.out.below HBX.out
              clear ho1 hb1
              go_wp2_with fail
              refine (recv_c c ⟨4, a3_1, a3_2⟩ _ L HT1.out.ch).mono ?_
              rw [HBAD.out]
              rintro e w2 ⟨v2, rfl, ho2, hc2, hO2⟩
              obtain ⟨A2, k2, rfl⟩ := own_slice ho2
              have HC2 := Kept.mk hc2
              have hs1 := HT.out.ch.row.lt
              have HO12 := Kept.mk (own_only HO1.out hO2 (by rintro g rfl; exact hs1))
              have HL2 := Kept.mk (HT1.out.below.trans (hO2.below (B := W0.heap.size) (by rintro g rfl; exact Nat.le_trans HT1.out.base HT1.out.lowS) HT1.out.below.size))
              clear ho2 hc2 hO2
              go_wp2_with fail
              refine (rep_c c _ L HC2.out).mono ?_
              rintro e w3 ⟨v3, rfl, ho3, hb3⟩
              obtain ⟨A3, k3, rfl⟩ := own_slice ho3
              have HR3 := Kept.mk (own_reads ho3)
              have HR1 := Kept.mk (own_reads (own_new HO12.out hb3))
              have HL3 := Kept.mk (join HL2.out hb3)
              clear ho3 hb3
              go_wp2_with fail
              refine (eqm_c (repP c) (repP c) A3 A1 k3 k1 _ _ _ HR3.out HR1.out (by omega) (by omega)).mono ?_
              rintro e w4 ⟨rfl, hD⟩
              have HL4 := Kept.mk (HL3.out.trans (hD.below.mono HL3.out.size))
              clear hD
              rw [decide_eq_true (show repP c = repP c from rfl)]
              go_wp2_with fail
              go_ret
              exact ⟨rfl, join HW0.out HL4.out⟩
            · by_cases hd1 : (l.length : Int) ≤ a3_2
              · have HBAD : Kept (recvP c ⟨4, a3_1, a3_2⟩ = (c, [], 2)) := ⟨recv_bad (.inr (.inr ⟨by simp, by rw [HCC.out]; simpa using hc1, by rw [HHB.out]; simp only [fromP]; rw [show wayP 4 = true from rfl]; simp only [if_true, if_false, Bool.false_eq_true]; rw [HHB.out, Bool.eq_false_iff]; simp; omega, rfl⟩))⟩
                clear hc1
                go_wp2_with fail
                refine (rep_c c _ L HT.out.ch).mono ?_
                rintro e w1 ⟨v1, rfl, ho1, hb1⟩
                obtain ⟨A1, k1, rfl⟩ := own_slice ho1
                have HO1 := Kept.mk ho1
                have HT1 := Kept.mk (HT.out.new_ hb1)
                obtain ⟨b0, b1, b2, b3⟩ := box_cells HT1.out.below HBX.out
                clear ho1 hb1
                go_wp2_with fail
                refine (recv_c c ⟨4, a3_1, a3_2⟩ _ L HT1.out.ch).mono ?_
                rw [HBAD.out]
                rintro e w2 ⟨v2, rfl, ho2, hc2, hO2⟩
                obtain ⟨A2, k2, rfl⟩ := own_slice ho2
                have HC2 := Kept.mk hc2
                have hs1 := HT.out.ch.row.lt
                have HO12 := Kept.mk (own_only HO1.out hO2 (by rintro g rfl; exact hs1))
                have HL2 := Kept.mk (HT1.out.below.trans (hO2.below (B := W0.heap.size) (by rintro g rfl; exact Nat.le_trans HT1.out.base HT1.out.lowS) HT1.out.below.size))
                clear ho2 hc2 hO2
                go_wp2_with fail
                refine (rep_c c _ L HC2.out).mono ?_
                rintro e w3 ⟨v3, rfl, ho3, hb3⟩
                obtain ⟨A3, k3, rfl⟩ := own_slice ho3
                have HR3 := Kept.mk (own_reads ho3)
                have HR1 := Kept.mk (own_reads (own_new HO12.out hb3))
                have HL3 := Kept.mk (join HL2.out hb3)
                clear ho3 hb3
                go_wp2_with fail
                refine (eqm_c (repP c) (repP c) A3 A1 k3 k1 _ _ _ HR3.out HR1.out (by omega) (by omega)).mono ?_
                rintro e w4 ⟨rfl, hD⟩
                have HL4 := Kept.mk (HL3.out.trans (hD.below.mono HL3.out.size))
                clear hD
                rw [decide_eq_true (show repP c = repP c from rfl)]
                go_wp2_with fail
                go_ret
                exact ⟨rfl, join HW0.out HL4.out⟩
              · by_cases hd2 : a3_2 = 0
                · have HBAD : Kept (recvP c ⟨4, a3_1, a3_2⟩ = (c, [], 2)) := ⟨recv_bad (.inr (.inr ⟨by simp, by rw [HCC.out]; simpa using hc1, by rw [HHB.out]; simp only [fromP]; rw [show wayP 4 = true from rfl]; simp only [if_true, if_false, Bool.false_eq_true]; rw [HHB.out, Bool.eq_false_iff]; simp; omega, rfl⟩))⟩
                  have q9 : (a3_2 == 0) = true := by simpa using hd2
                  clear hc1 hd2
                  go_wp2_with fail
                  refine (rep_c c _ L HT.out.ch).mono ?_
                  rintro e w1 ⟨v1, rfl, ho1, hb1⟩
                  obtain ⟨A1, k1, rfl⟩ := own_slice ho1
                  have HO1 := Kept.mk ho1
                  have HT1 := Kept.mk (HT.out.new_ hb1)
                  obtain ⟨b0, b1, b2, b3⟩ := box_cells HT1.out.below HBX.out
                  clear ho1 hb1
                  go_wp2_with fail
                  refine (recv_c c ⟨4, a3_1, a3_2⟩ _ L HT1.out.ch).mono ?_
                  rw [HBAD.out]
                  rintro e w2 ⟨v2, rfl, ho2, hc2, hO2⟩
                  obtain ⟨A2, k2, rfl⟩ := own_slice ho2
                  have HC2 := Kept.mk hc2
                  have hs1 := HT.out.ch.row.lt
                  have HO12 := Kept.mk (own_only HO1.out hO2 (by rintro g rfl; exact hs1))
                  have HL2 := Kept.mk (HT1.out.below.trans (hO2.below (B := W0.heap.size) (by rintro g rfl; exact Nat.le_trans HT1.out.base HT1.out.lowS) HT1.out.below.size))
                  clear ho2 hc2 hO2
                  go_wp2_with fail
                  refine (rep_c c _ L HC2.out).mono ?_
                  rintro e w3 ⟨v3, rfl, ho3, hb3⟩
                  obtain ⟨A3, k3, rfl⟩ := own_slice ho3
                  have HR3 := Kept.mk (own_reads ho3)
                  have HR1 := Kept.mk (own_reads (own_new HO12.out hb3))
                  have HL3 := Kept.mk (join HL2.out hb3)
                  clear ho3 hb3
                  go_wp2_with fail
                  refine (eqm_c (repP c) (repP c) A3 A1 k3 k1 _ _ _ HR3.out HR1.out (by omega) (by omega)).mono ?_
                  rintro e w4 ⟨rfl, hD⟩
                  have HL4 := Kept.mk (HL3.out.trans (hD.below.mono HL3.out.size))
                  clear hD
                  rw [decide_eq_true (show repP c = repP c from rfl)]
                  go_wp2_with fail
                  go_ret
                  exact ⟨rfl, join HW0.out HL4.out⟩
                · have q9 : (a3_2 == 0) = false := by simpa using hd2
                  clear hc1 hd2
                  go_wp2_with fail
                  refine (rep_c c _ L HT.out.ch).mono ?_
                  rintro e w1 ⟨v1, rfl, ho1, hb1⟩
                  obtain ⟨A1, k1, rfl⟩ := own_slice ho1
                  have HO1 := Kept.mk ho1
                  have HT1 := Kept.mk (HT.out.new_ hb1)
                  obtain ⟨b0, b1, b2, b3⟩ := box_cells HT1.out.below HBX.out
                  clear ho1 hb1
                  go_wp2_with fail
                  go_ret
                  exact ⟨rfl, join HW0.out HT1.out.below⟩
          · have HBAD : Kept (recvP c ⟨4, a3_1, a3_2⟩ = (c, [], 7)) := ⟨recv_bad (.inr (.inl ⟨by simp, by rw [HCC.out]; simpa using hc2, rfl⟩))⟩
            clear hc1
            go_wp2_with fail
            refine (rep_c c _ L HT.out.ch).mono ?_
            rintro e w1 ⟨v1, rfl, ho1, hb1⟩
            obtain ⟨A1, k1, rfl⟩ := own_slice ho1
            have HO1 := Kept.mk ho1
            have HT1 := Kept.mk (HT.out.new_ hb1)
            obtain ⟨b0, b1, b2, b3⟩ := box_cells HT1.out.below HBX.out
            clear ho1 hb1
            go_wp2_with fail
            refine (recv_c c ⟨4, a3_1, a3_2⟩ _ L HT1.out.ch).mono ?_
            rw [HBAD.out]
            rintro e w2 ⟨v2, rfl, ho2, hc2, hO2⟩
            obtain ⟨A2, k2, rfl⟩ := own_slice ho2
            have HC2 := Kept.mk hc2
            have hs1 := HT.out.ch.row.lt
            have HO12 := Kept.mk (own_only HO1.out hO2 (by rintro g rfl; exact hs1))
            have HL2 := Kept.mk (HT1.out.below.trans (hO2.below (B := W0.heap.size) (by rintro g rfl; exact Nat.le_trans HT1.out.base HT1.out.lowS) HT1.out.below.size))
            clear ho2 hc2 hO2
            go_wp2_with fail
            refine (rep_c c _ L HC2.out).mono ?_
            rintro e w3 ⟨v3, rfl, ho3, hb3⟩
            obtain ⟨A3, k3, rfl⟩ := own_slice ho3
            have HR3 := Kept.mk (own_reads ho3)
            have HR1 := Kept.mk (own_reads (own_new HO12.out hb3))
            have HL3 := Kept.mk (join HL2.out hb3)
            clear ho3 hb3
            go_wp2_with fail
            refine (eqm_c (repP c) (repP c) A3 A1 k3 k1 _ _ _ HR3.out HR1.out (by omega) (by omega)).mono ?_
            rintro e w4 ⟨rfl, hD⟩
            have HL4 := Kept.mk (HL3.out.trans (hD.below.mono HL3.out.size))
            clear hD
            rw [decide_eq_true (show repP c = repP c from rfl)]
            go_wp2_with fail
            go_ret
            exact ⟨rfl, join HW0.out HL4.out⟩
        have q1 : (a3_0 == 1) = false := by simpa using e1
        have q4 : (a3_0 == 4) = false := by simpa using e4
        clear e1 e4
        rcases bool_int a3_1 5 with ⟨hc1, hc2⟩ | ⟨hc1, hc2⟩
        · by_cases hd0 : a3_2 < 0
          · have HBAD : Kept (recvP c ⟨a3_0, a3_1, a3_2⟩ = (c, [], 2)) := ⟨recv_bad (.inr (.inr ⟨by simp only [not_or]; omega, by rw [HCC.out]; simpa using hc1, by rw [HHB.out]; simp only [fromP]; rw [show wayP a3_0 = false from by simp [wayP, q1, q4]]; simp only [if_true, if_false, Bool.false_eq_true]; rw [HHB.out, Bool.eq_false_iff]; simp; omega, rfl⟩))⟩
            clear hc1
            go_wp2_with fail
            refine (rep_c c _ L HT.out.ch).mono ?_
            rintro e w1 ⟨v1, rfl, ho1, hb1⟩
            obtain ⟨A1, k1, rfl⟩ := own_slice ho1
            have HO1 := Kept.mk ho1
            have HT1 := Kept.mk (HT.out.new_ hb1)
            obtain ⟨b0, b1, b2, b3⟩ := box_cells HT1.out.below HBX.out
            clear ho1 hb1
            go_wp2_with fail
            refine (recv_c c ⟨a3_0, a3_1, a3_2⟩ _ L HT1.out.ch).mono ?_
            rw [HBAD.out]
            rintro e w2 ⟨v2, rfl, ho2, hc2, hO2⟩
            obtain ⟨A2, k2, rfl⟩ := own_slice ho2
            have HC2 := Kept.mk hc2
            have hs1 := HT.out.ch.row.lt
            have HO12 := Kept.mk (own_only HO1.out hO2 (by rintro g rfl; exact hs1))
            have HL2 := Kept.mk (HT1.out.below.trans (hO2.below (B := W0.heap.size) (by rintro g rfl; exact Nat.le_trans HT1.out.base HT1.out.lowS) HT1.out.below.size))
            clear ho2 hc2 hO2
            go_wp2_with fail
            refine (rep_c c _ L HC2.out).mono ?_
            rintro e w3 ⟨v3, rfl, ho3, hb3⟩
            obtain ⟨A3, k3, rfl⟩ := own_slice ho3
            have HR3 := Kept.mk (own_reads ho3)
            have HR1 := Kept.mk (own_reads (own_new HO12.out hb3))
            have HL3 := Kept.mk (join HL2.out hb3)
            clear ho3 hb3
            go_wp2_with fail
            refine (eqm_c (repP c) (repP c) A3 A1 k3 k1 _ _ _ HR3.out HR1.out (by omega) (by omega)).mono ?_
            rintro e w4 ⟨rfl, hD⟩
            have HL4 := Kept.mk (HL3.out.trans (hD.below.mono HL3.out.size))
            clear hD
            rw [decide_eq_true (show repP c = repP c from rfl)]
            go_wp2_with fail
            go_ret
            exact ⟨rfl, join HW0.out HL4.out⟩
          · by_cases hd1 : (l.length : Int) ≤ a3_2
            · have HBAD : Kept (recvP c ⟨a3_0, a3_1, a3_2⟩ = (c, [], 2)) := ⟨recv_bad (.inr (.inr ⟨by simp only [not_or]; omega, by rw [HCC.out]; simpa using hc1, by rw [HHB.out]; simp only [fromP]; rw [show wayP a3_0 = false from by simp [wayP, q1, q4]]; simp only [if_true, if_false, Bool.false_eq_true]; rw [HHB.out, Bool.eq_false_iff]; simp; omega, rfl⟩))⟩
              clear hc1
              go_wp2_with fail
              refine (rep_c c _ L HT.out.ch).mono ?_
              rintro e w1 ⟨v1, rfl, ho1, hb1⟩
              obtain ⟨A1, k1, rfl⟩ := own_slice ho1
              have HO1 := Kept.mk ho1
              have HT1 := Kept.mk (HT.out.new_ hb1)
              obtain ⟨b0, b1, b2, b3⟩ := box_cells HT1.out.below HBX.out
              clear ho1 hb1
              go_wp2_with fail
              refine (recv_c c ⟨a3_0, a3_1, a3_2⟩ _ L HT1.out.ch).mono ?_
              rw [HBAD.out]
              rintro e w2 ⟨v2, rfl, ho2, hc2, hO2⟩
              obtain ⟨A2, k2, rfl⟩ := own_slice ho2
              have HC2 := Kept.mk hc2
              have hs1 := HT.out.ch.row.lt
              have HO12 := Kept.mk (own_only HO1.out hO2 (by rintro g rfl; exact hs1))
              have HL2 := Kept.mk (HT1.out.below.trans (hO2.below (B := W0.heap.size) (by rintro g rfl; exact Nat.le_trans HT1.out.base HT1.out.lowS) HT1.out.below.size))
              clear ho2 hc2 hO2
              go_wp2_with fail
              refine (rep_c c _ L HC2.out).mono ?_
              rintro e w3 ⟨v3, rfl, ho3, hb3⟩
              obtain ⟨A3, k3, rfl⟩ := own_slice ho3
              have HR3 := Kept.mk (own_reads ho3)
              have HR1 := Kept.mk (own_reads (own_new HO12.out hb3))
              have HL3 := Kept.mk (join HL2.out hb3)
              clear ho3 hb3
              go_wp2_with fail
              refine (eqm_c (repP c) (repP c) A3 A1 k3 k1 _ _ _ HR3.out HR1.out (by omega) (by omega)).mono ?_
              rintro e w4 ⟨rfl, hD⟩
              have HL4 := Kept.mk (HL3.out.trans (hD.below.mono HL3.out.size))
              clear hD
              rw [decide_eq_true (show repP c = repP c from rfl)]
              go_wp2_with fail
              go_ret
              exact ⟨rfl, join HW0.out HL4.out⟩
            · by_cases hd2 : a3_2 = (l.length : Int) - 1
              · have HBAD : Kept (recvP c ⟨a3_0, a3_1, a3_2⟩ = (c, [], 2)) := ⟨recv_bad (.inr (.inr ⟨by simp only [not_or]; omega, by rw [HCC.out]; simpa using hc1, by rw [HHB.out]; simp only [fromP]; rw [show wayP a3_0 = false from by simp [wayP, q1, q4]]; simp only [if_true, if_false, Bool.false_eq_true]; rw [HHB.out, Bool.eq_false_iff]; simp; omega, rfl⟩))⟩
                have q9 : (a3_2 == (l.length : Int) - 1) = true := by simpa using hd2
                clear hc1 hd2
                go_wp2_with fail
                refine (rep_c c _ L HT.out.ch).mono ?_
                rintro e w1 ⟨v1, rfl, ho1, hb1⟩
                obtain ⟨A1, k1, rfl⟩ := own_slice ho1
                have HO1 := Kept.mk ho1
                have HT1 := Kept.mk (HT.out.new_ hb1)
                obtain ⟨b0, b1, b2, b3⟩ := box_cells HT1.out.below HBX.out
                clear ho1 hb1
                go_wp2_with fail
                refine (recv_c c ⟨a3_0, a3_1, a3_2⟩ _ L HT1.out.ch).mono ?_
                rw [HBAD.out]
                rintro e w2 ⟨v2, rfl, ho2, hc2, hO2⟩
                obtain ⟨A2, k2, rfl⟩ := own_slice ho2
                have HC2 := Kept.mk hc2
                have hs1 := HT.out.ch.row.lt
                have HO12 := Kept.mk (own_only HO1.out hO2 (by rintro g rfl; exact hs1))
                have HL2 := Kept.mk (HT1.out.below.trans (hO2.below (B := W0.heap.size) (by rintro g rfl; exact Nat.le_trans HT1.out.base HT1.out.lowS) HT1.out.below.size))
                clear ho2 hc2 hO2
                go_wp2_with fail
                refine (rep_c c _ L HC2.out).mono ?_
                rintro e w3 ⟨v3, rfl, ho3, hb3⟩
                obtain ⟨A3, k3, rfl⟩ := own_slice ho3
                have HR3 := Kept.mk (own_reads ho3)
                have HR1 := Kept.mk (own_reads (own_new HO12.out hb3))
                have HL3 := Kept.mk (join HL2.out hb3)
                clear ho3 hb3
                go_wp2_with fail
                refine (eqm_c (repP c) (repP c) A3 A1 k3 k1 _ _ _ HR3.out HR1.out (by omega) (by omega)).mono ?_
                rintro e w4 ⟨rfl, hD⟩
                have HL4 := Kept.mk (HL3.out.trans (hD.below.mono HL3.out.size))
                clear hD
                rw [decide_eq_true (show repP c = repP c from rfl)]
                go_wp2_with fail
                go_ret
                exact ⟨rfl, join HW0.out HL4.out⟩
              · have q9 : (a3_2 == (l.length : Int) - 1) = false := by simpa using hd2
                clear hc1 hd2
                go_wp2_with fail
                refine (rep_c c _ L HT.out.ch).mono ?_
                rintro e w1 ⟨v1, rfl, ho1, hb1⟩
                obtain ⟨A1, k1, rfl⟩ := own_slice ho1
                have HO1 := Kept.mk ho1
                have HT1 := Kept.mk (HT.out.new_ hb1)
                obtain ⟨b0, b1, b2, b3⟩ := box_cells HT1.out.below HBX.out
                clear ho1 hb1
                go_wp2_with fail
                go_ret
                exact ⟨rfl, join HW0.out HT1.out.below⟩
        · have HBAD : Kept (recvP c ⟨a3_0, a3_1, a3_2⟩ = (c, [], 7)) := ⟨recv_bad (.inr (.inl ⟨by simp only [not_or]; omega, by rw [HCC.out]; simpa using hc2, rfl⟩))⟩
          clear hc1
          go_wp2_with fail
          refine (rep_c c _ L HT.out.ch).mono ?_
          rintro e w1 ⟨v1, rfl, ho1, hb1⟩
          obtain ⟨A1, k1, rfl⟩ := own_slice ho1
          have HO1 := Kept.mk ho1
          have HT1 := Kept.mk (HT.out.new_ hb1)
          obtain ⟨b0, b1, b2, b3⟩ := box_cells HT1.out.below HBX.out
          clear ho1 hb1
          go_wp2_with fail
          refine (recv_c c ⟨a3_0, a3_1, a3_2⟩ _ L HT1.out.ch).mono ?_
          rw [HBAD.out]
          rintro e w2 ⟨v2, rfl, ho2, hc2, hO2⟩
          obtain ⟨A2, k2, rfl⟩ := own_slice ho2
          have HC2 := Kept.mk hc2
          have hs1 := HT.out.ch.row.lt
          have HO12 := Kept.mk (own_only HO1.out hO2 (by rintro g rfl; exact hs1))
          have HL2 := Kept.mk (HT1.out.below.trans (hO2.below (B := W0.heap.size) (by rintro g rfl; exact Nat.le_trans HT1.out.base HT1.out.lowS) HT1.out.below.size))
          clear ho2 hc2 hO2
          go_wp2_with fail
          refine (rep_c c _ L HC2.out).mono ?_
          rintro e w3 ⟨v3, rfl, ho3, hb3⟩
          obtain ⟨A3, k3, rfl⟩ := own_slice ho3
          have HR3 := Kept.mk (own_reads ho3)
          have HR1 := Kept.mk (own_reads (own_new HO12.out hb3))
          have HL3 := Kept.mk (join HL2.out hb3)
          clear ho3 hb3
          go_wp2_with fail
          refine (eqm_c (repP c) (repP c) A3 A1 k3 k1 _ _ _ HR3.out HR1.out (by omega) (by omega)).mono ?_
          rintro e w4 ⟨rfl, hD⟩
          have HL4 := Kept.mk (HL3.out.trans (hD.below.mono HL3.out.size))
          clear hD
          rw [decide_eq_true (show repP c = repP c from rfl)]
          go_wp2_with fail
          go_ret
          exact ⟨rfl, join HW0.out HL4.out⟩

set_option maxRecDepth 100000 in
theorem liftedSetupOthers (os : Os) (started : os.Started) (H : Type) (enc : TypeId × Value → H) :
    ReturnsInHanded {} Try.checked os 6 .any (Rows.setupOthersSpec.pre6 enc Try.prog Try.f6 Rows.setupOthersRow.domain false) (Rows.setupOthersSpec.post enc Try.prog Try.f6 false true false false) := by
  refine returnsInHanded_of_change (C := Try.checked) own started (by kernel_rfl) Try.func6
    (ChangeSpec.witness6 (enc := enc) (C := Try.checked) false ⟨#[], #[.slice none 0 0, .int .u8 0, .slice none 0 0, .agg #[.int .i64 0, .int .i64 0, .int .i64 0]], []⟩ 8 (by kernel_rfl) (by kernel_rfl) (by kernel_rfl) (by kernel_rfl)) ?_
  intro W base args ds gs before hval0 hW hcnd _
  have hval : ∀ (j : Nat) t v, Try.f6.params[j]? = some t → args[j]? = some v → Value.okWide Try.prog W .any base t v := hval0
  have hW' := hW
  obtain ⟨p, q, hA0, hV, rfl, hfz, hnd⟩ := hW
  have hA : DataW.TrodAll enc Try.prog W 0 (fun _ => true) true Try.f6.params.toList args.toList ds p := hA0
  rw [Try.params6] at hA hval
  obtain ⟨v0, vs0, d0, ds0, p0, q0, hargs, rfl, rfl, h0, r0⟩ := trodAll_cons hA
  obtain ⟨v1, vs1, d1, ds1, p1, q1, rfl, rfl, rfl, h1, r1⟩ := trodAll_cons r0
  obtain ⟨v2, vs2, d2, ds2, p2, q2, rfl, rfl, rfl, h2, r2⟩ := trodAll_cons r1
  obtain ⟨v3, vs3, d3, ds3, p3, q3, rfl, rfl, rfl, h3, r3⟩ := trodAll_cons r2
  obtain ⟨rfl, rfl, rfl⟩ := trodAll_nil r3
  obtain rfl : args = #[v0, v1, v2, v3] := by cases args; simp_all
  obtain ⟨rfl, rfl⟩ := trodVars_none hV
  have k0 := h0
  have lt0 : ∀ x ∈ p0, x.block < W.heap.size := by obtain ⟨m, hm⟩ := k0; exact DataW.trod_lt m _ _ _ hm
  have k1 := h1
  have lt1 : ∀ x ∈ p1, x.block < W.heap.size := by obtain ⟨m, hm⟩ := k1; exact DataW.trod_lt m _ _ _ hm
  have k2 := h2
  have lt2 : ∀ x ∈ p2, x.block < W.heap.size := by obtain ⟨m, hm⟩ := k2; exact DataW.trod_lt m _ _ _ hm
  have k3 := h3
  have lt3 : ∀ x ∈ p3, x.block < W.heap.size := by obtain ⟨m, hm⟩ := k3; exact DataW.trod_lt m _ _ _ hm
  obtain ⟨a0, len0, cap0, rfl⟩ := okWide_slice Try.underlying32 (hval 0 32 v0 rfl rfl)
  have w0 : IsRows W 1 IsByte a0 len0 cap0 := open_rows Try.underlying32 (show Try.prog.cellsOf 5 = 1 by kernel_rfl) (by decide) isByte h0
  obtain ⟨a1, rfl, -, -, w1⟩ := open_int Try.underlying5 (hval 1 5 v1 rfl rfl) h1
  obtain ⟨a2, len2, cap2, rfl⟩ := okWide_slice Try.underlying44 (hval 2 44 v2 rfl rfl)
  have w2 : IsRows W 5 IsOp a2 len2 cap2 := open_rows Try.underlying44 (show Try.prog.cellsOf 46 = 5 by kernel_rfl) (by decide) isOp h2
  obtain ⟨c3_0, c3_1, c3_2, y3_0, y3_1, y3_2, m3, rfl, -, -, hy3_0, hy3_1, hy3_2⟩ := Joins.open_agg3 Try.underlying38 (by kernel_rfl) (show Try.prog.cellsOf 38 = 3 by kernel_rfl) (hval 3 38 v3 rfl rfl) h3
  obtain ⟨a3_0, e3_0, -, w3_0⟩ := DataW.trod_int Try.underlying3 hy3_0
  simp only [List.cons.injEq, and_true] at e3_0; subst e3_0
  obtain ⟨a3_1, e3_1, -, w3_1⟩ := DataW.trod_int Try.underlying3 hy3_1
  simp only [List.cons.injEq, and_true] at e3_1; subst e3_1
  obtain ⟨a3_2, e3_2, -, w3_2⟩ := DataW.trod_int Try.underlying3 hy3_2
  simp only [List.cons.injEq, and_true] at e3_2; subst e3_2
  clear hA0 hval0
  refine (walkSetupOthers a0 len0 cap0 a1 a2 len2 cap2 a3_0 a3_1 a3_2 W w0 w1 w2 w3_0 w3_1 w3_2).mono fun e W' ⟨he, bel⟩ => ?_
  subst he
  exact ⟨_, rfl, _, _, _, [], _, [], hW', trodAll_mk1 (shut_bool Try.underlying4 _), (trodAll_cons_mk (Below.trod laidOut (by kernel_rfl) (of_decide_eq_true (by kernel_rfl)) k0 bel lt0) (trodAll_cons_mk (Below.trod laidOut (by kernel_rfl) (of_decide_eq_true (by kernel_rfl)) k1 bel lt1) (trodAll_cons_mk (Below.trod laidOut (by kernel_rfl) (of_decide_eq_true (by kernel_rfl)) k2 bel lt2) (trodAll_cons_mk (Below.trod laidOut (by kernel_rfl) (of_decide_eq_true (by kernel_rfl)) k3 bel lt3) trodAll_mk0)))), rfl, bel.frame _, fun h => by cases h⟩
/-- The given statement. -/
theorem setupOthers_holds : Rows.SetupOthersSaid :=
  OpenClaim.holds_of_wide 6 Try.f6 rfl rfl rfl rfl rfl rfl rfl ⟨rfl, rfl, rfl, rfl, rfl⟩ rfl rfl rfl rfl rfl (by kernel_rfl) Try.func6 (by kernel_rfl)
    (of_decide_eq_true (by kernel_rfl)) (by unfold Func.isWrapper; first | (rw [if_pos (by decide +kernel)]; kernel_rfl) | (rw [if_neg (by decide +kernel)]; exact ⟨rfl, rfl⟩))
    (fun os started H enc _ => liftedSetupOthers os started H enc)
#print axioms setupOthers_holds
end Go.Proofs.Ytnmgnggchgckoaa
