/- For every list of calls the statement HelloPorts returns true: messages on one port do not influence the others. No condition. -/
import Derived.Test.YtkbnacboianjkaaBase
import Derived.Test.YtkbnacboianjkaaActs
import Derived.Test.YtkbnacboianjkaaPlainP
namespace Go.Proofs.Ytkbnacboianjkaa
open Go.ChangeShapes Go.WideShapes Go.ChangeAt Go.RowKit
set_option linter.unusedVariables false
set_option linter.unusedSimpArgs false
/-- As it was, but for draws. -/
def Drewn (w w' : World) : Prop := ∃ j, w' = w.drewN j
theorem Drewn.refl (w : World) : Drewn w w := ⟨0, rfl⟩
theorem Drewn.more {w w' : World} (h : Drewn w w') (n : Nat) : Drewn w (w'.drewN n) := by
  obtain ⟨j, rfl⟩ := h
  exact ⟨j + n, by rw [World.drewN_drewN]⟩
theorem Drewn.cell {w w' : World} (h : Drewn w w') (a : Addr) : w'.cell? a = w.cell? a := by
  obtain ⟨j, rfl⟩ := h; rfl
theorem Drewn.size {w w' : World} (h : Drewn w w') : w'.heap.size = w.heap.size := by
  obtain ⟨j, rfl⟩ := h; rfl
theorem Drewn.table {w w' : World} (h : Drewn w w') {b g : Nat} {t : Tb} (k : Table w b g t) : Table w' b g t := by
  obtain ⟨j, rfl⟩ := h; exact k.drewN j
theorem Drewn.below {w w' : World} (h : Drewn w w') {B : Nat} {w0 : World} (k : Below B w0 w) : Below B w0 w' := by
  obtain ⟨j, rfl⟩ := h; exact dN k j
theorem bd_rec2 {n v : Nat} {t : Tb} (h : Bd n v t) (i : Int) (m : Msg) : Bd (n + 1) (v + 8) (recv t i m) := bd_mono (bd_recv h i m) (by omega) (by omega)
structure Goes (w : World) (B : Nat) (k : Nat) (t : Tb) (wr : World) : Prop where
  tab : Table wr (B + 1) B t
  bd : Bd k (8 * k) t
  len : t.ports.length = 3
  inc : t.inc = 5
  below : Below w.heap.size w wr
set_option maxRecDepth 100000 in
set_option maxHeartbeats 4000000 in
theorem walkHelloPorts (a0 : Option Addr) (len0 cap0 : Nat) (w : World) (w0 : IsRows w 6 IsAct a0 len0 cap0) :
    Calls Try.prog 9 #[.slice a0 len0 cap0] w fun e w' => e = .returned (.bool true) ∧ Below w.heap.size w w' := by
  obtain ⟨hcap, hmax, hrow⟩ := w0
  unfold maxLen at hmax
  by_cases hl : 40 < len0
  · clear hrow
    go_enter Try.func9, Try.ntmps9
    go_wp2_with fail
    refine (awake_c _).mono ?_
    rintro e wa ⟨rfl, hba⟩
    have HBA := hid hba
    clear hba
    go_wp2_with fail
    go_ret
    exact ⟨rfl, HBA.out⟩
  · have hl2 : len0 ≤ 40 := by omega
    have HR := Kept.mk hrow
    clear hl hrow
    go_enter Try.func9, Try.ntmps9
    go_wp2_with fail
    refine (awake_c _).mono ?_
    rintro e wa ⟨rfl, hba⟩
    have HBA := hid hba
    clear hba
    go_wp2_with fail
    refine (new_c 0 5 3 2 6 _ (by decide)).mono ?_
    rintro e wb ⟨rfl, hT, hbb, -⟩
    have HG : Kept (Goes w wa.heap.size 0 (new 0 5 3 2 6) wb) := ⟨⟨hT, bd_new 0 5 3 2 6 (by omega) (by omega) (by omega), rfl, rfl, join HBA.out hbb⟩⟩
    have hB := HBA.out.size
    clear hT hbb HBA
    generalize wa.heap.size = B at *
    go_wp2_with fail
    go_loopw [31] (fun v31 wr => ∃ (k : Nat) (t : Tb), k ≤ len0 ∧ v31 = .int .i64 k ∧ Kept (Goes w B k t wr)) (fun v31 _ => len0 - (intOf v31).toNat)
    case atStart => exact ⟨0, _, by omega, rfl, HG⟩
    case round =>
      obtain ⟨k, t, hk, rfl, HG'⟩ := hrel
      clear HG
      by_cases hlt : k < len0
      · obtain ⟨b, off, rfl, hbl, hcs⟩ := HR.out (by omega)
        obtain ⟨cs, ⟨kind, port, node, inc, mp, heard, rfl⟩, hcell⟩ := hcs k hlt
        have hbr : b < wr.heap.size := Nat.lt_of_lt_of_le hbl HG'.out.below.size
        have c0 := (HG'.out.below.cell (p := ⟨b, off + k * 6, none⟩) hbl).trans (hcell 0 _ rfl)
        have c1 := (HG'.out.below.cell (p := ⟨b, off + k * 6 + 1, none⟩) hbl).trans (hcell 1 _ rfl)
        have c2 := (HG'.out.below.cell (p := ⟨b, off + k * 6 + 2, none⟩) hbl).trans (hcell 2 _ rfl)
        have c3 := (HG'.out.below.cell (p := ⟨b, off + k * 6 + 3, none⟩) hbl).trans (hcell 3 _ rfl)
        have c4 := (HG'.out.below.cell (p := ⟨b, off + k * 6 + 4, none⟩) hbl).trans (hcell 4 _ rfl)
        have c5 := (HG'.out.below.cell (p := ⟨b, off + k * 6 + 5, none⟩) hbl).trans (hcell 5 _ rfl)
        clear hcs hcell
        have hB3 := HG'.out.tab.tab.lt
        by_cases hkind : kind = 0
        · subst hkind
          go_wp2_with fail
          refine wp_loop_rounds 4 ?_
          rw [rounds_succ]
          go_wp2_with fail
          refine (state_c t _ _ (B + 1) B ((HG'.out.tab.alloc _).alloc _)).mono ?_
          rintro e w1 ⟨rfl, rfl⟩
          go_wp2_with fail
          rw [rounds_succ]
          go_wp2_with fail
          refine (state_c t _ _ (B + 1) B ((HG'.out.tab.alloc _).alloc _)).mono ?_
          rintro e w1 ⟨rfl, rfl⟩
          go_wp2_with fail
          rw [rounds_succ]
          go_wp2_with fail
          refine (state_c t _ _ (B + 1) B ((HG'.out.tab.alloc _).alloc _)).mono ?_
          rintro e w1 ⟨rfl, rfl⟩
          go_wp2_with fail
          rw [rounds_succ]
          go_wp2_with fail
          have HT3 : Kept (Table ((wr.alloc (.cells #[.int .i64 0, .int .i64 port, .int .i64 node, .int .i64 inc, .int .i64 mp, .int .i64 heard] 41)).alloc (.cells #[.int .i64 (stateAt t 0), .int .i64 (stateAt t 1), .int .i64 (stateAt t 2)] 58)) (B + 1) B t) := ⟨(HG'.out.tab.alloc _).alloc _⟩
          have HX3 : Kept (Blk ((wr.alloc (.cells #[.int .i64 0, .int .i64 port, .int .i64 node, .int .i64 inc, .int .i64 mp, .int .i64 heard] 41)).alloc (.cells #[.int .i64 (stateAt t 0), .int .i64 (stateAt t 1), .int .i64 (stateAt t 2)] 58)) wr.heap.size 41 #[.int .i64 0, .int .i64 port, .int .i64 node, .int .i64 inc, .int .i64 mp, .int .i64 heard]) := ⟨(Blk.new wr 41 _).alloc _⟩
          have HY3 : Kept (Blk ((wr.alloc (.cells #[.int .i64 0, .int .i64 port, .int .i64 node, .int .i64 inc, .int .i64 mp, .int .i64 heard] 41)).alloc (.cells #[.int .i64 (stateAt t 0), .int .i64 (stateAt t 1), .int .i64 (stateAt t 2)] 58)) (wr.heap.size + 1) 58 #[.int .i64 (stateAt t 0), .int .i64 (stateAt t 1), .int .i64 (stateAt t 2)]) := ⟨by simpa using Blk.new (wr.alloc (.cells #[.int .i64 0, .int .i64 port, .int .i64 node, .int .i64 inc, .int .i64 mp, .int .i64 heard] 41)) 58 #[.int .i64 (stateAt t 0), .int .i64 (stateAt t 1), .int .i64 (stateAt t 2)]⟩
          have HB3 : Kept (Below w.heap.size w ((wr.alloc (.cells #[.int .i64 0, .int .i64 port, .int .i64 node, .int .i64 inc, .int .i64 mp, .int .i64 heard] 41)).alloc (.cells #[.int .i64 (stateAt t 0), .int .i64 (stateAt t 1), .int .i64 (stateAt t 2)] 58))) := ⟨(HG'.out.below.alloc HG'.out.below.size _).alloc (by have := HG'.out.below.size; simp; omega) _⟩
          obtain ⟨W3, hW3⟩ : ∃ W3, W3 = ((wr.alloc (.cells #[.int .i64 0, .int .i64 port, .int .i64 node, .int .i64 inc, .int .i64 mp, .int .i64 heard] 41)).alloc (.cells #[.int .i64 (stateAt t 0), .int .i64 (stateAt t 1), .int .i64 (stateAt t 2)] 58)) := ⟨_, rfl⟩
          rw [← hW3] at HT3 HX3 HY3 HB3 ⊢
          have hwz : wr.heap.size + 2 = W3.heap.size := by rw [hW3]; simp
          have HBD := Kept.mk HG'.out.bd
          have HLN := Kept.mk HG'.out.len
          have HIN := Kept.mk HG'.out.inc
          obtain ⟨X, hX⟩ : ∃ X, X = wr.heap.size := ⟨_, rfl⟩
          rw [← hX] at HX3 HY3 hwz hB3 ⊢
          have hX2 : X + 2 ≤ W3.heap.size := by omega
          have hver0 := HBD.out.fit.ver0
          have hver1 := HBD.out.ver
          clear hW3 hwz hX HG' c0 c1 c2 c3 c4 c5 hbr
          refine (version_c t _ (B + 1) B HT3.out).mono ?_
          rintro e w1 ⟨rfl, rfl⟩
          have hx1 := HX3.out.cell 1 (v := .int .i64 port) rfl
          have hx2 := HX3.out.cell 2 (v := .int .i64 node) rfl
          have hx3 := HX3.out.cell 3 (v := .int .i64 inc) rfl
          have hx4 := HX3.out.cell 4 (v := .int .i64 mp) rfl
          have hx5 := HX3.out.cell 5 (v := .int .i64 heard) rfl
          have hXl : X < W3.heap.size := by omega
          go_wp2_with fail
          refine (recv_c t port ⟨node, inc, mp, heard⟩ _ (B + 1) B HT3.out hver0 (by omega)).mono ?_
          rintro e w4 ⟨rfl, hT4, hO4⟩
          have HT4 := Kept.mk hT4
          have HX4 := Kept.mk (HX3.out.only hO4 (by rintro (h | h) <;> omega))
          have HY4 := Kept.mk (HY3.out.only hO4 (by rintro (h | h) <;> omega))
          have HB4 := Kept.mk (HB3.out.trans (hO4.below (B := w.heap.size) (by rintro j (h | h) <;> omega) HB3.out.size))
          have hz4 := hO4.size
          clear hT4 hO4 hx1 hx2 hx3 hx4 hx5
          have HSM := Kept.mk (recv_same (t := t) (port := port) (m := ⟨node, inc, mp, heard⟩))
          have HNO := Kept.mk (fun h => recv_no (t := t) (port := port) (m := ⟨node, inc, mp, heard⟩) h)
          have HST := Kept.mk (fun k h => recv_state (t := t) (port := port) (m := ⟨node, inc, mp, heard⟩) k h)
          have HAT := Kept.mk (fun h => recv_at (t := t) (port := port) (m := ⟨node, inc, mp, heard⟩) h)
          have HVR := Kept.mk (recv_ver t port ⟨node, inc, mp, heard⟩)
          have HG6 : Kept (∀ wx, Table wx (B + 1) B (recv t port ⟨node, inc, mp, heard⟩) → Below w.heap.size w wx → Goes w B (k + 1) (recv t port ⟨node, inc, mp, heard⟩) wx) := ⟨fun wx h1 h2 => ⟨h1, bd_rec2 HBD.out _ _, by rw [recv_len]; exact HLN.out, by rw [recv_inc]; exact HIN.out, h2⟩⟩
          rw [HIN.out] at HAT
          generalize recv t port ⟨node, inc, mp, heard⟩ = t1 at *
          generalize recvE t port ⟨node, inc, mp, heard⟩ = f at *
          have hvr := HVR.out
          go_wp2_with fail
          refine (version_c t1 _ (B + 1) B HT4.out).mono ?_
          rintro e w1 ⟨rfl, rfl⟩
          have hx1 := HX4.out.cell 1 (v := .int .i64 port) rfl
          have hx2 := HX4.out.cell 2 (v := .int .i64 node) rfl
          have hx3 := HX4.out.cell 3 (v := .int .i64 inc) rfl
          have hx4 := HX4.out.cell 4 (v := .int .i64 mp) rfl
          have hx5 := HX4.out.cell 5 (v := .int .i64 heard) rfl
          have hXl4 : X < w4.heap.size := by omega
          go_wp2_with fail
          refine (recv_c t1 port ⟨node, inc, mp, heard⟩ _ (B + 1) B HT4.out (by omega) (by omega)).mono ?_
          rintro e w5 ⟨rfl, hT5, hO5⟩
          rw [HSM.out.2] at hT5
          rw [HSM.out.1]
          have HT5 := Kept.mk hT5
          have HX5 := Kept.mk (HX4.out.only hO5 (by rintro (h | h) <;> omega))
          have HY5 := Kept.mk (HY4.out.only hO5 (by rintro (h | h) <;> omega))
          have HB5 := Kept.mk (HB4.out.trans (hO5.below (B := w.heap.size) (by rintro j (h | h) <;> omega) HB4.out.size))
          have hz5 := hO5.size
          clear hT5 hO5 hx1 hx2 hx3 hx4 hx5 HT3 HX3 HY3 HB3 HT4 HX4 HY4 HB4
          have hx1 := HX5.out.cell 1 (v := .int .i64 port) rfl
          have hx5 := HX5.out.cell 5 (v := .int .i64 heard) rfl
          have hy0 := HY5.out.cell 0 (v := .int .i64 (stateAt t 0)) rfl
          have hy1 := HY5.out.cell 1 (v := .int .i64 (stateAt t 1)) rfl
          have hy2 := HY5.out.cell 2 (v := .int .i64 (stateAt t 2)) rfl
          have HYC : Kept (∀ i, i < 3 → w5.cell? ⟨X + 1, i, none⟩ = some (.int .i64 (stateAt t (i : Int)))) := ⟨fun i hi => by
            rcases (by omega : i = 0 ∨ i = 1 ∨ i = 2) with rfl | rfl | rfl
            · exact hy0
            · exact hy1
            · exact hy2⟩
          clear hy0 hy1 hy2 HX5 HY5
          have hX5l : X < w5.heap.size := by omega
          have hX5m : X + 1 < w5.heap.size := by omega
          by_cases hf : f = 0
          · subst hf
            have hat := HAT.out rfl
            have HAT2 := Kept.mk hat
            clear hat
            go_wp2_with fail
            go_loopw [65] (fun v65 wr => ∃ i : Nat, i ≤ 3 ∧ v65 = .int .i64 i ∧ Kept (Drewn w5 wr)) (fun v65 _ => 3 - (intOf v65).toNat)
            case atStart => exact ⟨0, by omega, rfl, ⟨Drewn.refl _⟩⟩
            case round =>
              obtain ⟨i, hi, rfl, HD⟩ := hrel
              have hx1r := (HD.out.cell ⟨X, 1, none⟩).trans hx1
              have hx5r := (HD.out.cell ⟨X, 5, none⟩).trans hx5
              have hXr : X < wr.heap.size := by rw [HD.out.size]; exact hX5l
              have hXr2 : X + 1 < wr.heap.size := by rw [HD.out.size]; exact hX5m
              have HTr := Kept.mk (HD.out.table HT5.out)
              by_cases hi3 : i < 3
              · have cy := (HD.out.cell ⟨X + 1, i, none⟩).trans (HYC.out i hi3)
                have hi0 : (0 : Int) ≤ (i : Int) := by omega
                have hi33 : (i : Int) < 3 := by omega
                clear hx1 hx5
                by_cases hip : (i : Int) = port
                · have q1 : ((i : Int) != port) = false := by simp [hip]
                  clear hip
                  go_wp2_with fail
                  go_quiet (fail)
                  go_wp2_with fail
                  go_roundw
                  case rel => exact ⟨i + 1, by omega, by go_num, ⟨HD.out.more nq⟩⟩
                  case measure => simp [intOf]; omega
                · have q1 : ((i : Int) != port) = true := by simp [hip]
                  have hst := HST.out i (.inl hip)
                  clear hip
                  generalize stateAt t (i : Int) = s at *
                  go_wp2_with fail
                  go_quiet ((go_at_call 14; exact Calls.quiet_of_same ((state_c t1 _ _ (B + 1) B (HTr.out.drewN _)).mono fun _ _ h => ⟨h.1, h.2.symm⟩)))
                  go_wp2_with fail
                  go_roundw
                  case rel => exact ⟨i + 1, by omega, by go_num, ⟨HD.out.more nq⟩⟩
                  case measure => simp [intOf]; omega
              · go_wp2_with fail
                refine (version_c t1 _ (B + 1) B HTr.out).mono ?_
                rintro e w1 ⟨rfl, rfl⟩
                by_cases hh : heard = 5
                · have q1 : (heard == 5) = true := by simp [hh]
                  have hst : stateAt t1 port = 2 := by rw [HAT2.out, if_pos hh]
                  clear hh hx1 hx5
                  go_wp2_with fail
                  go_quiet ((go_at_call 14; exact Calls.quiet_of_same ((state_c t1 _ _ (B + 1) B (HTr.out.drewN _)).mono fun _ _ h => ⟨h.1, h.2.symm⟩)))
                  go_wp2_with fail
                  go_roundw
                  case rel => exact ⟨k + 1, t1, by omega, by go_num, ⟨HG6.out _ ((HD.out.more nq).table HT5.out) ((HD.out.more nq).below HB5.out)⟩⟩
                  case measure => simp [intOf]; omega
                · have q1 : (heard == 5) = false := by simp [hh]
                  have hst : stateAt t1 port = 1 := by rw [HAT2.out, if_neg hh]
                  clear hh hx1 hx5
                  go_wp2_with fail
                  go_quiet ((go_at_call 14; exact Calls.quiet_of_same ((state_c t1 _ _ (B + 1) B (HTr.out.drewN _)).mono fun _ _ h => ⟨h.1, h.2.symm⟩)))
                  go_wp2_with fail
                  go_roundw
                  case rel => exact ⟨k + 1, t1, by omega, by go_num, ⟨HG6.out _ ((HD.out.more nq).table HT5.out) ((HD.out.more nq).below HB5.out)⟩⟩
                  case measure => simp [intOf]; omega
          · have qf1 : (f != 0) = true := by simp [hf]
            have qf2 : (f == 0) = false := by simp [hf]
            have hve : t1.version = t.version := by rw [HNO.out hf]
            go_wp2_with fail
            go_loopw [65] (fun v65 wr => ∃ i : Nat, i ≤ 3 ∧ v65 = .int .i64 i ∧ Kept (Drewn w5 wr)) (fun v65 _ => 3 - (intOf v65).toNat)
            case atStart => exact ⟨0, by omega, rfl, ⟨Drewn.refl _⟩⟩
            case round =>
              obtain ⟨i, hi, rfl, HD⟩ := hrel
              have hx1r := (HD.out.cell ⟨X, 1, none⟩).trans hx1
              have hx5r := (HD.out.cell ⟨X, 5, none⟩).trans hx5
              have hXr : X < wr.heap.size := by rw [HD.out.size]; exact hX5l
              have hXr2 : X + 1 < wr.heap.size := by rw [HD.out.size]; exact hX5m
              have HTr := Kept.mk (HD.out.table HT5.out)
              by_cases hi3 : i < 3
              · have cy := (HD.out.cell ⟨X + 1, i, none⟩).trans (HYC.out i hi3)
                have hi0 : (0 : Int) ≤ (i : Int) := by omega
                have hi33 : (i : Int) < 3 := by omega
                clear hx1 hx5
                by_cases hip : (i : Int) = port
                · have q1 : ((i : Int) != port) = false := by simp [hip]
                  have hst := HST.out i (.inr hf)
                  clear hip
                  generalize stateAt t (i : Int) = s at *
                  go_wp2_with fail
                  go_quiet ((go_at_call 14; exact Calls.quiet_of_same ((state_c t1 _ _ (B + 1) B (HTr.out.drewN _)).mono fun _ _ h => ⟨h.1, h.2.symm⟩)))
                  go_wp2_with fail
                  go_roundw
                  case rel => exact ⟨i + 1, by omega, by go_num, ⟨HD.out.more nq⟩⟩
                  case measure => simp [intOf]; omega
                · have q1 : ((i : Int) != port) = true := by simp [hip]
                  have hst := HST.out i (.inl hip)
                  clear hip
                  generalize stateAt t (i : Int) = s at *
                  go_wp2_with fail
                  go_quiet ((go_at_call 14; exact Calls.quiet_of_same ((state_c t1 _ _ (B + 1) B (HTr.out.drewN _)).mono fun _ _ h => ⟨h.1, h.2.symm⟩)))
                  go_wp2_with fail
                  go_roundw
                  case rel => exact ⟨i + 1, by omega, by go_num, ⟨HD.out.more nq⟩⟩
                  case measure => simp [intOf]; omega
              · go_wp2_with fail
                refine (version_c t1 _ (B + 1) B HTr.out).mono ?_
                rintro e w1 ⟨rfl, rfl⟩
                clear hx1 hx5
                go_wp2_with fail
                go_quiet (fail)
                go_wp2_with fail
                go_roundw
                case rel => exact ⟨k + 1, t1, by omega, by go_num, ⟨HG6.out _ ((HD.out.more nq).table HT5.out) ((HD.out.more nq).below HB5.out)⟩⟩
                case measure => simp [intOf]; omega
        · have hk1 : (kind != 0) = true := by simp [hkind]
          go_wp2_with fail
          refine (tick_c t _ (B + 1) B (HG'.out.tab.alloc _) HG'.out.bd.fit (by have := HG'.out.bd.ticks; omega) (by have := HG'.out.bd.ver; omega)).mono ?_
          rintro e w5 ⟨v, rfl, hT5, -, hO5⟩
          have HG5 : Kept (Goes w B (k + 1) (tick t) w5) := ⟨⟨hT5, bd_tick HG'.out.bd (by omega), by rw [tick_len]; exact HG'.out.len, HG'.out.inc, (HG'.out.below.alloc HG'.out.below.size _).trans (hO5.below (B := w.heap.size) (by rintro j (h | h) <;> omega) (by have := HG'.out.below.size; simp; omega))⟩⟩
          clear hT5 hO5
          go_wp2_with fail
          go_roundw
          case rel => exact ⟨k + 1, tick t, by omega, by go_num, HG5⟩
          case measure => simp [intOf]; omega
      · go_wp2_with fail
        go_ret
        exact ⟨rfl, HG'.out.below⟩

set_option maxRecDepth 100000 in
theorem liftedHelloPorts (os : Os) (started : os.Started) (H : Type) (enc : TypeId × Value → H) :
    ReturnsInHanded {} Try.checked os 9 .any (Rows.helloPortsSpec.pre6 enc Try.prog Try.f9 Rows.helloPortsRow.domain false) (Rows.helloPortsSpec.post enc Try.prog Try.f9 false true false false) := by
  refine returnsInHanded_of_change (C := Try.checked) own started (by kernel_rfl) Try.func9
    (ChangeSpec.witness6 (enc := enc) (C := Try.checked) false ⟨#[], #[.slice none 0 0], []⟩ 8 (by kernel_rfl) (by kernel_rfl) (by kernel_rfl) (by kernel_rfl)) ?_
  intro W base args ds gs before hval0 hW hcnd _
  have hval : ∀ (j : Nat) t v, Try.f9.params[j]? = some t → args[j]? = some v → Value.okWide Try.prog W .any base t v := hval0
  have hW' := hW
  obtain ⟨p, q, hA0, hV, rfl, hfz, hnd⟩ := hW
  have hA : DataW.TrodAll enc Try.prog W 0 (fun _ => true) true Try.f9.params.toList args.toList ds p := hA0
  rw [Try.params9] at hA hval
  obtain ⟨v0, vs0, d0, ds0, p0, q0, hargs, rfl, rfl, h0, r0⟩ := trodAll_cons hA
  obtain ⟨rfl, rfl, rfl⟩ := trodAll_nil r0
  obtain rfl : args = #[v0] := by cases args; simp_all
  obtain ⟨rfl, rfl⟩ := trodVars_none hV
  have k0 := h0
  have lt0 : ∀ x ∈ p0, x.block < W.heap.size := by obtain ⟨m, hm⟩ := k0; exact DataW.trod_lt m _ _ _ hm
  obtain ⟨a0, len0, cap0, rfl⟩ := okWide_slice Try.underlying29 (hval 0 29 v0 rfl rfl)
  have w0 : IsRows W 6 IsAct a0 len0 cap0 := open_rows Try.underlying29 (show Try.prog.cellsOf 41 = 6 by kernel_rfl) (by decide) isAct h0
  clear hA0 hval0
  refine (walkHelloPorts a0 len0 cap0 W w0).mono fun e W' ⟨he, bel⟩ => ?_
  subst he
  exact ⟨_, rfl, _, _, _, [], _, [], hW', trodAll_mk1 (shut_bool Try.underlying4 _), (trodAll_cons_mk (Below.trod laidOut (by kernel_rfl) (of_decide_eq_true (by kernel_rfl)) k0 bel lt0) trodAll_mk0), rfl, bel.frame _, fun h => by cases h⟩
/-- The given statement. -/
theorem helloPorts_holds : Rows.HelloPortsSaid :=
  OpenClaim.holds_of_wide 9 Try.f9 rfl rfl rfl rfl rfl rfl rfl ⟨rfl, rfl, rfl, rfl, rfl⟩ rfl rfl rfl rfl rfl (by kernel_rfl) Try.func9 (by kernel_rfl)
    (of_decide_eq_true (by kernel_rfl)) (by unfold Func.isWrapper; first | (rw [if_pos (by decide +kernel)]; kernel_rfl) | (rw [if_neg (by decide +kernel)]; exact ⟨rfl, rfl⟩))
    (fun os started H enc _ => liftedHelloPorts os started H enc)
#print axioms helloPorts_holds
end Go.Proofs.Ytkbnacboianjkaa
