/- Hello: Tick whole. -/
import Derived.Test.YtkbnacboianjkaaTickB
namespace Go.Proofs.Ytkbnacboianjkaa
set_option linter.unusedVariables false
set_option linter.unusedSimpArgs false
open Go.RowKit
theorem OnlyP.low {S : Nat → Prop} {w w1 w' : World} {B : Nat} (h : OnlyP S w w1) (k : Below B w1 w') (hB : w.heap.size ≤ B) : OnlyP S w w' :=
  ⟨k.os.trans h.os, k.tape.trans h.tape, k.output.trans h.output, Nat.le_trans h.size k.size, fun i hi hb => (k.block i (by omega)).trans (h.block i hi hb)⟩
def SentAll (w : World) (t : Tb) (b g c d base : Nat) (e : Ending) (w' : World) : Prop :=
  e = .returned (.tuple #[]) ∧ Table w' b g t ∧ ∃ v', Blk w' d 46 #[v'] ∧ Msgs w' base v' (outFrom t 0 t.ports) ∧ Below base w w'
set_option maxHeartbeats 1000000 in
theorem visitSend_c (t : Tb) (w : World) (b g c d base : Nat) (h : Table w b g t) (hc : Blk w c 23 #[.pointer (some ⟨b, 0, none⟩)]) (hd : Blk w d 46 #[.slice none 0 0]) (hb : b < base) (hg : g < base) (hcb : base ≤ c) (hdb : base ≤ d) (hcd : c ≠ d) (hbase : base ≤ w.heap.size) :
    Calls Try.prog 26 #[.func (.func 28) #[] #[.pointer (some ⟨c, 0, none⟩), .pointer (some ⟨d, 0, none⟩)], .pointer (some ⟨c, 0, none⟩)] w (SentAll w t b g c d base) := by
  obtain ⟨h0, h1, h2, h3, h4, h5, h6⟩ := h.all
  have hlt := h.tab.lt
  have hlt2 := h.row.lt
  have hn := h.few
  have c0 := hc.cell 0 (v := .pointer (some ⟨b, 0, none⟩)) rfl
  have H := hid h
  have HC := hid hc
  have HD := hid hd
  clear h hc hd h0 h1 h2 h3 h4 h5
  go_enter Try.func26, Try.ntmps26
  go_wp2_with fail
  go_loopw [3, 9] (fun v3 v9 wr => ∃ (k : Nat) (v : Value), k ≤ t.ports.length ∧ v9 = .int .i64 k ∧ Table wr b g t ∧ Blk wr c 23 #[.pointer (some ⟨b, 0, none⟩)] ∧ Blk wr d 46 #[v] ∧ Msgs wr base v ((outFrom t 0 t.ports).take k) ∧ Below base w wr) (fun _ v9 _ => t.ports.length - (intOf v9).toNat)
  case atStart => exact ⟨0, .slice none 0 0, by omega, rfl, H.out, HC.out, HD.out, World.ownsRow_nil _ _ _ _, Below.refl _ _⟩
  case round =>
    obtain ⟨k, v, hk, rfl, hT, hC, hD, hM, hB⟩ := hrel
    have g6 := hT.all.2.2.2.2.2.2
    have e0 := hC.cell 0 (v := .pointer (some ⟨b, 0, none⟩)) rfl
    have hl2 := hT.row.lt
    have HT := hid hT
    have HC2 := hid hC
    have HD2 := hid hD
    have HM := hid hM
    have HB := hid hB
    clear hT hC hD hM hB c0 h6
    by_cases hlt : k < t.ports.length
    · have hp := getD_some hlt
      have hs := out_succ hp
      have hlen : ((outFrom t 0 t.ports).take k).length ≤ 8 := by simp [outFrom_len]; omega
      have hbw : base ≤ wr.heap.size := Nat.le_trans hbase HB.out.size
      go_wp2_with fail
      refine (send_c t k _ _ b g c d base v _ HT.out hp HC2.out HD2.out HM.out hlen hbw).mono ?_
      rintro e w' ⟨rfl, v', hD', hM', hO'⟩
      rw [← hs] at hM'
      have hvb : ∀ i, v.ownBlock = some i → base ≤ i := fun i hi => (HM.out.lt i hi).1
      have HT' := hid (HT.out.only hO' (by rintro (h | h); omega; have := hvb _ h; omega) (by rintro (h | h); omega; have := hvb _ h; omega))
      have HC' := hid (HC2.out.only hO' (by rintro (h | h); exact hcd h; exact own_blk_ne HM.out HC2.out (by decide) h))
      have HB' := hid (HB.out.trans (hO'.below (B := base) (by rintro i (h | h); omega; exact hvb _ h) hbw))
      have HD' := hid hD'
      have HM' := hid hM'
      clear hD' hM' hO' hs hp hlen hvb
      go_wp2_with fail
      go_roundw
      case rel => exact ⟨k + 1, v', by omega, by go_num, HT'.out, HC'.out, HD'.out, HM'.out, HB'.out⟩
      case measure => simp [intOf]; omega
    · have hk' : k = t.ports.length := by omega
      subst hk'
      have hall : (outFrom t 0 t.ports).take t.ports.length = outFrom t 0 t.ports := by rw [← outFrom_len t t.ports 0]; exact List.take_length
      have HA := hid hall
      clear hall
      go_wp2_with fail
      go_end0
      exact ⟨rfl, HT.out, v, HD2.out, by rw [← HA.out]; exact HM.out, HB.out⟩
def Ticks (w : World) (t : Tb) (b g : Nat) (e : Ending) (w' : World) : Prop :=
  ∃ v, e = .returned v ∧ Table w' b g (tick t) ∧ Msgs w' w.heap.size v (out (tick t)) ∧ OnlyP (Own b g) w w'
theorem Table.tk {w : World} {b g : Nat} {t : Tb} (h : Table w b g t) : Table (w.setCell ⟨b, 4, none⟩ (.int .i64 (t.ticks + 1))) b g (ticked t) :=
  ⟨h.tab.to 4 _ rfl, h.row.far (Ne.symm h.ne) _, h.pos, h.few⟩
set_option maxHeartbeats 2000000 in
theorem tick_c (t : Tb) (w : World) (b g : Nat) (h : Table w b g t) (hf : Fit t) (h1 : t.ticks + 1 < 1000000000000) (hv1 : t.version < 1000000000000) :
    Calls Try.prog 19 #[.pointer (some ⟨b, 0, none⟩)] w (Ticks w t b g) := by
  obtain ⟨h0, -, h2, h3, h4, h5, h6⟩ := h.all
  have ht0 := hf.ticks0
  have he0 := hf.every
  have f4 := h.tab.free 4
  have hlt := h.tab.lt
  have hltg := h.row.lt
  have hpos := h.pos
  have hpos2 : ((t.ports.length : Int) == 0) = false := by rw [beq_eq_false_iff_ne]; omega
  have HF := hid (fit_ticked hf h1)
  have HTK := hid (h.tk.alloc (.cells #[.pointer (some ⟨b, 0, none⟩)] 23))
  clear h hf
  go_enter Try.func19, Try.ntmps19
  go_wp2_with fail
  have hN := Blk.new (w.setCell ⟨b, 4, none⟩ (.int .i64 (t.ticks + 1))) 23 #[.pointer (some ⟨b, 0, none⟩)]
  rw [World.size_setCell] at hN
  refine (visitFade_c (ticked t) _ b g w.heap.size HTK.out HF.out hv1 (hN.cell 0 (v := .pointer (some ⟨b, 0, none⟩)) rfl) (by omega) (by omega) hN.lt).mono ?_
  rintro e w1 ⟨rfl, hT1, hO1⟩
  rw [tick_eq] at hT1
  have hN1 := hN.only hO1 (by rintro (h | h) <;> omega)
  have HO := hid ((((OnlyP.refl (Own b g) w).set (p := ⟨b, 4, none⟩) (.inl (.inl rfl)) (.int .i64 (t.ticks + 1))).alloc _).trans hO1)
  clear hO1 hN
  obtain ⟨g0, -, g2, g3, g4, g5, g6⟩ := hT1.all
  have c0 := hN1.cell 0 (v := .pointer (some ⟨b, 0, none⟩)) rfl
  have hlt1 := hT1.tab.lt
  have hltn := hN1.lt
  have e4 : (tick t).ticks = t.ticks + 1 := rfl
  have e2 : (tick t).every = t.every := rfl
  rw [e4] at g4
  rw [e2] at g2
  have HT1 := hid hT1
  have HN1 := hid hN1
  clear hT1 hN1 e4 e2 h0 h2 h3 h4 h5 h6
  by_cases hs : t.ticks % t.every = 0
  · have hs' : (t.ticks % t.every != 0) = false := by simpa using hs
    have HS := hid (show out (tick t) = outFrom (tick t) 0 (tick t).ports by unfold out; rw [sends_iff, if_pos (by simpa using hs)])
    clear hs
    go_wp2_with fail
    go_quiet (fail)
    go_wp2_with fail
    have hD := Blk.new (w1.drewN nq) 46 #[.slice none 0 0]
    change Blk _ w1.heap.size _ _ at hD
    have hgw := HO.out.size
    refine (visitSend_c (tick t) _ b g w.heap.size w1.heap.size w.heap.size ((HT1.out.drewN _).alloc _) ((HN1.out.drewN _).alloc _) hD (by omega) (by omega) (Nat.le_refl _) (by omega) (by omega) (by simp; omega)).mono ?_
    rintro e w2 ⟨rfl, hT2, v', hD2, hM2, hB2⟩
    rw [← HS.out] at hM2
    have hOO := ((HO.out.drewN nq).alloc (.cells #[.slice none 0 0] 46)).low hB2 (Nat.le_refl _)
    have d0 := hD2.cell 0 (v := v') rfl
    go_wp2_with fail
    go_ret
    exact ⟨_, rfl, hT2, hM2, hOO⟩
  · have hs' : (t.ticks % t.every != 0) = true := by simpa using hs
    have HS := hid (show out (tick t) = [] by unfold out; rw [sends_iff, if_neg (by simpa using hs)])
    clear hs
    go_wp2_with fail
    go_quiet (fail)
    go_wp2_with fail
    go_ret
    exact ⟨_, rfl, HT1.out.drewN _, by rw [HS.out]; exact World.ownsRow_nil _ _ _ _, HO.out.drewN _⟩
end Go.Proofs.Ytkbnacboianjkaa
