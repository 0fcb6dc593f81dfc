/- For every list of acts the statement LinkupApart returns true: two sides do not influence each other, and a nil side does nothing. No condition. -/
import Derived.Test.YtaonnglopajkcaaBase
import Derived.Test.YtaonnglopajkcaaAwake
import Derived.Test.YtaonnglopajkcaaPlainB
import Derived.Test.YtaonnglopajkcaaNil
namespace Go.Proofs.Ytaonnglopajkcaa
open Go.ChangeShapes Go.WideShapes Go.ChangeAt Go.RowKit
set_option linter.unusedVariables false
theorem field_mine (a b : Int) (w : World) : (Instr.field 30 (.agg #[.int .i64 a, .int .i64 b]) 0).run Try.prog w = .ok (.int .i64 a) w := by kernel_rfl
set_option maxRecDepth 100000 in
set_option maxHeartbeats 4000000 in
theorem walkLinkupApart (a0 : Option Addr) (len0 cap0 : Nat) (w : World) (w0 : IsRows w 3 IsAct a0 len0 cap0) :
    Calls Try.prog 10 #[.slice a0 len0 cap0] w fun e w' => e = .returned (.bool true) ∧ Below w.heap.size w w' := by
  have hm := w0.2.1
  have hl := w0.1
  unfold maxLen at hm
  have hn : newB 7 4 = true := by decide
  by_cases hlen : len0 ≤ 40
  · go_enter Try.func10, Try.ntmps10
    go_wp2_with fail
    refine (awake_c _).mono ?_
    rintro e wa ⟨rfl, hba⟩
    have hR := w0.below hba
    have HR := hid hR
    clear hR w0
    go_wp2_with fail
    refine (new_c _ _ _ hn).mono ?_
    rintro e wb ⟨rfl, rfl⟩
    go_wp2_with fail
    refine (new_c _ _ _ hn).mono ?_
    rintro e wb ⟨rfl, rfl⟩
    clear hn
    rw [World.size_alloc]
    go_wp2_with fail
    go_loopw [39] (fun v39 wr => ∃ (k : Nat) (s : Sd), k ≤ len0 ∧ v39 = .int .i64 k ∧ Side wr wa.heap.size s ∧ Side wr (wa.heap.size + 1) ⟨7, 4, 0, 0, 0, 0, 0⟩ ∧ Below wa.heap.size wa wr ∧ Hid (s.mine = 7) ∧ 0 ≤ s.changes ∧ s.changes ≤ k ∧ 0 ≤ s.silent ∧ s.silent ≤ k) (fun v39 _ => len0 - (intOf v39).toNat)
    case atStart => exact ⟨0, new 7 4, by omega, rfl, (Blk.new _ _ _).alloc _, by have := Blk.new (wa.alloc (.cells (cells (new 7 4)) 56)) 56 (cells (new 7 4)); rwa [World.size_alloc] at this, by go_grown, rfl, by simp [new], by simp [new], by simp [new], by simp [new]⟩
    case round =>
      obtain ⟨k, s, hk, rfl, hS, hT, hb, hmine, hc1, hc2, hq1, hq2⟩ := hrel
      have HB := hid hb; clear hb
      have HM := hmine; clear hmine
      by_cases hlt : k < len0
      · obtain ⟨b, off, rfl, hblt, hcs⟩ := (HR.out.below HB.out).2.2 (by omega)
        obtain ⟨cs, ⟨g, x, y, rfl, wx, wy⟩, hcell⟩ := hcs k hlt
        have c0 := hcell 0 _ rfl
        have c1 := hcell 1 _ rfl
        have c2 := hcell 2 _ rfl
        rw [Nat.add_zero] at c0
        have hBlt := hS.lt
        have hBlt2 := hT.lt
        clear hcs hcell wx wy
        cases g with
        | true =>
          go_wp2_with fail
          refine (recv_c s x y _ wa.heap.size (hS.alloc _) hc1 (by omega)).mono ?_
          rintro e w2 ⟨rfl, hS2, hO⟩
          have hz : wr.heap.size < w2.heap.size := Nat.lt_of_lt_of_le (by simp) hO.size
          have hN := (Blk.new wr 45 #[.bool true, .int .i64 x, .int .i64 y]).only hO (by omega)
          have g1 := hN.cell 1 (v := .int .i64 x) rfl
          have g2 := hN.cell 2 (v := .int .i64 y) rfl
          have hT2 := (hT.alloc _).only hO (by omega)
          have hb2 : Below wa.heap.size wa w2 := joinO (w := wa) (W := wr.alloc _) (HB.out.alloc HB.out.size _) hO (Nat.le_refl _) (Nat.le_refl _)
          have HM2 := hid (recv_mine s x y)
          obtain ⟨hc3, hc4⟩ := recv_changes s x y
          have hsl : 0 ≤ (recv s x y).silent ∧ (recv s x y).silent ≤ s.silent := by
            cases ht : takes s x with
            | true => have := (recv_yes (y := y) ht).2.2.2; omega
            | false => rw [recv_no ht]; omega
          obtain ⟨hsl1, hsl2⟩ := hsl
          generalize recv s x y = s' at *
          clear hO hN c0 c1 c2
          go_wp2_with fail
          refine (recvNil_c x y _).mono ?_
          rintro e w3 ⟨rfl, hb3⟩
          replace hS2 := hS2.new_ hb3
          replace hT2 := hT2.new_ hb3
          have HB2 := hid (join (w := wa) hb2 hb3)
          clear hb2 hb3 g1 g2
          by_cases hev : (k : Int) % 2 = 0
          all_goals
            go_wp2_with (first | (go_at_call 16; refine (peer_c ⟨7, 4, 0, 0, 0, 0, 0⟩ _ _ hT2).mono ?_; rintro e w4 ⟨rfl, rfl⟩) | (go_at_call 18; refine (changes_c ⟨7, 4, 0, 0, 0, 0, 0⟩ _ _ hT2).mono ?_; rintro e w5 ⟨rfl, rfl⟩) | (go_at_call 14; refine (state_c ⟨7, 4, 0, 0, 0, 0, 0⟩ _ _ hT2).mono ?_; rintro e w6 ⟨rfl, rfl⟩))
            go_roundw
            case rel => exact ⟨k + 1, s', by omega, by go_num, hS2, hT2, HB2.out, hid (HM2.out.trans HM.out), by omega, by omega, by omega, by omega⟩
            case measure => simp [intOf]; omega

        | false =>
          go_wp2_with fail
          refine (tick_c s _ wa.heap.size (hS.alloc _) hc1 (by omega) hq1 (by omega)).mono ?_
          rintro e w2 ⟨rfl, hS2, hO⟩
          have hT2 := (hT.alloc _).only hO (by omega)
          have hb2 : Below wa.heap.size wa w2 := joinO (w := wa) (W := wr.alloc _) (HB.out.alloc HB.out.size _) hO (Nat.le_refl _) (Nat.le_refl _)
          have HM2 := hid (tick_mine s)
          obtain ⟨hc3, hc4⟩ := tick_changes s
          obtain ⟨hsl1, hsl2⟩ := tick_silent s hq1
          rw [HM.out]
          generalize tick s = s' at *
          clear hO c0 c1 c2
          have hfi := field_mine 7 s'.peer
          go_wp2_with fail
          clear hfi
          refine (tickNil_c _).mono ?_
          rintro e w3 ⟨rfl, hb3⟩
          replace hS2 := hS2.new_ hb3
          replace hT2 := hT2.new_ hb3
          have HB2 := hid (join (w := wa) hb2 hb3)
          clear hb2 hb3
          by_cases hev : (k : Int) % 2 = 0
          all_goals
            go_wp2_with (first | (go_at_call 16; refine (peer_c ⟨7, 4, 0, 0, 0, 0, 0⟩ _ _ hT2).mono ?_; rintro e w4 ⟨rfl, rfl⟩) | (go_at_call 18; refine (changes_c ⟨7, 4, 0, 0, 0, 0, 0⟩ _ _ hT2).mono ?_; rintro e w5 ⟨rfl, rfl⟩) | (go_at_call 14; refine (state_c ⟨7, 4, 0, 0, 0, 0, 0⟩ _ _ hT2).mono ?_; rintro e w6 ⟨rfl, rfl⟩))
            go_roundw
            case rel => exact ⟨k + 1, s', by omega, by go_num, hS2, hT2, HB2.out, hid (HM2.out.trans HM.out), by omega, by omega, by omega, by omega⟩
            case measure => simp [intOf]; omega

      · have hk' : k = len0 := by omega
        subst hk'
        go_wp2_with (first | (go_at_call 16; refine (peerNil_c _).mono ?_; rintro e w4 ⟨rfl, rfl⟩) | (go_at_call 18; refine (changesNil_c _).mono ?_; rintro e w5 ⟨rfl, rfl⟩) | (go_at_call 14; refine (stateNil_c _).mono ?_; rintro e w6 ⟨rfl, rfl⟩) | (go_at_call 17; refine (acceptsNil_c _ _).mono ?_; rintro e w7 ⟨rfl, rfl⟩))
        go_ret
        exact ⟨rfl, join (w := w) hba HB.out⟩
  · go_enter Try.func10, Try.ntmps10
    go_wp2_with fail
    refine (awake_c _).mono ?_
    rintro e wa ⟨rfl, hba⟩
    go_wp2_with fail
    refine (new_c _ _ _ hn).mono ?_
    rintro e wb ⟨rfl, rfl⟩
    go_wp2_with fail
    refine (new_c _ _ _ hn).mono ?_
    rintro e wb ⟨rfl, rfl⟩
    go_wp2_with fail
    go_ret
    exact ⟨rfl, (hba.alloc hba.size _).alloc (by have := hba.size; simp; omega) _⟩

set_option maxRecDepth 100000 in
theorem liftedLinkupApart (os : Os) (started : os.Started) (H : Type) (enc : TypeId × Value → H) :
    ReturnsInHanded {} Try.checked os 10 .any (Rows.linkupApartSpec.pre6 enc Try.prog Try.f10 Rows.linkupApartRow.domain false) (Rows.linkupApartSpec.post enc Try.prog Try.f10 false true false false) := by
  refine returnsInHanded_of_change (C := Try.checked) own started (by kernel_rfl) Try.func10
    (ChangeSpec.witness6 (enc := enc) (C := Try.checked) false ⟨#[], #[.slice none 0 0], []⟩ 8 (by kernel_rfl) (by kernel_rfl) (by kernel_rfl) (by kernel_rfl)) ?_
  intro W base args ds gs before hval0 hW hcnd _
  have hval : ∀ (j : Nat) t v, Try.f10.params[j]? = some t → args[j]? = some v → Value.okWide Try.prog W .any base t v := hval0
  have hW' := hW
  obtain ⟨p, q, hA0, hV, rfl, hfz, hnd⟩ := hW
  have hA : DataW.TrodAll enc Try.prog W 0 (fun _ => true) true Try.f10.params.toList args.toList ds p := hA0
  rw [Try.params10] at hA hval
  obtain ⟨v0, vs0, d0, ds0, p0, q0, hargs, rfl, rfl, h0, r0⟩ := trodAll_cons hA
  obtain ⟨rfl, rfl, rfl⟩ := trodAll_nil r0
  obtain rfl : args = #[v0] := by cases args; simp_all
  obtain ⟨rfl, rfl⟩ := trodVars_none hV
  have k0 := h0
  have lt0 : ∀ x ∈ p0, x.block < W.heap.size := by obtain ⟨m, hm⟩ := k0; exact DataW.trod_lt m _ _ _ hm
  obtain ⟨a0, len0, cap0, rfl⟩ := okWide_slice Try.underlying43 (hval 0 43 v0 rfl rfl)
  have w0 : IsRows W 3 IsAct a0 len0 cap0 := open_rows Try.underlying43 (show Try.prog.cellsOf 45 = 3 by kernel_rfl) (by decide) isAct h0
  clear hA0 hval0
  refine (walkLinkupApart a0 len0 cap0 W w0).mono fun e W' ⟨he, bel⟩ => ?_
  subst he
  exact ⟨_, rfl, _, _, _, [], _, [], hW', trodAll_mk1 (shut_bool Try.underlying4 _), (trodAll_cons_mk (Below.trod laidOut (by kernel_rfl) (of_decide_eq_true (by kernel_rfl)) k0 bel lt0) trodAll_mk0), rfl, bel.frame _, fun h => by cases h⟩
/-- The given statement. -/
theorem linkupApart_holds : Rows.LinkupApartSaid :=
  OpenClaim.holds_of_wide 10 Try.f10 rfl rfl rfl rfl rfl rfl rfl ⟨rfl, rfl, rfl, rfl, rfl⟩ rfl rfl rfl rfl rfl (by kernel_rfl) Try.func10 (by kernel_rfl)
    (of_decide_eq_true (by kernel_rfl)) (by unfold Func.isWrapper; first | (rw [if_pos (by decide +kernel)]; kernel_rfl) | (rw [if_neg (by decide +kernel)]; exact ⟨rfl, rfl⟩))
    (fun os started H enc _ => liftedLinkupApart os started H enc)
#print axioms linkupApart_holds
end Go.Proofs.Ytaonnglopajkcaa
