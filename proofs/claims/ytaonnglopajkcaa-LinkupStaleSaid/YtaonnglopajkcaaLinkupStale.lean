/- For every list of acts the statement LinkupStale returns true: nothing from the past is accepted. No condition. -/
import Derived.Test.YtaonnglopajkcaaBase
import Derived.Test.YtaonnglopajkcaaAwake
namespace Go.Proofs.Ytaonnglopajkcaa
open Go.ChangeShapes Go.WideShapes Go.ChangeAt Go.RowKit
set_option linter.unusedVariables false
set_option maxRecDepth 100000 in
set_option maxHeartbeats 4000000 in
theorem walkLinkupStale (a0 : Option Addr) (len0 cap0 : Nat) (w : World) (w0 : IsRows w 3 IsAct a0 len0 cap0) :
    Calls Try.prog 6 #[.slice a0 len0 cap0] w fun e w' => e = .returned (.bool true) ∧ Below w.heap.size w w' := by
  have hm := w0.2.1
  have hl := w0.1
  unfold maxLen at hm
  have hn : newB 1000 5 = true := by decide
  by_cases hlen : len0 ≤ 60
  · go_enter Try.func6, Try.ntmps6
    go_wp2_with fail
    refine (awake_c _).mono ?_
    rintro e wa ⟨rfl, hba⟩
    have hR := w0.below hba
    have HR := hid hR
    clear hR w0
    go_wp2_with fail
    refine (new_c _ _ _ hn).mono ?_
    rintro e wb ⟨rfl, rfl⟩
    clear hn
    go_wp2_with fail
    go_loopw [5, 26] (fun v5 v26 wr => ∃ (k : Nat) (s : Sd), k ≤ len0 ∧ v26 = .int .i64 k ∧ v5 = .int .i64 s.seen ∧ Side wr wa.heap.size s ∧ Below wa.heap.size wa wr ∧ Inv s ∧ 0 ≤ s.changes ∧ s.changes ≤ k ∧ 0 ≤ s.silent ∧ s.silent ≤ k) (fun _ v26 _ => len0 - (intOf v26).toNat)
    case atStart => exact ⟨0, new 1000 5, by omega, rfl, rfl, Blk.new _ _ _, by go_grown, inv_new _ _, by simp [new], by simp [new], by simp [new], by simp [new]⟩
    case round =>
      obtain ⟨k, s, hk, rfl, rfl, hS, hb, hinv, hc1, hc2, hq1, hq2⟩ := hrel
      have HB := hid hb; clear hb
      have HI := hid hinv; clear hinv
      by_cases hlt : k < len0
      · obtain ⟨b, off, rfl, hblt, hcs⟩ := (HR.out.below HB.out).2.2 (by omega)
        obtain ⟨cs, ⟨g, x, y, rfl, wx, wy⟩, hcell⟩ := hcs k hlt
        have c0 := hcell 0 _ rfl
        have c1 := hcell 1 _ rfl
        have c2 := hcell 2 _ rfl
        rw [Nat.add_zero] at c0
        have hBlt := hS.lt
        clear hcs hcell wx wy
        cases g with
        | true =>
          go_wp2_with fail
          refine (recv_c s x y _ wa.heap.size (hS.alloc _) hc1 (by omega)).mono ?_
          rintro e w2 ⟨rfl, hS2, hO⟩
          have hz : wr.heap.size < w2.heap.size := Nat.lt_of_lt_of_le (by simp) hO.size
          have hN := (Blk.new wr 45 #[.bool true, .int .i64 x, .int .i64 y]).only hO (by omega)
          have g0 := hN.cell 0 (v := .bool true) rfl
          have g1 := hN.cell 1 (v := .int .i64 x) rfl
          have g2 := hN.cell 2 (v := .int .i64 y) rfl
          have hb2 : Below wa.heap.size wa w2 := joinO (w := wa) (W := wr.alloc _) (HB.out.alloc HB.out.size _) hO (Nat.le_refl _) (Nat.le_refl _)
          have HB2 := hid hb2
          obtain ⟨hc3, hc4⟩ := recv_changes s x y
          have hinv' := inv_recv x y HI.out
          have hv1 := hinv'.seen
          have hv2 := hinv'.hi
          have hR1 := recv_no (s := s) (m := x) (y := y)
          have hR2 := recv_yes (s := s) (m := x) (y := y)
          generalize recv s x y = s' at *
          clear hO hN hb2 c0 c1 c2
          have hs0 := HI.out.seen
          by_cases ht : takes s x = true
          · obtain ⟨⟨t1, t2⟩, t3⟩ := takes_iff.1 ht
            obtain ⟨r1, r2, r3, r4⟩ := hR2 ht
            clear hR1 hR2 r1
            have R3 := hid r3
            have hx : s.seen < x ∨ s.seen = x := by omega
            rcases hx with hx | hx
            all_goals
              go_wp2_with fail
              go_quiet ((go_at_call 16; exact Calls.quiet_of_same ((peer_c s' _ _ (hS2.drewN _)).mono fun _ _ h => ⟨h.1, h.2.symm⟩)))
              replace hS2 := hS2.drewN nq
              replace HB2 := hid (dN HB2.out nq)
              try clear hx
              obtain ⟨e0, e1, e2⟩ := hinv'.some (by omega)
              have e3 : s'.peer = x := by omega
              have a1 : accB s' (x - 1) = false := by simp [accB, e3]; omega
              have a2 : accB s' x = true := by simp [accB, e3]; omega
              have a3 : (x != 0) = true := by simp; omega
              have a4 : (x == 0) = false := by simp; omega
              have a5 : (s'.state == 0) = false := by simp; omega
              have a6 : 0 < x := by omega
              have q5 : 0 ≤ s'.silent := by omega
              have q6 : s'.silent ≤ 0 := by omega
              clear e0 r2 r3 r4
              go_wp2_with (first | (go_at_call 16; refine (peer_c s' _ _ hS2).mono ?_; rintro e w4 ⟨rfl, rfl⟩) | (go_at_call 17; refine (accepts_c s' _ _ _ hS2).mono ?_; rintro e w5 ⟨rfl, rfl⟩) | (go_at_call 14; refine (state_c s' _ _ hS2).mono ?_; rintro e w6 ⟨rfl, rfl⟩))
              go_roundw
              case rel => exact ⟨k + 1, s', by omega, by go_num, by rw [R3.out], hS2, HB2.out, hinv', by omega, by omega, by omega, by omega⟩
              case measure => simp [intOf]; omega

          · have e := hR1 (by simpa using ht)
            subst e
            clear hR1 hR2
            by_cases t1 : 1 ≤ x
            · by_cases t2 : x ≤ 1099511627775
              · have t3 : x < s'.seen := by
                  rcases Int.lt_or_le x s'.seen with h | h
                  · exact h
                  · exact absurd (takes_iff.2 ⟨⟨t1, t2⟩, h⟩) ht
                by_cases hp : s'.peer = 0
                · have e0 := hinv'.none hp
                  have a1 : accB s' (s'.seen - 1) = false := by simp [accB, hp]
                  go_wp2_with (first | (go_at_call 16; refine (peer_c s' _ _ hS2).mono ?_; rintro e w4 ⟨rfl, rfl⟩) | (go_at_call 17; refine (accepts_c s' _ _ _ hS2).mono ?_; rintro e w5 ⟨rfl, rfl⟩) | (go_at_call 14; refine (state_c s' _ _ hS2).mono ?_; rintro e w6 ⟨rfl, rfl⟩))
                  go_roundw
                  case rel => exact ⟨k + 1, s', by omega, by go_num, rfl, hS2, HB2.out, hinv', by omega, by omega, by omega, by omega⟩
                  case measure => simp [intOf]; omega
                · obtain ⟨e0, e1, e2⟩ := hinv'.some hp
                  have e3 : s'.peer = s'.seen := by omega
                  have a1 : accB s' (s'.seen - 1) = false := by simp [accB, e3]; omega
                  have a2 : accB s' s'.seen = true := by simp [accB, e3]; omega
                  have a3 : (s'.seen != 0) = true := by simp; omega
                  have a4 : (s'.seen == 0) = false := by simp; omega
                  have a5 : (s'.state == 0) = false := by simp; omega
                  have a6 : 0 < s'.seen := by omega
                  clear e0 hp
                  go_wp2_with (first | (go_at_call 16; refine (peer_c s' _ _ hS2).mono ?_; rintro e w4 ⟨rfl, rfl⟩) | (go_at_call 17; refine (accepts_c s' _ _ _ hS2).mono ?_; rintro e w5 ⟨rfl, rfl⟩) | (go_at_call 14; refine (state_c s' _ _ hS2).mono ?_; rintro e w6 ⟨rfl, rfl⟩))
                  go_roundw
                  case rel => exact ⟨k + 1, s', by omega, by go_num, rfl, hS2, HB2.out, hinv', by omega, by omega, by omega, by omega⟩
                  case measure => simp [intOf]; omega

              · by_cases hp : s'.peer = 0
                · have e0 := hinv'.none hp
                  have a1 : accB s' (s'.seen - 1) = false := by simp [accB, hp]
                  go_wp2_with (first | (go_at_call 16; refine (peer_c s' _ _ hS2).mono ?_; rintro e w4 ⟨rfl, rfl⟩) | (go_at_call 17; refine (accepts_c s' _ _ _ hS2).mono ?_; rintro e w5 ⟨rfl, rfl⟩) | (go_at_call 14; refine (state_c s' _ _ hS2).mono ?_; rintro e w6 ⟨rfl, rfl⟩))
                  go_roundw
                  case rel => exact ⟨k + 1, s', by omega, by go_num, rfl, hS2, HB2.out, hinv', by omega, by omega, by omega, by omega⟩
                  case measure => simp [intOf]; omega
                · obtain ⟨e0, e1, e2⟩ := hinv'.some hp
                  have e3 : s'.peer = s'.seen := by omega
                  have a1 : accB s' (s'.seen - 1) = false := by simp [accB, e3]; omega
                  have a2 : accB s' s'.seen = true := by simp [accB, e3]; omega
                  have a3 : (s'.seen != 0) = true := by simp; omega
                  have a4 : (s'.seen == 0) = false := by simp; omega
                  have a5 : (s'.state == 0) = false := by simp; omega
                  have a6 : 0 < s'.seen := by omega
                  clear e0 hp
                  go_wp2_with (first | (go_at_call 16; refine (peer_c s' _ _ hS2).mono ?_; rintro e w4 ⟨rfl, rfl⟩) | (go_at_call 17; refine (accepts_c s' _ _ _ hS2).mono ?_; rintro e w5 ⟨rfl, rfl⟩) | (go_at_call 14; refine (state_c s' _ _ hS2).mono ?_; rintro e w6 ⟨rfl, rfl⟩))
                  go_roundw
                  case rel => exact ⟨k + 1, s', by omega, by go_num, rfl, hS2, HB2.out, hinv', by omega, by omega, by omega, by omega⟩
                  case measure => simp [intOf]; omega

            · by_cases t2 : s'.seen ≤ x
              · have t3 : x = 0 := by omega
                have t4 : s'.seen = 0 := by omega
                have T4 := hid t4
                clear t4
                subst t3
                have hmx : max s'.seen 0 = s'.seen := by omega
                go_wp2_with fail
                all_goals
                  go_quiet ((go_at_call 16; exact Calls.quiet_of_same ((peer_c s' _ _ (hS2.drewN _)).mono fun _ _ h => ⟨h.1, h.2.symm⟩)))
                  replace hS2 := hS2.drewN nq
                  replace HB2 := hid (dN HB2.out nq)
                  clear hmx
                  by_cases hp : s'.peer = 0
                  · have e0 := hinv'.none hp
                    have a1 : accB s' (s'.seen - 1) = false := by simp [accB, hp]
                    go_wp2_with (first | (go_at_call 16; refine (peer_c s' _ _ hS2).mono ?_; rintro e w4 ⟨rfl, rfl⟩) | (go_at_call 17; refine (accepts_c s' _ _ _ hS2).mono ?_; rintro e w5 ⟨rfl, rfl⟩) | (go_at_call 14; refine (state_c s' _ _ hS2).mono ?_; rintro e w6 ⟨rfl, rfl⟩))
                    go_roundw
                    case rel => exact ⟨k + 1, s', by omega, by go_num, rfl, hS2, HB2.out, hinv', by omega, by omega, by omega, by omega⟩
                    case measure => simp [intOf]; omega
                  · obtain ⟨e0, e1, e2⟩ := hinv'.some hp
                    have e3 : s'.peer = s'.seen := by omega
                    have a1 : accB s' (s'.seen - 1) = false := by simp [accB, e3]; omega
                    have a2 : accB s' s'.seen = true := by simp [accB, e3]; omega
                    have a3 : (s'.seen != 0) = true := by simp; omega
                    have a4 : (s'.seen == 0) = false := by simp; omega
                    have a5 : (s'.state == 0) = false := by simp; omega
                    have a6 : 0 < s'.seen := by omega
                    clear e0 hp
                    go_wp2_with (first | (go_at_call 16; refine (peer_c s' _ _ hS2).mono ?_; rintro e w4 ⟨rfl, rfl⟩) | (go_at_call 17; refine (accepts_c s' _ _ _ hS2).mono ?_; rintro e w5 ⟨rfl, rfl⟩) | (go_at_call 14; refine (state_c s' _ _ hS2).mono ?_; rintro e w6 ⟨rfl, rfl⟩))
                    go_roundw
                    case rel => exact ⟨k + 1, s', by omega, by go_num, rfl, hS2, HB2.out, hinv', by omega, by omega, by omega, by omega⟩
                    case measure => simp [intOf]; omega

              · by_cases hp : s'.peer = 0
                · have e0 := hinv'.none hp
                  have a1 : accB s' (s'.seen - 1) = false := by simp [accB, hp]
                  go_wp2_with (first | (go_at_call 16; refine (peer_c s' _ _ hS2).mono ?_; rintro e w4 ⟨rfl, rfl⟩) | (go_at_call 17; refine (accepts_c s' _ _ _ hS2).mono ?_; rintro e w5 ⟨rfl, rfl⟩) | (go_at_call 14; refine (state_c s' _ _ hS2).mono ?_; rintro e w6 ⟨rfl, rfl⟩))
                  go_roundw
                  case rel => exact ⟨k + 1, s', by omega, by go_num, rfl, hS2, HB2.out, hinv', by omega, by omega, by omega, by omega⟩
                  case measure => simp [intOf]; omega
                · obtain ⟨e0, e1, e2⟩ := hinv'.some hp
                  have e3 : s'.peer = s'.seen := by omega
                  have a1 : accB s' (s'.seen - 1) = false := by simp [accB, e3]; omega
                  have a2 : accB s' s'.seen = true := by simp [accB, e3]; omega
                  have a3 : (s'.seen != 0) = true := by simp; omega
                  have a4 : (s'.seen == 0) = false := by simp; omega
                  have a5 : (s'.state == 0) = false := by simp; omega
                  have a6 : 0 < s'.seen := by omega
                  clear e0 hp
                  go_wp2_with (first | (go_at_call 16; refine (peer_c s' _ _ hS2).mono ?_; rintro e w4 ⟨rfl, rfl⟩) | (go_at_call 17; refine (accepts_c s' _ _ _ hS2).mono ?_; rintro e w5 ⟨rfl, rfl⟩) | (go_at_call 14; refine (state_c s' _ _ hS2).mono ?_; rintro e w6 ⟨rfl, rfl⟩))
                  go_roundw
                  case rel => exact ⟨k + 1, s', by omega, by go_num, rfl, hS2, HB2.out, hinv', by omega, by omega, by omega, by omega⟩
                  case measure => simp [intOf]; omega

        | false =>
          go_wp2_with fail
          refine (tick_c s _ wa.heap.size (hS.alloc _) hc1 (by omega) hq1 (by omega)).mono ?_
          rintro e w2 ⟨rfl, hS2, hO⟩
          have hb2 : Below wa.heap.size wa w2 := joinO (w := wa) (W := wr.alloc _) (HB.out.alloc HB.out.size _) hO (Nat.le_refl _) (Nat.le_refl _)
          have HB2 := hid hb2
          obtain ⟨hc3, hc4⟩ := tick_changes s
          obtain ⟨hq3, hq4⟩ := tick_silent s hq1
          have hinv' := inv_tick HI.out
          have hv1 := hinv'.seen
          have hv2 := hinv'.hi
          have hsn := tick_seen s
          generalize tick s = s' at *
          have HSN := hid hsn
          clear hO hb2 c0 c1 c2
          rw [← HSN.out]
          clear hsn
          by_cases hp : s'.peer = 0
          · have e0 := hinv'.none hp
            have a1 : accB s' (s'.seen - 1) = false := by simp [accB, hp]
            go_wp2_with (first | (go_at_call 16; refine (peer_c s' _ _ hS2).mono ?_; rintro e w4 ⟨rfl, rfl⟩) | (go_at_call 17; refine (accepts_c s' _ _ _ hS2).mono ?_; rintro e w5 ⟨rfl, rfl⟩) | (go_at_call 14; refine (state_c s' _ _ hS2).mono ?_; rintro e w6 ⟨rfl, rfl⟩))
            go_roundw
            case rel => exact ⟨k + 1, s', by omega, by go_num, rfl, hS2, HB2.out, hinv', by omega, by omega, by omega, by omega⟩
            case measure => simp [intOf]; omega
          · obtain ⟨e0, e1, e2⟩ := hinv'.some hp
            have e3 : s'.peer = s'.seen := by omega
            have a1 : accB s' (s'.seen - 1) = false := by simp [accB, e3]; omega
            have a2 : accB s' s'.seen = true := by simp [accB, e3]; omega
            have a3 : (s'.seen != 0) = true := by simp; omega
            have a4 : (s'.seen == 0) = false := by simp; omega
            have a5 : (s'.state == 0) = false := by simp; omega
            have a6 : 0 < s'.seen := by omega
            clear e0 hp
            go_wp2_with (first | (go_at_call 16; refine (peer_c s' _ _ hS2).mono ?_; rintro e w4 ⟨rfl, rfl⟩) | (go_at_call 17; refine (accepts_c s' _ _ _ hS2).mono ?_; rintro e w5 ⟨rfl, rfl⟩) | (go_at_call 14; refine (state_c s' _ _ hS2).mono ?_; rintro e w6 ⟨rfl, rfl⟩))
            go_roundw
            case rel => exact ⟨k + 1, s', by omega, by go_num, rfl, hS2, HB2.out, hinv', by omega, by omega, by omega, by omega⟩
            case measure => simp [intOf]; omega

      · have hk' : k = len0 := by omega
        subst hk'
        go_wp2_with fail
        go_ret
        exact ⟨rfl, join (w := w) hba HB.out⟩
  · go_enter Try.func6, Try.ntmps6
    go_wp2_with fail
    refine (awake_c _).mono ?_
    rintro e wa ⟨rfl, hba⟩
    go_wp2_with fail
    refine (new_c _ _ _ hn).mono ?_
    rintro e wb ⟨rfl, rfl⟩
    go_wp2_with fail
    go_ret
    exact ⟨rfl, hba.alloc hba.size _⟩

set_option maxRecDepth 100000 in
theorem liftedLinkupStale (os : Os) (started : os.Started) (H : Type) (enc : TypeId × Value → H) :
    ReturnsInHanded {} Try.checked os 6 .any (Rows.linkupStaleSpec.pre6 enc Try.prog Try.f6 Rows.linkupStaleRow.domain false) (Rows.linkupStaleSpec.post enc Try.prog Try.f6 false true false false) := by
  refine returnsInHanded_of_change (C := Try.checked) own started (by kernel_rfl) Try.func6
    (ChangeSpec.witness6 (enc := enc) (C := Try.checked) false ⟨#[], #[.slice none 0 0], []⟩ 8 (by kernel_rfl) (by kernel_rfl) (by kernel_rfl) (by kernel_rfl)) ?_
  intro W base args ds gs before hval0 hW hcnd _
  have hval : ∀ (j : Nat) t v, Try.f6.params[j]? = some t → args[j]? = some v → Value.okWide Try.prog W .any base t v := hval0
  have hW' := hW
  obtain ⟨p, q, hA0, hV, rfl, hfz, hnd⟩ := hW
  have hA : DataW.TrodAll enc Try.prog W 0 (fun _ => true) true Try.f6.params.toList args.toList ds p := hA0
  rw [Try.params6] at hA hval
  obtain ⟨v0, vs0, d0, ds0, p0, q0, hargs, rfl, rfl, h0, r0⟩ := trodAll_cons hA
  obtain ⟨rfl, rfl, rfl⟩ := trodAll_nil r0
  obtain rfl : args = #[v0] := by cases args; simp_all
  obtain ⟨rfl, rfl⟩ := trodVars_none hV
  have k0 := h0
  have lt0 : ∀ x ∈ p0, x.block < W.heap.size := by obtain ⟨m, hm⟩ := k0; exact DataW.trod_lt m _ _ _ hm
  obtain ⟨a0, len0, cap0, rfl⟩ := okWide_slice Try.underlying43 (hval 0 43 v0 rfl rfl)
  have w0 : IsRows W 3 IsAct a0 len0 cap0 := open_rows Try.underlying43 (show Try.prog.cellsOf 45 = 3 by kernel_rfl) (by decide) isAct h0
  clear hA0 hval0
  refine (walkLinkupStale a0 len0 cap0 W w0).mono fun e W' ⟨he, bel⟩ => ?_
  subst he
  exact ⟨_, rfl, _, _, _, [], _, [], hW', trodAll_mk1 (shut_bool Try.underlying4 _), (trodAll_cons_mk (Below.trod laidOut (by kernel_rfl) (of_decide_eq_true (by kernel_rfl)) k0 bel lt0) trodAll_mk0), rfl, bel.frame _, fun h => by cases h⟩
/-- The given statement. -/
theorem linkupStale_holds : Rows.LinkupStaleSaid :=
  OpenClaim.holds_of_wide 6 Try.f6 rfl rfl rfl rfl rfl rfl rfl ⟨rfl, rfl, rfl, rfl, rfl⟩ rfl rfl rfl rfl rfl (by kernel_rfl) Try.func6 (by kernel_rfl)
    (of_decide_eq_true (by kernel_rfl)) (by unfold Func.isWrapper; first | (rw [if_pos (by decide +kernel)]; kernel_rfl) | (rw [if_neg (by decide +kernel)]; exact ⟨rfl, rfl⟩))
    (fun os started H enc _ => liftedLinkupStale os started H enc)
#print axioms linkupStale_holds
end Go.Proofs.Ytaonnglopajkcaa
