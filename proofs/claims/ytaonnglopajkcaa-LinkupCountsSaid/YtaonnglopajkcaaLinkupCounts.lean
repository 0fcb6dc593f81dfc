/- For all counts and lists of acts the statement LinkupCounts returns true: the count of changes grows exactly when the state or the peer changes. No condition. -/
import Derived.Test.YtaonnglopajkcaaBase
import Derived.Test.YtaonnglopajkcaaAwake
import Derived.Test.YtaonnglopajkcaaPlainB
namespace Go.Proofs.Ytaonnglopajkcaa
open Go.ChangeShapes Go.WideShapes Go.ChangeAt Go.RowKit
set_option linter.unusedVariables false
set_option maxRecDepth 100000 in
set_option maxHeartbeats 4000000 in
theorem walkLinkupCounts (a0 : Int) (a1 : Option Addr) (len1 cap1 : Nat) (w : World) (w0 : (Lit.int .u8 a0).wf = true) (w1 : IsRows w 3 IsAct a1 len1 cap1) :
    Calls Try.prog 8 #[.int .u8 a0, .slice a1 len1 cap1] w fun e w' => e = .returned (.bool true) ∧ Below w.heap.size w w' := by
  obtain ⟨b1, b2⟩ := bounds_u8 w0
  have hm := w1.2.1
  have hl := w1.1
  unfold maxLen at hm
  have hn : newB 4 (1 + a0 % 9) = true := newB_iff.2 ⟨by omega, by omega⟩
  clear w0
  by_cases hlen : len1 ≤ 60
  · go_enter Try.func8, Try.ntmps8
    go_wp2_with fail
    refine (awake_c _).mono ?_
    rintro e wa ⟨rfl, hba⟩
    have hR := w1.below hba
    have HR := hid hR
    clear hR w1
    go_wp2_with fail
    refine (new_c _ _ _ hn).mono ?_
    rintro e wb ⟨rfl, rfl⟩
    clear hn
    go_wp2_with fail
    go_loopw [34] (fun v34 wr => ∃ (k : Nat) (s : Sd), k ≤ len1 ∧ v34 = .int .i64 k ∧ Side wr wa.heap.size s ∧ Below wa.heap.size wa wr ∧ 0 ≤ s.changes ∧ s.changes ≤ k ∧ 0 ≤ s.silent ∧ s.silent ≤ k) (fun v34 _ => len1 - (intOf v34).toNat)
    case atStart => exact ⟨0, new 4 (1 + a0 % 9), by omega, rfl, Blk.new _ _ _, by go_grown, by simp [new], by simp [new], by simp [new], by simp [new]⟩
    case round =>
      obtain ⟨k, s, hk, rfl, hS, hb, hc1, hc2, hq1, hq2⟩ := hrel
      have HB := hid hb; clear hb
      by_cases hlt : k < len1
      · obtain ⟨b, off, rfl, hblt, hcs⟩ := (HR.out.below HB.out).2.2 (by omega)
        obtain ⟨cs, ⟨g, x, y, rfl, wx, wy⟩, hcell⟩ := hcs k hlt
        have c0 := hcell 0 _ rfl
        have c1 := hcell 1 _ rfl
        have c2 := hcell 2 _ rfl
        rw [Nat.add_zero] at c0
        have hBlt := hS.lt
        clear hcs hcell wx wy
        cases g with
        | true =>
          go_wp2_with fail
          refine (state_c s _ _ (hS.alloc _)).mono ?_; rintro e w6 ⟨rfl, rfl⟩
          go_wp2_with fail
          refine (peer_c s _ _ (hS.alloc _)).mono ?_; rintro e w6 ⟨rfl, rfl⟩
          go_wp2_with fail
          refine (changes_c s _ _ (hS.alloc _)).mono ?_; rintro e w6 ⟨rfl, rfl⟩
          go_wp2_with fail
          refine (recv_c s x y _ wa.heap.size (hS.alloc _) hc1 (by omega)).mono ?_
          rintro e w2 ⟨rfl, hS2, hO⟩
          have hb2 : Below wa.heap.size wa w2 := joinO (w := wa) (W := wr.alloc _) (HB.out.alloc HB.out.size _) hO (Nat.le_refl _) (Nat.le_refl _)
          have HB2 := hid hb2
          have hch := recv_chg s x y
          have hsl : 0 ≤ (recv s x y).silent ∧ (recv s x y).silent ≤ s.silent := by
            cases ht : takes s x with
            | true => have := (recv_yes (y := y) ht).2.2.2; omega
            | false => rw [recv_no ht]; omega
          obtain ⟨hsl1, hsl2⟩ := hsl
          unfold Grew Same at hch
          generalize recv s x y = s' at *
          clear hO hb2 c0 c1 c2
          rcases hch with ⟨hB, hc, hd⟩ | ⟨hB, hc, hd1, hd2⟩
          · by_cases hst : s'.state = s.state
            · have hpe : ¬ s'.peer = s.peer := fun h => hd ⟨hst, h⟩
              have f1 : (s'.state != s.state) = false := by simpa using hst
              have f2 : (s'.peer != s.peer) = true := by simpa using hpe
              have f3 : (s'.changes == s.changes + 1) = true := by simpa using hc
              have l1 : s.changes + 1 ≤ s'.changes := by omega
              have l2 : s'.changes ≤ s.changes + 1 := by omega
              clear hst hpe hd hc
              go_wp2_with (first | (go_at_call 16; refine (peer_c s' _ _ hS2).mono ?_; rintro e w4 ⟨rfl, rfl⟩) | (go_at_call 18; refine (changes_c s' _ _ hS2).mono ?_; rintro e w5 ⟨rfl, rfl⟩) | (go_at_call 14; refine (state_c s' _ _ hS2).mono ?_; rintro e w6 ⟨rfl, rfl⟩))
              go_roundw
              case rel => exact ⟨k + 1, s', by omega, by go_num, hS2, HB2.out, by omega, by omega, by omega, by omega⟩
              case measure => simp [intOf]; omega
            · have f1 : (s'.state != s.state) = true := by simpa using hst
              have f3 : (s'.changes == s.changes + 1) = true := by simpa using hc
              have l1 : s.changes + 1 ≤ s'.changes := by omega
              have l2 : s'.changes ≤ s.changes + 1 := by omega
              clear hst hd hc
              go_wp2_with (first | (go_at_call 16; refine (peer_c s' _ _ hS2).mono ?_; rintro e w4 ⟨rfl, rfl⟩) | (go_at_call 18; refine (changes_c s' _ _ hS2).mono ?_; rintro e w5 ⟨rfl, rfl⟩) | (go_at_call 14; refine (state_c s' _ _ hS2).mono ?_; rintro e w6 ⟨rfl, rfl⟩))
              go_roundw
              case rel => exact ⟨k + 1, s', by omega, by go_num, hS2, HB2.out, by omega, by omega, by omega, by omega⟩
              case measure => simp [intOf]; omega
          · have f1 : (s'.state != s.state) = false := by simpa using hd1
            have f2 : (s'.peer != s.peer) = false := by simpa using hd2
            have f3 : (s'.changes == s.changes + 1) = false := by simp; omega
            have f4 : (s'.changes != s.changes) = false := by simpa using hc
            have l1 : s.changes ≤ s'.changes := by omega
            have l2 : s'.changes ≤ s.changes := by omega
            clear hd1 hd2 hc
            go_wp2_with (first | (go_at_call 16; refine (peer_c s' _ _ hS2).mono ?_; rintro e w4 ⟨rfl, rfl⟩) | (go_at_call 18; refine (changes_c s' _ _ hS2).mono ?_; rintro e w5 ⟨rfl, rfl⟩) | (go_at_call 14; refine (state_c s' _ _ hS2).mono ?_; rintro e w6 ⟨rfl, rfl⟩))
            go_roundw
            case rel => exact ⟨k + 1, s', by omega, by go_num, hS2, HB2.out, by omega, by omega, by omega, by omega⟩
            case measure => simp [intOf]; omega

        | false =>
          go_wp2_with fail
          refine (state_c s _ _ (hS.alloc _)).mono ?_; rintro e w6 ⟨rfl, rfl⟩
          go_wp2_with fail
          refine (peer_c s _ _ (hS.alloc _)).mono ?_; rintro e w6 ⟨rfl, rfl⟩
          go_wp2_with fail
          refine (changes_c s _ _ (hS.alloc _)).mono ?_; rintro e w6 ⟨rfl, rfl⟩
          go_wp2_with fail
          refine (tick_c s _ wa.heap.size (hS.alloc _) hc1 (by omega) hq1 (by omega)).mono ?_
          rintro e w2 ⟨rfl, hS2, hO⟩
          have hb2 : Below wa.heap.size wa w2 := joinO (w := wa) (W := wr.alloc _) (HB.out.alloc HB.out.size _) hO (Nat.le_refl _) (Nat.le_refl _)
          have HB2 := hid hb2
          have hch := tick_chg s
          obtain ⟨hsl1, hsl2⟩ := tick_silent s hq1
          unfold Grew Same at hch
          generalize tick s = s' at *
          clear hO hb2 c0 c1 c2
          rcases hch with ⟨hc, hd⟩ | ⟨hc, hd1, hd2⟩
          · by_cases hst : s'.state = s.state
            · have hpe : ¬ s'.peer = s.peer := fun h => hd ⟨hst, h⟩
              have f1 : (s'.state != s.state) = false := by simpa using hst
              have f2 : (s'.peer != s.peer) = true := by simpa using hpe
              have f3 : (s'.changes == s.changes + 1) = true := by simpa using hc
              have l1 : s.changes + 1 ≤ s'.changes := by omega
              have l2 : s'.changes ≤ s.changes + 1 := by omega
              clear hst hpe hd hc
              go_wp2_with (first | (go_at_call 16; refine (peer_c s' _ _ hS2).mono ?_; rintro e w4 ⟨rfl, rfl⟩) | (go_at_call 18; refine (changes_c s' _ _ hS2).mono ?_; rintro e w5 ⟨rfl, rfl⟩) | (go_at_call 14; refine (state_c s' _ _ hS2).mono ?_; rintro e w6 ⟨rfl, rfl⟩))
              go_roundw
              case rel => exact ⟨k + 1, s', by omega, by go_num, hS2, HB2.out, by omega, by omega, by omega, by omega⟩
              case measure => simp [intOf]; omega
            · have f1 : (s'.state != s.state) = true := by simpa using hst
              have f3 : (s'.changes == s.changes + 1) = true := by simpa using hc
              have l1 : s.changes + 1 ≤ s'.changes := by omega
              have l2 : s'.changes ≤ s.changes + 1 := by omega
              clear hst hd hc
              go_wp2_with (first | (go_at_call 16; refine (peer_c s' _ _ hS2).mono ?_; rintro e w4 ⟨rfl, rfl⟩) | (go_at_call 18; refine (changes_c s' _ _ hS2).mono ?_; rintro e w5 ⟨rfl, rfl⟩) | (go_at_call 14; refine (state_c s' _ _ hS2).mono ?_; rintro e w6 ⟨rfl, rfl⟩))
              go_roundw
              case rel => exact ⟨k + 1, s', by omega, by go_num, hS2, HB2.out, by omega, by omega, by omega, by omega⟩
              case measure => simp [intOf]; omega
          · have f1 : (s'.state != s.state) = false := by simpa using hd1
            have f2 : (s'.peer != s.peer) = false := by simpa using hd2
            have f3 : (s'.changes == s.changes + 1) = false := by simp; omega
            have f4 : (s'.changes != s.changes) = false := by simpa using hc
            have l1 : s.changes ≤ s'.changes := by omega
            have l2 : s'.changes ≤ s.changes := by omega
            clear hd1 hd2 hc
            go_wp2_with (first | (go_at_call 16; refine (peer_c s' _ _ hS2).mono ?_; rintro e w4 ⟨rfl, rfl⟩) | (go_at_call 18; refine (changes_c s' _ _ hS2).mono ?_; rintro e w5 ⟨rfl, rfl⟩) | (go_at_call 14; refine (state_c s' _ _ hS2).mono ?_; rintro e w6 ⟨rfl, rfl⟩))
            go_roundw
            case rel => exact ⟨k + 1, s', by omega, by go_num, hS2, HB2.out, by omega, by omega, by omega, by omega⟩
            case measure => simp [intOf]; omega

      · have hk' : k = len1 := by omega
        subst hk'
        go_wp2_with fail
        go_ret
        exact ⟨rfl, join (w := w) hba HB.out⟩
  · go_enter Try.func8, Try.ntmps8
    go_wp2_with fail
    refine (awake_c _).mono ?_
    rintro e wa ⟨rfl, hba⟩
    go_wp2_with fail
    refine (new_c _ _ _ hn).mono ?_
    rintro e wb ⟨rfl, rfl⟩
    go_wp2_with fail
    go_ret
    exact ⟨rfl, hba.alloc hba.size _⟩

set_option maxRecDepth 100000 in
theorem liftedLinkupCounts (os : Os) (started : os.Started) (H : Type) (enc : TypeId × Value → H) :
    ReturnsInHanded {} Try.checked os 8 .any (Rows.linkupCountsSpec.pre6 enc Try.prog Try.f8 Rows.linkupCountsRow.domain false) (Rows.linkupCountsSpec.post enc Try.prog Try.f8 false true false false) := by
  refine returnsInHanded_of_change (C := Try.checked) own started (by kernel_rfl) Try.func8
    (ChangeSpec.witness6 (enc := enc) (C := Try.checked) false ⟨#[], #[.int .u8 0, .slice none 0 0], []⟩ 8 (by kernel_rfl) (by kernel_rfl) (by kernel_rfl) (by kernel_rfl)) ?_
  intro W base args ds gs before hval0 hW hcnd _
  have hval : ∀ (j : Nat) t v, Try.f8.params[j]? = some t → args[j]? = some v → Value.okWide Try.prog W .any base t v := hval0
  have hW' := hW
  obtain ⟨p, q, hA0, hV, rfl, hfz, hnd⟩ := hW
  have hA : DataW.TrodAll enc Try.prog W 0 (fun _ => true) true Try.f8.params.toList args.toList ds p := hA0
  rw [Try.params8] at hA hval
  obtain ⟨v0, vs0, d0, ds0, p0, q0, hargs, rfl, rfl, h0, r0⟩ := trodAll_cons hA
  obtain ⟨v1, vs1, d1, ds1, p1, q1, rfl, rfl, rfl, h1, r1⟩ := trodAll_cons r0
  obtain ⟨rfl, rfl, rfl⟩ := trodAll_nil r1
  obtain rfl : args = #[v0, v1] := by cases args; simp_all
  obtain ⟨rfl, rfl⟩ := trodVars_none hV
  have k0 := h0
  have lt0 : ∀ x ∈ p0, x.block < W.heap.size := by obtain ⟨m, hm⟩ := k0; exact DataW.trod_lt m _ _ _ hm
  have k1 := h1
  have lt1 : ∀ x ∈ p1, x.block < W.heap.size := by obtain ⟨m, hm⟩ := k1; exact DataW.trod_lt m _ _ _ hm
  obtain ⟨a0, rfl, -, -, w0⟩ := open_int Try.underlying5 (hval 0 5 v0 rfl rfl) h0
  obtain ⟨a1, len1, cap1, rfl⟩ := okWide_slice Try.underlying43 (hval 1 43 v1 rfl rfl)
  have w1 : IsRows W 3 IsAct a1 len1 cap1 := open_rows Try.underlying43 (show Try.prog.cellsOf 45 = 3 by kernel_rfl) (by decide) isAct h1
  clear hA0 hval0
  refine (walkLinkupCounts a0 a1 len1 cap1 W w0 w1).mono fun e W' ⟨he, bel⟩ => ?_
  subst he
  exact ⟨_, rfl, _, _, _, [], _, [], hW', trodAll_mk1 (shut_bool Try.underlying4 _), (trodAll_cons_mk (Below.trod laidOut (by kernel_rfl) (of_decide_eq_true (by kernel_rfl)) k0 bel lt0) (trodAll_cons_mk (Below.trod laidOut (by kernel_rfl) (of_decide_eq_true (by kernel_rfl)) k1 bel lt1) trodAll_mk0)), rfl, bel.frame _, fun h => by cases h⟩
/-- The given statement. -/
theorem linkupCounts_holds : Rows.LinkupCountsSaid :=
  OpenClaim.holds_of_wide 8 Try.f8 rfl rfl rfl rfl rfl rfl rfl ⟨rfl, rfl, rfl, rfl, rfl⟩ rfl rfl rfl rfl rfl (by kernel_rfl) Try.func8 (by kernel_rfl)
    (of_decide_eq_true (by kernel_rfl)) (by unfold Func.isWrapper; first | (rw [if_pos (by decide +kernel)]; kernel_rfl) | (rw [if_neg (by decide +kernel)]; exact ⟨rfl, rfl⟩))
    (fun os started H enc _ => liftedLinkupCounts os started H enc)
#print axioms linkupCounts_holds
end Go.Proofs.Ytaonnglopajkcaa
