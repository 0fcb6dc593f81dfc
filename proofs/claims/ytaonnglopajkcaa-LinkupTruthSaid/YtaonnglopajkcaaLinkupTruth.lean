/- For every incarnation and every list of greetings the statement LinkupTruth returns true: a side is Up only if the last greeting that it did not ignore named its own incarnation. No condition. -/
import Derived.Test.YtaonnglopajkcaaBase
import Derived.Test.YtaonnglopajkcaaAwake
namespace Go.Proofs.Ytaonnglopajkcaa
open Go.ChangeShapes Go.WideShapes Go.ChangeAt Go.RowKit
set_option linter.unusedVariables false
set_option maxHeartbeats 2000000 in
theorem walkLinkupTruth (a0 : Int) (a1 : Option Addr) (len1 cap1 : Nat) (w : World) (w0 : (Lit.int .u32 a0).wf = true) (w1 : IsRows w 2 IsGreet a1 len1 cap1) :
    Calls Try.prog 3 #[.int .u32 a0, .slice a1 len1 cap1] w fun e w' => e = .returned (.bool true) ∧ Below w.heap.size w w' := by
  obtain ⟨b1, b2⟩ : 0 ≤ a0 ∧ a0 ≤ 4294967295 := by
    simp [Lit.wf, IntKind.min, IntKind.max, IntKind.signed, IntKind.bits] at w0
    omega
  have hn : newB (1 + a0) 1000 = true := newB_iff.2 ⟨by omega, by omega⟩
  have hm := w1.2.1
  have hl := w1.1
  unfold maxLen at hm
  clear w0
  by_cases hlen : len1 ≤ 60
  · go_enter Try.func3, Try.ntmps3
    go_wp2_with fail
    refine (awake_c _).mono ?_
    rintro e wa ⟨rfl, hba⟩
    have hR := w1.below hba
    have HR := hid hR
    clear hR w1
    go_wp2_with fail
    refine (new_c _ _ _ hn).mono ?_
    rintro e wb ⟨rfl, rfl⟩
    go_wp2_with fail
    go_loopw [8, 9, 33] (fun v8 v9 v33 wr => ∃ (k : Nat) (s : Sd), k ≤ len1 ∧ v33 = .int .i64 k ∧ v8 = .int .i64 s.seen ∧ v9 = .int .i64 s.state ∧ Side wr wa.heap.size s ∧ Below wa.heap.size wa wr ∧ Hid (s.mine = 1 + a0) ∧ 0 ≤ s.changes ∧ s.changes ≤ k) (fun _ _ v33 _ => len1 - (intOf v33).toNat)
    case atStart => exact ⟨0, new (1 + a0) 1000, by omega, rfl, rfl, rfl, Blk.new _ _ _, by go_grown, rfl, by simp [new], by simp [new]⟩
    case round =>
      obtain ⟨k, s, hk, rfl, rfl, rfl, hS, hb, hmine, hc1, hc2⟩ := hrel
      have HB := hid hb; clear hb
      by_cases hlt : k < len1
      · obtain ⟨b, off, rfl, hblt, hcs⟩ := (HR.out.below HB.out).2.2 (by omega)
        obtain ⟨cs, ⟨x, y, rfl, wx, wy⟩, hcell⟩ := hcs k hlt
        have c0 := hcell 0 _ rfl
        have c1 := hcell 1 _ rfl
        have hBlt := hS.lt
        rw [Nat.add_zero] at c0
        clear hcs hcell wx wy
        go_wp2_with fail
        refine (recv_c s x y _ wa.heap.size (hS.alloc _) hc1 (by omega)).mono ?_
        rintro e w2 ⟨rfl, hS2, hO⟩
        have hz : wr.heap.size < w2.heap.size := Nat.lt_of_lt_of_le (by simp) hO.size
        have hN := (Blk.new wr 30 #[.int .i64 x, .int .i64 y]).only hO (by omega)
        have g0 := hN.cell 0 (v := .int .i64 x) rfl
        have g1 := hN.cell 1 (v := .int .i64 y) rfl
        have hb2 : Below wa.heap.size wa w2 := joinO (w := wa) (W := wr.alloc _) (HB.out.alloc HB.out.size _) hO (Nat.le_refl _) (Nat.le_refl _)
        have HB2 := hid hb2
        obtain ⟨hc3, hc4⟩ := recv_changes s x y
        have hmine2 := hid (recv_mine s x y)
        have hR1 := recv_no (s := s) (m := x) (y := y)
        have hR2 := recv_yes (s := s) (m := x) (y := y)
        generalize recv s x y = s' at *
        clear hO hN hb2 c0 c1
        by_cases ht : takes s x = true
        · obtain ⟨⟨t1, t2⟩, t3⟩ := takes_iff.1 ht
          obtain ⟨r1, r2, r3, r4⟩ := hR2 ht
          clear hR1 hR2
          by_cases hy : y = 1 + a0
          · have r1' : s'.state = 2 := by rw [r1, recvTo, hmine.out, if_pos hy]
            have hy' : (y == 1 + a0) = true := by simpa using hy
            clear r1 hy
            go_wp2_with (go_at_call 14; refine (state_c s' _ _ hS2).mono ?_; rintro e w3 ⟨rfl, rfl⟩)
            go_roundw
            case rel => exact ⟨k + 1, s', by omega, by go_num, by rw [r3], by rw [r1'], hS2, HB2.out, hid (hmine2.out.trans hmine.out), by omega, by omega⟩
            case measure => simp [intOf]; omega
          · have r1' : s'.state = 1 := by rw [r1, recvTo, hmine.out, if_neg hy]
            have hy' : (y == 1 + a0) = false := by simpa using hy
            clear r1 hy
            go_wp2_with (go_at_call 14; refine (state_c s' _ _ hS2).mono ?_; rintro e w3 ⟨rfl, rfl⟩)
            go_roundw
            case rel => exact ⟨k + 1, s', by omega, by go_num, by rw [r3], by rw [r1'], hS2, HB2.out, hid (hmine2.out.trans hmine.out), by omega, by omega⟩
            case measure => simp [intOf]; omega
        · have e := hR1 (by simpa using ht)
          subst e
          clear hR1 hR2
          by_cases t1 : 1 ≤ x
          · by_cases t2 : x ≤ 1099511627775
            · have t3 : x < s'.seen := by
                rcases Int.lt_or_le x s'.seen with h | h
                · exact h
                · exact absurd (takes_iff.2 ⟨⟨t1, t2⟩, h⟩) ht
              go_wp2_with (go_at_call 14; refine (state_c s' _ _ hS2).mono ?_; rintro e w3 ⟨rfl, rfl⟩)
              go_roundw
              case rel => exact ⟨k + 1, s', by omega, by go_num, rfl, rfl, hS2, HB2.out, hmine, by omega, by omega⟩
              case measure => simp [intOf]; omega
            · go_wp2_with (go_at_call 14; refine (state_c s' _ _ hS2).mono ?_; rintro e w3 ⟨rfl, rfl⟩)
              go_roundw
              case rel => exact ⟨k + 1, s', by omega, by go_num, rfl, rfl, hS2, HB2.out, hmine, by omega, by omega⟩
              case measure => simp [intOf]; omega
          · go_wp2_with (go_at_call 14; refine (state_c s' _ _ hS2).mono ?_; rintro e w3 ⟨rfl, rfl⟩)
            go_roundw
            case rel => exact ⟨k + 1, s', by omega, by go_num, rfl, rfl, hS2, HB2.out, hmine, by omega, by omega⟩
            case measure => simp [intOf]; omega
      · have hk' : k = len1 := by omega
        subst hk'
        go_wp2_with fail
        go_ret
        exact ⟨rfl, join (w := w) hba HB.out⟩
  · go_enter Try.func3, Try.ntmps3
    go_wp2_with fail
    refine (awake_c _).mono ?_
    rintro e wa ⟨rfl, hba⟩
    go_wp2_with fail
    refine (new_c _ _ _ hn).mono ?_
    rintro e wb ⟨rfl, rfl⟩
    go_wp2_with fail
    go_ret
    exact ⟨rfl, hba.alloc hba.size _⟩

set_option maxRecDepth 100000 in
theorem liftedLinkupTruth (os : Os) (started : os.Started) (H : Type) (enc : TypeId × Value → H) :
    ReturnsInHanded {} Try.checked os 3 .any (Rows.linkupTruthSpec.pre6 enc Try.prog Try.f3 Rows.linkupTruthRow.domain false) (Rows.linkupTruthSpec.post enc Try.prog Try.f3 false true false false) := by
  refine returnsInHanded_of_change (C := Try.checked) own started (by kernel_rfl) Try.func3
    (ChangeSpec.witness6 (enc := enc) (C := Try.checked) false ⟨#[], #[.int .u32 0, .slice none 0 0], []⟩ 8 (by kernel_rfl) (by kernel_rfl) (by kernel_rfl) (by kernel_rfl)) ?_
  intro W base args ds gs before hval0 hW hcnd _
  have hval : ∀ (j : Nat) t v, Try.f3.params[j]? = some t → args[j]? = some v → Value.okWide Try.prog W .any base t v := hval0
  have hW' := hW
  obtain ⟨p, q, hA0, hV, rfl, hfz, hnd⟩ := hW
  have hA : DataW.TrodAll enc Try.prog W 0 (fun _ => true) true Try.f3.params.toList args.toList ds p := hA0
  rw [Try.params3] at hA hval
  obtain ⟨v0, vs0, d0, ds0, p0, q0, hargs, rfl, rfl, h0, r0⟩ := trodAll_cons hA
  obtain ⟨v1, vs1, d1, ds1, p1, q1, rfl, rfl, rfl, h1, r1⟩ := trodAll_cons r0
  obtain ⟨rfl, rfl, rfl⟩ := trodAll_nil r1
  obtain rfl : args = #[v0, v1] := by cases args; simp_all
  obtain ⟨rfl, rfl⟩ := trodVars_none hV
  have k0 := h0
  have lt0 : ∀ x ∈ p0, x.block < W.heap.size := by obtain ⟨m, hm⟩ := k0; exact DataW.trod_lt m _ _ _ hm
  have k1 := h1
  have lt1 : ∀ x ∈ p1, x.block < W.heap.size := by obtain ⟨m, hm⟩ := k1; exact DataW.trod_lt m _ _ _ hm
  obtain ⟨a0, rfl, -, -, w0⟩ := open_int Try.underlying22 (hval 0 22 v0 rfl rfl) h0
  obtain ⟨a1, len1, cap1, rfl⟩ := okWide_slice Try.underlying23 (hval 1 23 v1 rfl rfl)
  have w1 : IsRows W 2 IsGreet a1 len1 cap1 := open_rows Try.underlying23 (show Try.prog.cellsOf 30 = 2 by kernel_rfl) (by decide) isGreet h1
  clear hA0 hval0
  refine (walkLinkupTruth a0 a1 len1 cap1 W w0 w1).mono fun e W' ⟨he, bel⟩ => ?_
  subst he
  exact ⟨_, rfl, _, _, _, [], _, [], hW', trodAll_mk1 (shut_bool Try.underlying4 _), (trodAll_cons_mk (Below.trod laidOut (by kernel_rfl) (of_decide_eq_true (by kernel_rfl)) k0 bel lt0) (trodAll_cons_mk (Below.trod laidOut (by kernel_rfl) (of_decide_eq_true (by kernel_rfl)) k1 bel lt1) trodAll_mk0)), rfl, bel.frame _, fun h => by cases h⟩
/-- The given statement. -/
theorem linkupTruth_holds : Rows.LinkupTruthSaid :=
  OpenClaim.holds_of_wide 3 Try.f3 rfl rfl rfl rfl rfl rfl rfl ⟨rfl, rfl, rfl, rfl, rfl⟩ rfl rfl rfl rfl rfl (by kernel_rfl) Try.func3 (by kernel_rfl)
    (of_decide_eq_true (by kernel_rfl)) (by unfold Func.isWrapper; first | (rw [if_pos (by decide +kernel)]; kernel_rfl) | (rw [if_neg (by decide +kernel)]; exact ⟨rfl, rfl⟩))
    (fun os started H enc _ => liftedLinkupTruth os started H enc)
#print axioms linkupTruth_holds
end Go.Proofs.Ytaonnglopajkcaa
