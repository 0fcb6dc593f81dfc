/- For all counts and lists the statement LinkupSilence returns true: a side that hears nothing becomes Down in time and not earlier. No condition. -/
import Derived.Test.YtaonnglopajkcaaBase
import Derived.Test.YtaonnglopajkcaaAwake
import Derived.Test.YtaonnglopajkcaaPlainB
import Derived.Test.YtaonnglopajkcaaPlainC
namespace Go.Proofs.Ytaonnglopajkcaa
open Go.ChangeShapes Go.WideShapes Go.ChangeAt Go.RowKit
set_option linter.unusedVariables false
/-- One byte. -/
def IsByte (cs : List Value) : Prop := ∃ x : Int, cs = [.int .u8 x] ∧ 0 ≤ x ∧ x ≤ 255
theorem isByte {H : Type} {enc : TypeId × Value → H} {w : World} {base : Nat} {spare : Nat → Bool} {held : Bool} (n : Nat) (cs : List Value) (y : DataW H × List MemPlace) (hl : cs.length = 1)
    (h : DataW.trod enc Try.prog w base spare held n 5 cs = some y) : IsByte cs := by
  obtain ⟨x, e, _, wx⟩ := DataW.trod_int Try.underlying5 h
  exact ⟨x, e, bounds_u8 wx⟩
theorem field_yours (a b : Int) (w : World) : (Instr.field 30 (.agg #[.int .i64 a, .int .i64 b]) 1).run Try.prog w = .ok (.int .i64 b) w := by kernel_rfl
set_option maxHeartbeats 4000000 in
theorem walkLinkupSilence (a0 : Int) (a1 : Option Addr) (len1 cap1 : Nat) (w : World) (w0 : (Lit.int .u8 a0).wf = true) (w1 : IsRows w 1 IsByte a1 len1 cap1) :
    Calls Try.prog 7 #[.int .u8 a0, .slice a1 len1 cap1] w fun e w' => e = .returned (.bool true) ∧ Below w.heap.size w w' := by
  obtain ⟨b1, b2⟩ := bounds_u8 w0
  have hm := w1.2.1
  have hl := w1.1
  unfold maxLen at hm
  have n1 : 1 ≤ 1 + a0 % 60 := by omega
  have n2 : 1 + a0 % 60 ≤ 60 := by omega
  obtain ⟨n, hnn⟩ : ∃ n, n = 1 + a0 % 60 := ⟨_, rfl⟩
  rw [← hnn] at n1 n2
  have hn : newB 3 n = true := newB_iff.2 ⟨by omega, by omega⟩
  have HNN := hid hnn
  clear w0 hnn
  by_cases hlen : len1 ≤ 10
  · go_enter Try.func7, Try.ntmps7
    go_wp2_with fail
    refine (awake_c _).mono ?_
    rintro e wa ⟨rfl, hba⟩
    have hR := w1.below hba
    have HR := hid hR
    clear hR w1
    go_wp2_with fail
    rw [← HNN.out]
    refine (new_c _ _ _ hn).mono ?_
    rintro e wb ⟨rfl, rfl⟩
    clear hn
    go_wp2_with fail
    go_loopw [41] (fun v41 wr => ∃ (k : Nat) (s : Sd), k ≤ len1 ∧ v41 = .int .i64 k ∧ recv s 9 3 = U n 0 ∧ 0 ≤ s.changes ∧ s.changes ≤ 1 ∧ Side wr wa.heap.size s ∧ Below wa.heap.size wa wr) (fun v41 _ => len1 - (intOf v41).toNat)
    case atStart => exact ⟨0, new 3 n, by omega, rfl, rfl, by simp [new], by simp [new], Blk.new _ _ _, by go_grown⟩
    case round =>
      obtain ⟨k, s, hk, rfl, hrec, hc1, hc2, hS, hb⟩ := hrel
      have HREC := hid hrec
      have HB := hid hb
      clear hrec hb
      by_cases hlt : k < len1
      · obtain ⟨b, off, rfl, hblt, hcs⟩ := (HR.out.below HB.out).2.2 (by omega)
        obtain ⟨cs, ⟨x, rfl, wx, wy⟩, hcell⟩ := hcs k hlt
        have c0 := hcell 0 _ rfl
        rw [Nat.add_zero, Nat.mul_one] at c0
        have hBlt := hS.lt
        have m1 : 0 ≤ x % n := Int.emod_nonneg _ (by omega)
        have m2 : x % n < n := Int.emod_lt_of_pos _ (by omega)
        have nz : (n == 0) = false := by simp; omega
        clear hcs hcell
        go_wp2_with fail
        refine (recv_c s 9 3 _ wa.heap.size hS hc1 (by omega)).mono ?_
        rintro e w2 ⟨rfl, hS2, hO⟩
        rw [HREC.out] at hS2
        have HB2 := hid (joinO HB.out hO (Nat.le_refl _) (Nat.le_refl _))
        clear hO
        go_wp2_with fail
        obtain ⟨wo, rfl⟩ : ∃ wo : World, wo = wr := ⟨_, rfl⟩
        go_loopw [52] (fun v52 wr => ∃ j : Nat, (j : Int) ≤ x % n ∧ v52 = .int .i64 j ∧ Side wr wa.heap.size ⟨3, n, 9, 9, 2, j, 1⟩ ∧ Below wa.heap.size wa wr) (fun v52 _ => (x % n).toNat - (intOf v52).toNat)
        case atStart => exact ⟨0, by omega, rfl, hS2, HB2.out⟩
        case round =>
          obtain ⟨j, hj, rfl, hS3, hb3⟩ := hrel
          have HB3 := hid hb3
          clear hb3
          by_cases hjl : (j : Int) < x % n
          · go_wp2_with fail
            refine (tick_c ⟨3, n, 9, 9, 2, j, 1⟩ _ wa.heap.size hS3 (by simp) (by simp) (by simp) (by simp; omega)).mono ?_
            rw [show tick ⟨3, n, 9, 9, 2, j, 1⟩ = ⟨3, n, 9, 9, 2, j + 1, 1⟩ from tick_U (q := j) (by omega)]
            rintro e w4 ⟨rfl, hS4, hO⟩
            have HB4 := hid (joinO HB3.out hO (Nat.le_refl _) (Nat.le_refl _))
            clear hO
            have hfi := field_yours 3 9
            go_wp2_with fail
            go_roundw
            case rel => exact ⟨j + 1, by omega, by go_num, hS4, HB4.out⟩
            case measure => simp [intOf]; omega
          · go_wp2_with (first | (go_at_call 16; refine (peer_c ⟨3, n, 9, 9, 2, j, 1⟩ _ _ hS3).mono ?_; rintro e w4 ⟨rfl, rfl⟩) | (go_at_call 14; refine (state_c ⟨3, n, 9, 9, 2, j, 1⟩ _ _ hS3).mono ?_; rintro e w6 ⟨rfl, rfl⟩))
            go_roundw
            case rel => exact ⟨k + 1, ⟨3, n, 9, 9, 2, j, 1⟩, by omega, by go_num, recv_U n j, by simp, by simp, hS3, HB3.out⟩
            case measure => simp [intOf]; omega
      · have hk' : k = len1 := by omega
        subst hk'
        go_wp2_with fail
        refine (recv_c s 9 3 _ wa.heap.size hS hc1 (by omega)).mono ?_
        rintro e w2 ⟨rfl, hS2, hO⟩
        rw [HREC.out] at hS2
        have HB2 := hid (joinO HB.out hO (Nat.le_refl _) (Nat.le_refl _))
        clear hO
        go_wp2_with fail
        obtain ⟨wo, rfl⟩ : ∃ wo : World, wo = wr := ⟨_, rfl⟩
        go_loopw [72] (fun v72 wr => ∃ j : Nat, v72 = .int .i64 j ∧ (((j : Int) < n ∧ Side wr wa.heap.size ⟨3, n, 9, 9, 2, j, 1⟩) ∨ ((j : Int) = n ∧ Side wr wa.heap.size ⟨3, n, 0, 9, 0, 0, 2⟩)) ∧ Below wa.heap.size wa wr) (fun v72 _ => n.toNat - (intOf v72).toNat)
        case atStart => exact ⟨0, rfl, .inl ⟨by omega, hS2⟩, HB2.out⟩
        case round =>
          obtain ⟨j, rfl, hj, hb3⟩ := hrel
          have HB3 := hid hb3
          clear hb3
          rcases hj with ⟨hj, hS3⟩ | ⟨hj, hS3⟩
          · by_cases hl2 : (j : Int) + 1 < n
            · go_wp2_with fail
              refine (tick_c ⟨3, n, 9, 9, 2, j, 1⟩ _ wa.heap.size hS3 (by simp) (by simp) (by simp) (by simp; omega)).mono ?_
              rw [show tick ⟨3, n, 9, 9, 2, j, 1⟩ = ⟨3, n, 9, 9, 2, j + 1, 1⟩ from tick_U (q := j) (by omega)]
              rintro e w4 ⟨rfl, hS4, hO⟩
              have HB4 := hid (joinO HB3.out hO (Nat.le_refl _) (Nat.le_refl _))
              clear hO
              have hfi := field_yours 3 9
              have hdd : decide ((j : Int) < n - 1) = true := by simp; omega
              go_wp2_with fail
              go_roundw
              case rel => exact ⟨j + 1, by go_num, .inl ⟨by omega, hS4⟩, HB4.out⟩
              case measure => simp [intOf]; omega
            · go_wp2_with fail
              refine (tick_c ⟨3, n, 9, 9, 2, j, 1⟩ _ wa.heap.size hS3 (by simp) (by simp) (by simp) (by simp; omega)).mono ?_
              rw [show tick ⟨3, n, 9, 9, 2, j, 1⟩ = ⟨3, n, 0, 9, 0, 0, 2⟩ from tick_U' (q := j) (by omega)]
              rintro e w4 ⟨rfl, hS4, hO⟩
              have HB4 := hid (joinO HB3.out hO (Nat.le_refl _) (Nat.le_refl _))
              clear hO
              have hfi := field_yours 3 0
              go_wp2_with fail
              go_roundw
              case rel => exact ⟨j + 1, by go_num, .inr ⟨by omega, hS4⟩, HB4.out⟩
              case measure => simp [intOf]; omega
          · have hj' := hid hj
            have hjn : n ≤ (j : Int) := by omega
            clear hj
            have ha : accB ⟨3, n, 0, 9, 0, 0, 2⟩ 9 = false := rfl
            go_wp2_with (first | (go_at_call 16; refine (peer_c ⟨3, n, 0, 9, 0, 0, 2⟩ _ _ hS3).mono ?_; rintro e w4 ⟨rfl, rfl⟩) | (go_at_call 14; refine (state_c ⟨3, n, 0, 9, 0, 0, 2⟩ _ _ hS3).mono ?_; rintro e w6 ⟨rfl, rfl⟩) | (go_at_call 17; refine (accepts_c ⟨3, n, 0, 9, 0, 0, 2⟩ _ _ _ hS3).mono ?_; rintro e w7 ⟨rfl, rfl⟩))
            refine (tick_c ⟨3, n, 0, 9, 0, 0, 2⟩ _ wa.heap.size hS3 (by simp) (by simp) (by simp) (by simp)).mono ?_
            rw [show tick ⟨3, n, 0, 9, 0, 0, 2⟩ = ⟨3, n, 0, 9, 0, 0, 2⟩ from tick_D n]
            rintro e w4 ⟨rfl, hS4, hO⟩
            have HB4 := hid (joinO HB3.out hO (Nat.le_refl _) (Nat.le_refl _))
            clear hO
            go_wp2_with fail
            go_ret
            exact ⟨rfl, join (w := w) hba HB4.out⟩
  · go_enter Try.func7, Try.ntmps7
    go_wp2_with fail
    refine (awake_c _).mono ?_
    rintro e wa ⟨rfl, hba⟩
    go_wp2_with fail
    rw [← HNN.out]
    refine (new_c _ _ _ hn).mono ?_
    rintro e wb ⟨rfl, rfl⟩
    go_wp2_with fail
    go_ret
    exact ⟨rfl, hba.alloc hba.size _⟩

set_option maxRecDepth 100000 in
theorem liftedLinkupSilence (os : Os) (started : os.Started) (H : Type) (enc : TypeId × Value → H) :
    ReturnsInHanded {} Try.checked os 7 .any (Rows.linkupSilenceSpec.pre6 enc Try.prog Try.f7 Rows.linkupSilenceRow.domain false) (Rows.linkupSilenceSpec.post enc Try.prog Try.f7 false true false false) := by
  refine returnsInHanded_of_change (C := Try.checked) own started (by kernel_rfl) Try.func7
    (ChangeSpec.witness6 (enc := enc) (C := Try.checked) false ⟨#[], #[.int .u8 0, .slice none 0 0], []⟩ 8 (by kernel_rfl) (by kernel_rfl) (by kernel_rfl) (by kernel_rfl)) ?_
  intro W base args ds gs before hval0 hW hcnd _
  have hval : ∀ (j : Nat) t v, Try.f7.params[j]? = some t → args[j]? = some v → Value.okWide Try.prog W .any base t v := hval0
  have hW' := hW
  obtain ⟨p, q, hA0, hV, rfl, hfz, hnd⟩ := hW
  have hA : DataW.TrodAll enc Try.prog W 0 (fun _ => true) true Try.f7.params.toList args.toList ds p := hA0
  rw [Try.params7] at hA hval
  obtain ⟨v0, vs0, d0, ds0, p0, q0, hargs, rfl, rfl, h0, r0⟩ := trodAll_cons hA
  obtain ⟨v1, vs1, d1, ds1, p1, q1, rfl, rfl, rfl, h1, r1⟩ := trodAll_cons r0
  obtain ⟨rfl, rfl, rfl⟩ := trodAll_nil r1
  obtain rfl : args = #[v0, v1] := by cases args; simp_all
  obtain ⟨rfl, rfl⟩ := trodVars_none hV
  have k0 := h0
  have lt0 : ∀ x ∈ p0, x.block < W.heap.size := by obtain ⟨m, hm⟩ := k0; exact DataW.trod_lt m _ _ _ hm
  have k1 := h1
  have lt1 : ∀ x ∈ p1, x.block < W.heap.size := by obtain ⟨m, hm⟩ := k1; exact DataW.trod_lt m _ _ _ hm
  obtain ⟨a0, rfl, -, -, w0⟩ := open_int Try.underlying5 (hval 0 5 v0 rfl rfl) h0
  obtain ⟨a1, len1, cap1, rfl⟩ := okWide_slice Try.underlying36 (hval 1 36 v1 rfl rfl)
  have w1 : IsRows W 1 IsByte a1 len1 cap1 := open_rows Try.underlying36 (show Try.prog.cellsOf 5 = 1 by kernel_rfl) (by decide) isByte h1
  clear hA0 hval0
  refine (walkLinkupSilence a0 a1 len1 cap1 W w0 w1).mono fun e W' ⟨he, bel⟩ => ?_
  subst he
  exact ⟨_, rfl, _, _, _, [], _, [], hW', trodAll_mk1 (shut_bool Try.underlying4 _), (trodAll_cons_mk (Below.trod laidOut (by kernel_rfl) (of_decide_eq_true (by kernel_rfl)) k0 bel lt0) (trodAll_cons_mk (Below.trod laidOut (by kernel_rfl) (of_decide_eq_true (by kernel_rfl)) k1 bel lt1) trodAll_mk0)), rfl, bel.frame _, fun h => by cases h⟩
/-- The given statement. -/
theorem linkupSilence_holds : Rows.LinkupSilenceSaid :=
  OpenClaim.holds_of_wide 7 Try.f7 rfl rfl rfl rfl rfl rfl rfl ⟨rfl, rfl, rfl, rfl, rfl⟩ rfl rfl rfl rfl rfl (by kernel_rfl) Try.func7 (by kernel_rfl)
    (of_decide_eq_true (by kernel_rfl)) (by unfold Func.isWrapper; first | (rw [if_pos (by decide +kernel)]; kernel_rfl) | (rw [if_neg (by decide +kernel)]; exact ⟨rfl, rfl⟩))
    (fun os started H enc _ => liftedLinkupSilence os started H enc)
#print axioms linkupSilence_holds
end Go.Proofs.Ytaonnglopajkcaa
