/- Linecode: plain, bit, Balanced and Run. -/
import Derived.Test.YtkpnggnanacaaaaDoorRd
import Derived.Laws.BitsLemmas
namespace Go.Proofs.YtkpnggnanacaaaaDoor
set_option linter.unusedVariables false
set_option linter.unusedSimpArgs false
open Go.RowKit
/-- A fact that no search opens. -/
structure Kept (p : Prop) : Prop where
  out : p
theorem plainB_no {xs : List Int} {k : Nat} (hk : k < xs.length) (h : 63 < xs.getD k 0) : plainB xs = false := by
  unfold plainB
  rw [List.all_eq_false]
  refine ⟨xs[k], List.getElem_mem hk, ?_⟩
  rw [List.getD_eq_getElem?_getD, List.getElem?_eq_getElem hk] at h
  simp at h ⊢
  omega
theorem plainB_yes {xs : List Int} (h : ∀ k, k < xs.length → xs.getD k 0 ≤ 63) : plainB xs = true := by
  unfold plainB
  rw [List.all_eq_true]
  intro x hx
  obtain ⟨k, hk, rfl⟩ := List.getElem_of_mem hx
  have := h k hk
  rw [List.getD_eq_getElem?_getD, List.getElem?_eq_getElem hk] at this
  simpa using this
set_option maxHeartbeats 1000000 in
theorem plain_c (v : Value) (xs : List Int) (w : World) (hr : Rd w v xs) (hl : xs.length ≤ 100000) :
    Calls Tryd.prog 29 #[v] w fun e w' => e = .returned (.bool (plainB xs)) ∧ w = w' := by
  obtain ⟨A, cap, rfl, hcap, hmax, hc⟩ := hr
  have HC := hid hc
  unfold maxLen at hmax
  generalize hn : xs.length = n at *
  have HN := hid hn
  clear hc hn
  go_enter Tryd.func29, Tryd.ntmps29
  go_wp2_with fail
  go_loop [7] (fun v7 => ∃ k : Nat, k ≤ n ∧ v7 = .int .i64 k ∧ Kept (∀ i, i < k → xs.getD i 0 ≤ 63)) (fun v7 => n - (intOf v7).toNat)
  case atStart => exact ⟨0, by omega, rfl, ⟨fun i hi => by omega⟩⟩
  case round =>
    obtain ⟨k, hk, rfl, hp⟩ := hrel
    by_cases hlt : k < n
    · obtain ⟨b, off, rfl, hbl, hcell⟩ := HC.out (by omega)
      have c0 := hcell k hlt
      clear hcell
      have HNO := Kept.mk (fun h => plainB_no (xs := xs) (k := k) (by rw [HN.out]; exact hlt) h)
      have HYE : Kept (xs.getD k 0 ≤ 63 → ∀ i, i < k + 1 → xs.getD i 0 ≤ 63) := ⟨fun h i hi => by
        rcases Nat.lt_or_eq_of_le (Nat.le_of_lt_succ hi) with h1 | rfl
        · exact hp.out i h1
        · exact h⟩
      generalize xs.getD k 0 = x at *
      by_cases h63 : 63 < x
      · have HB := Kept.mk (HNO.out h63)
        go_wp2_with fail
        go_ret
        exact ⟨by rw [HB.out] <;> rfl, rfl⟩
      · go_wp2_with fail
        go_round
        case rel => exact ⟨k + 1, by omega, by go_num, ⟨HYE.out (by omega)⟩⟩
        case measure => simp [intOf]; omega
    · have HB := Kept.mk (plainB_yes (xs := xs) (fun i hi => hp.out i (by have := HN.out; omega)))
      go_wp2_with fail
      go_ret
      exact ⟨by rw [HB.out] <;> rfl, rfl⟩
theorem and_one (y : Int) (h0 : 0 ≤ y) (h1 : y < 1000000) : bits BinOp.and IntKind.i64 y 1 = y % 2 := by
  have := bits_mask .i64 60 (by decide) (fun n h0 h1 => IntWalk.i64_in n (by omega)) 1 (by decide) y h0 (by omega)
  exact this
set_option maxHeartbeats 1000000 in
theorem bit_0 (v : Value) (xs : List Int) (n q : Nat) (w : World) (hr : Rd w v xs) (hx : Byt xs) (hl : xs.length ≤ 100000) (hm : n < 6 * xs.length) (hq : n = 6 * q + 0) :
    Calls Tryd.prog 30 #[v, .int .i64 (n : Int)] w fun e w' => e = .returned (.int .i64 (bitAt xs n)) ∧ w = w' := by
  obtain ⟨A, cap, rfl, hcap, hmax, hc⟩ := hr
  obtain ⟨b, off, rfl, hbl, hcell⟩ := hc (by omega)
  unfold maxLen at hmax
  have hn6 : (n : Int) % 6 = 0 := by omega
  have hnd : (n : Int) / 6 = q := by omega
  have hqm : q < xs.length := by omega
  have c0 := hcell q hqm
  have hxq := hx.at_ q
  have hand := and_one (xs.getD q 0 / 32) (by omega) (by omega)
  have HB := Kept.mk (show bitAt xs n = (xs.getD q 0 / 32) % 2 by unfold bitAt bitI; rw [show n / 6 = q by omega, show 5 - n % 6 = 5 by omega]; rfl)
  generalize xs.getD q 0 = x at *
  clear hcell hc hq
  generalize xs.length = m at *
  go_enter Tryd.func30, Tryd.ntmps30
  go_wp2_with fail
  go_ret
  exact ⟨by rw [HB.out] <;> rfl, rfl⟩
set_option maxHeartbeats 1000000 in
theorem bit_1 (v : Value) (xs : List Int) (n q : Nat) (w : World) (hr : Rd w v xs) (hx : Byt xs) (hl : xs.length ≤ 100000) (hm : n < 6 * xs.length) (hq : n = 6 * q + 1) :
    Calls Tryd.prog 30 #[v, .int .i64 (n : Int)] w fun e w' => e = .returned (.int .i64 (bitAt xs n)) ∧ w = w' := by
  obtain ⟨A, cap, rfl, hcap, hmax, hc⟩ := hr
  obtain ⟨b, off, rfl, hbl, hcell⟩ := hc (by omega)
  unfold maxLen at hmax
  have hn6 : (n : Int) % 6 = 1 := by omega
  have hnd : (n : Int) / 6 = q := by omega
  have hqm : q < xs.length := by omega
  have c0 := hcell q hqm
  have hxq := hx.at_ q
  have hand := and_one (xs.getD q 0 / 16) (by omega) (by omega)
  have HB := Kept.mk (show bitAt xs n = (xs.getD q 0 / 16) % 2 by unfold bitAt bitI; rw [show n / 6 = q by omega, show 5 - n % 6 = 4 by omega]; rfl)
  generalize xs.getD q 0 = x at *
  clear hcell hc hq
  generalize xs.length = m at *
  go_enter Tryd.func30, Tryd.ntmps30
  go_wp2_with fail
  go_ret
  exact ⟨by rw [HB.out] <;> rfl, rfl⟩
set_option maxHeartbeats 1000000 in
theorem bit_2 (v : Value) (xs : List Int) (n q : Nat) (w : World) (hr : Rd w v xs) (hx : Byt xs) (hl : xs.length ≤ 100000) (hm : n < 6 * xs.length) (hq : n = 6 * q + 2) :
    Calls Tryd.prog 30 #[v, .int .i64 (n : Int)] w fun e w' => e = .returned (.int .i64 (bitAt xs n)) ∧ w = w' := by
  obtain ⟨A, cap, rfl, hcap, hmax, hc⟩ := hr
  obtain ⟨b, off, rfl, hbl, hcell⟩ := hc (by omega)
  unfold maxLen at hmax
  have hn6 : (n : Int) % 6 = 2 := by omega
  have hnd : (n : Int) / 6 = q := by omega
  have hqm : q < xs.length := by omega
  have c0 := hcell q hqm
  have hxq := hx.at_ q
  have hand := and_one (xs.getD q 0 / 8) (by omega) (by omega)
  have HB := Kept.mk (show bitAt xs n = (xs.getD q 0 / 8) % 2 by unfold bitAt bitI; rw [show n / 6 = q by omega, show 5 - n % 6 = 3 by omega]; rfl)
  generalize xs.getD q 0 = x at *
  clear hcell hc hq
  generalize xs.length = m at *
  go_enter Tryd.func30, Tryd.ntmps30
  go_wp2_with fail
  go_ret
  exact ⟨by rw [HB.out] <;> rfl, rfl⟩
set_option maxHeartbeats 1000000 in
theorem bit_3 (v : Value) (xs : List Int) (n q : Nat) (w : World) (hr : Rd w v xs) (hx : Byt xs) (hl : xs.length ≤ 100000) (hm : n < 6 * xs.length) (hq : n = 6 * q + 3) :
    Calls Tryd.prog 30 #[v, .int .i64 (n : Int)] w fun e w' => e = .returned (.int .i64 (bitAt xs n)) ∧ w = w' := by
  obtain ⟨A, cap, rfl, hcap, hmax, hc⟩ := hr
  obtain ⟨b, off, rfl, hbl, hcell⟩ := hc (by omega)
  unfold maxLen at hmax
  have hn6 : (n : Int) % 6 = 3 := by omega
  have hnd : (n : Int) / 6 = q := by omega
  have hqm : q < xs.length := by omega
  have c0 := hcell q hqm
  have hxq := hx.at_ q
  have hand := and_one (xs.getD q 0 / 4) (by omega) (by omega)
  have HB := Kept.mk (show bitAt xs n = (xs.getD q 0 / 4) % 2 by unfold bitAt bitI; rw [show n / 6 = q by omega, show 5 - n % 6 = 2 by omega]; rfl)
  generalize xs.getD q 0 = x at *
  clear hcell hc hq
  generalize xs.length = m at *
  go_enter Tryd.func30, Tryd.ntmps30
  go_wp2_with fail
  go_ret
  exact ⟨by rw [HB.out] <;> rfl, rfl⟩
set_option maxHeartbeats 1000000 in
theorem bit_4 (v : Value) (xs : List Int) (n q : Nat) (w : World) (hr : Rd w v xs) (hx : Byt xs) (hl : xs.length ≤ 100000) (hm : n < 6 * xs.length) (hq : n = 6 * q + 4) :
    Calls Tryd.prog 30 #[v, .int .i64 (n : Int)] w fun e w' => e = .returned (.int .i64 (bitAt xs n)) ∧ w = w' := by
  obtain ⟨A, cap, rfl, hcap, hmax, hc⟩ := hr
  obtain ⟨b, off, rfl, hbl, hcell⟩ := hc (by omega)
  unfold maxLen at hmax
  have hn6 : (n : Int) % 6 = 4 := by omega
  have hnd : (n : Int) / 6 = q := by omega
  have hqm : q < xs.length := by omega
  have c0 := hcell q hqm
  have hxq := hx.at_ q
  have hand := and_one (xs.getD q 0 / 2) (by omega) (by omega)
  have HB := Kept.mk (show bitAt xs n = (xs.getD q 0 / 2) % 2 by unfold bitAt bitI; rw [show n / 6 = q by omega, show 5 - n % 6 = 1 by omega]; rfl)
  generalize xs.getD q 0 = x at *
  clear hcell hc hq
  generalize xs.length = m at *
  go_enter Tryd.func30, Tryd.ntmps30
  go_wp2_with fail
  go_ret
  exact ⟨by rw [HB.out] <;> rfl, rfl⟩
set_option maxHeartbeats 1000000 in
theorem bit_5 (v : Value) (xs : List Int) (n q : Nat) (w : World) (hr : Rd w v xs) (hx : Byt xs) (hl : xs.length ≤ 100000) (hm : n < 6 * xs.length) (hq : n = 6 * q + 5) :
    Calls Tryd.prog 30 #[v, .int .i64 (n : Int)] w fun e w' => e = .returned (.int .i64 (bitAt xs n)) ∧ w = w' := by
  obtain ⟨A, cap, rfl, hcap, hmax, hc⟩ := hr
  obtain ⟨b, off, rfl, hbl, hcell⟩ := hc (by omega)
  unfold maxLen at hmax
  have hn6 : (n : Int) % 6 = 5 := by omega
  have hnd : (n : Int) / 6 = q := by omega
  have hqm : q < xs.length := by omega
  have c0 := hcell q hqm
  have hxq := hx.at_ q
  have hand := and_one (xs.getD q 0) (by omega) (by omega)
  have HB := Kept.mk (show bitAt xs n = (xs.getD q 0) % 2 by unfold bitAt bitI; rw [show n / 6 = q by omega, show 5 - n % 6 = 0 by omega]; simp)
  generalize xs.getD q 0 = x at *
  clear hcell hc hq
  generalize xs.length = m at *
  go_enter Tryd.func30, Tryd.ntmps30
  go_wp2_with fail
  go_ret
  exact ⟨by rw [HB.out] <;> rfl, rfl⟩
theorem bit_c (v : Value) (xs : List Int) (m : Int) (w : World) (hr : Rd w v xs) (hx : Byt xs) (hl : xs.length ≤ 100000) (h0 : 0 ≤ m) (hm : m < 6 * (xs.length : Int)) :
    Calls Tryd.prog 30 #[v, .int .i64 m] w fun e w' => e = .returned (.int .i64 (bitAt xs m.toNat)) ∧ w = w' := by
  obtain ⟨n, rfl⟩ := Int.eq_ofNat_of_zero_le h0
  rw [Int.toNat_natCast]
  have hm' : n < 6 * xs.length := by omega
  rcases (by omega : n = 6 * (n / 6) + 0 ∨ n = 6 * (n / 6) + 1 ∨ n = 6 * (n / 6) + 2 ∨ n = 6 * (n / 6) + 3 ∨ n = 6 * (n / 6) + 4 ∨ n = 6 * (n / 6) + 5) with h | h | h | h | h | h
  · exact bit_0 v xs n _ w hr hx hl hm' h
  · exact bit_1 v xs n _ w hr hx hl hm' h
  · exact bit_2 v xs n _ w hr hx hl hm' h
  · exact bit_3 v xs n _ w hr hx hl hm' h
  · exact bit_4 v xs n _ w hr hx hl hm' h
  · exact bit_5 v xs n _ w hr hx hl hm' h
set_option maxHeartbeats 2000000 in
theorem balanced_c (v : Value) (xs : List Int) (w : World) (hr : Rd w v xs) (hx : Byt xs) (hl : xs.length ≤ 100000) :
    Calls Tryd.prog 26 #[v] w fun e w' => e = .returned (.bool (balB xs)) ∧ w = w' := by
  have hr' := hr
  obtain ⟨A, cap, rfl, hcap, hmax, -⟩ := hr'
  have HR := hid hr
  have HX := hid hx
  unfold maxLen at hmax
  clear hr hx
  cases hp : plainB xs with
  | false =>
    have HB := Kept.mk (show balB xs = false by unfold balB; rw [hp]; rfl)
    have HP := Kept.mk hp
    clear hp
    go_enter Tryd.func26, Tryd.ntmps26
    go_wp2_with fail
    refine (plain_c _ xs _ HR.out hl).mono ?_
    rintro e w' ⟨rfl, rfl⟩
    rw [HP.out]
    go_wp2_with fail
    go_ret
    exact ⟨by rw [HB.out] <;> rfl, rfl⟩
  | true =>
    have HB := Kept.mk (show balB xs = okTo xs (6 * xs.length) by unfold balB; rw [hp]; rfl)
    have HP := Kept.mk hp
    clear hp
    obtain ⟨n, hn⟩ : ∃ n, n = xs.length := ⟨_, rfl⟩
    go_enter Tryd.func26, Tryd.ntmps26
    go_wp2_with fail
    refine (plain_c _ xs _ HR.out hl).mono ?_
    rintro e w' ⟨rfl, rfl⟩
    rw [HP.out]
    have hnl : n ≤ 100000 := by omega
    have hn1 : n ≤ xs.length := by omega
    have hn2 : xs.length ≤ n := by omega
    rw [← hn]
    have HN := Kept.mk hn
    clear hn
    go_wp2_with fail
    go_loop [3, 11] (fun v3 v11 => ∃ k : Nat, k ≤ 6 * n ∧ v11 = .int .i64 k ∧ v3 = .int .i64 (sumTo xs k) ∧ Kept (okTo xs k = true)) (fun _ v11 => 6 * n - (intOf v11).toNat)
    case atStart => exact ⟨0, by omega, rfl, rfl, ⟨rfl⟩⟩
    case round =>
      obtain ⟨k, hk, rfl, rfl, hok⟩ := hrel
      have hbd := sumTo_bd hok.out
      by_cases hlt : k < 6 * n
      · have hb := bitAt_01 xs k
        have HS := Kept.mk (show sumTo xs (k + 1) = sumTo xs k + (2 * bitAt xs k - 1) from rfl)
        have HOK := Kept.mk (show okTo xs (k + 1) = (okTo xs k && decide (-3 ≤ sumTo xs (k + 1)) && decide (sumTo xs (k + 1) ≤ 3)) from rfl)
        have HBIT := Kept.mk (bit_c (.slice A n cap) xs k w (by rw [HN.out]; exact HR.out) HX.out hl (by omega) (by omega))
        rw [Int.toNat_natCast] at HBIT
        obtain ⟨s, hs⟩ : ∃ s, sumTo xs k = s := ⟨_, rfl⟩
        obtain ⟨b, hbb⟩ : ∃ b, bitAt xs k = b := ⟨_, rfl⟩
        rw [hs] at hbd HS
        rw [hbb] at hb HS HBIT
        rw [hs]
        clear hs hbb
        by_cases h1 : s + (2 * b - 1) < -3
        · have HF := Kept.mk (show okTo xs (6 * n) = false from okTo_false (k := k + 1) (by rw [HOK.out, HS.out, decide_eq_false (show ¬ -3 ≤ s + (2 * b - 1) by omega)]; simp) (by omega))
          go_wp2_with fail
          refine HBIT.out.mono ?_
          rintro e w' ⟨rfl, rfl⟩
          go_wp2_with fail
          go_ret
          exact ⟨by rw [HB.out, ← HN.out, HF.out] <;> rfl, rfl⟩
        · by_cases h2 : 3 < s + (2 * b - 1)
          · have HF := Kept.mk (show okTo xs (6 * n) = false from okTo_false (k := k + 1) (by rw [HOK.out, HS.out, decide_eq_false (show ¬ s + (2 * b - 1) ≤ 3 by omega)]; simp) (by omega))
            go_wp2_with fail
            refine HBIT.out.mono ?_
            rintro e w' ⟨rfl, rfl⟩
            go_wp2_with fail
            go_ret
            exact ⟨by rw [HB.out, ← HN.out, HF.out] <;> rfl, rfl⟩
          · have HT := Kept.mk (show okTo xs (k + 1) = true by rw [HOK.out, HS.out, hok.out, decide_eq_true (show -3 ≤ s + (2 * b - 1) by omega), decide_eq_true (show s + (2 * b - 1) ≤ 3 by omega)]; rfl)
            go_wp2_with fail
            refine HBIT.out.mono ?_
            rintro e w' ⟨rfl, rfl⟩
            go_wp2_with fail
            go_round
            case rel => exact ⟨k + 1, by omega, by go_num, by rw [HS.out], HT⟩
            case measure => simp [intOf]; omega
      · have hk' : k = 6 * n := by omega
        have HF := Kept.mk (show okTo xs (6 * n) = true by rw [← hk']; exact hok.out)
        clear hk'
        generalize sumTo xs k = s at *
        go_wp2_with fail
        go_ret
        exact ⟨by rw [HB.out, ← HN.out, HF.out] <;> rfl, rfl⟩
set_option maxHeartbeats 2000000 in
theorem run_c (v : Value) (xs : List Int) (w : World) (hr : Rd w v xs) (hx : Byt xs) (hl : xs.length ≤ 100000) :
    Calls Tryd.prog 25 #[v] w fun e w' => e = .returned (.int .i64 (runB xs : Nat)) ∧ w = w' := by
  have hr' := hr
  obtain ⟨A, cap, rfl, hcap, hmax, -⟩ := hr'
  have HR := hid hr
  have HX := hid hx
  unfold maxLen at hmax
  clear hr hx
  cases hp : plainB xs with
  | false =>
    have HB := Kept.mk (show runB xs = 0 by unfold runB; rw [hp]; rfl)
    have HP := Kept.mk hp
    clear hp
    go_enter Tryd.func25, Tryd.ntmps25
    go_wp2_with fail
    refine (plain_c _ xs _ HR.out hl).mono ?_
    rintro e w' ⟨rfl, rfl⟩
    rw [HP.out]
    go_wp2_with fail
    go_ret
    exact ⟨by rw [HB.out] <;> rfl, rfl⟩
  | true =>
    have HB := Kept.mk (show runB xs = longTo xs (6 * xs.length) by unfold runB; rw [hp]; rfl)
    have HP := Kept.mk hp
    clear hp
    obtain ⟨n, hn⟩ : ∃ n, n = xs.length := ⟨_, rfl⟩
    go_enter Tryd.func25, Tryd.ntmps25
    go_wp2_with fail
    refine (plain_c _ xs _ HR.out hl).mono ?_
    rintro e w' ⟨rfl, rfl⟩
    rw [HP.out]
    have hnl : n ≤ 100000 := by omega
    have hn1 : n ≤ xs.length := by omega
    have hn2 : xs.length ≤ n := by omega
    rw [← hn]
    have HN := Kept.mk hn
    clear hn
    go_wp2_with fail
    go_loop [3, 4, 12] (fun v3 v4 v12 => ∃ k : Nat, k ≤ 6 * n ∧ v12 = .int .i64 k ∧ v3 = .int .i64 (longTo xs k : Nat) ∧ v4 = .int .i64 (runTo xs k : Nat)) (fun _ _ v12 => 6 * n - (intOf v12).toNat)
    case atStart => exact ⟨0, by omega, rfl, rfl, rfl⟩
    case round =>
      obtain ⟨k, hk, rfl, rfl, rfl⟩ := hrel
      have hr1 := runTo_le xs k
      have hl1 := longTo_le xs k
      by_cases hlt : k < 6 * n
      · have hr2 := runTo_le xs (k + 1)
        have HRU := Kept.mk (show runTo xs (k + 1) = if 0 < k ∧ bitAt xs k = bitAt xs (k - 1) then runTo xs k + 1 else 1 from rfl)
        have HLO := Kept.mk (show longTo xs (k + 1) = max (longTo xs k) (runTo xs (k + 1)) from rfl)
        have HBIT := Kept.mk (bit_c (.slice A n cap) xs k w (by rw [HN.out]; exact HR.out) HX.out hl (by omega) (by omega))
        rw [Int.toNat_natCast] at HBIT
        by_cases h0 : k = 0
        · have HR1 := Kept.mk (show runTo xs (k + 1) = 1 by rw [HRU.out, if_neg (by omega)])
          rw [HR1.out] at HLO
          subst h0
          have e0 : longTo xs 0 = 0 := rfl
          have e1 : runTo xs 0 = 0 := rfl
          rw [e0] at HLO ⊢
          rw [e1]
          have HLL := Kept.mk (show longTo xs (0 + 1) = 1 by rw [HLO.out]; rfl)
          clear e0 e1
          go_wp2_with fail
          go_round
          case rel => exact ⟨1, by omega, rfl, by rw [show (1 : Nat) = 0 + 1 from rfl, HLL.out]; rfl, by rw [show (1 : Nat) = 0 + 1 from rfl, HR1.out]; rfl⟩
          case measure => simp [intOf]; omega
        · have hk0 : 0 < k := by omega
          have HBIT2 := Kept.mk (bit_c (.slice A n cap) xs ((k : Int) - 1) w (by rw [HN.out]; exact HR.out) HX.out hl (by omega) (by omega))
          rw [show ((k : Int) - 1).toNat = k - 1 by omega] at HBIT2
          obtain ⟨b, hb⟩ : ∃ b, bitAt xs k = b := ⟨_, rfl⟩
          obtain ⟨b', hb'⟩ : ∃ b', bitAt xs (k - 1) = b' := ⟨_, rfl⟩
          rw [hb, hb'] at HRU
          rw [hb] at HBIT
          rw [hb'] at HBIT2
          obtain ⟨r, hr⟩ : ∃ r, runTo xs k = r := ⟨_, rfl⟩
          obtain ⟨l, hlo⟩ : ∃ l, longTo xs k = l := ⟨_, rfl⟩
          rw [hr] at hr1 HRU ⊢
          rw [hlo] at hl1 HLO ⊢
          clear hb hb' hr hlo
          by_cases hbb : b = b'
          · have q1 : (b == b') = true := by simp [hbb]
            have HR1 := Kept.mk (show runTo xs (k + 1) = r + 1 by rw [HRU.out, if_pos ⟨hk0, hbb⟩])
            rw [HR1.out] at HLO
            clear hbb
            go_wp2_with fail
            refine HBIT.out.mono ?_
            rintro e w' ⟨rfl, rfl⟩
            go_wp2_with fail
            refine HBIT2.out.mono ?_
            rintro e w' ⟨rfl, rfl⟩
            go_wp2_with fail
            go_round
            case rel => exact ⟨k + 1, by omega, by go_num, by rw [HLO.out]; congr 1; omega, by rw [HR1.out]; go_num⟩
            case measure => simp [intOf]; omega
          · have q1 : (b == b') = false := by simp [hbb]
            have HR1 := Kept.mk (show runTo xs (k + 1) = 1 by rw [HRU.out, if_neg (fun h => hbb h.2)])
            rw [HR1.out] at HLO
            clear hbb
            go_wp2_with fail
            refine HBIT.out.mono ?_
            rintro e w' ⟨rfl, rfl⟩
            go_wp2_with fail
            refine HBIT2.out.mono ?_
            rintro e w' ⟨rfl, rfl⟩
            go_wp2_with fail
            go_round
            case rel => exact ⟨k + 1, by omega, by go_num, by rw [HLO.out]; congr 1; omega, by rw [HR1.out]; rfl⟩
            case measure => simp [intOf]; omega
      · have hk' : k = 6 * n := by omega
        have HF := Kept.mk (show runB xs = longTo xs k by rw [HB.out, ← HN.out, hk'])
        clear hk'
        generalize longTo xs k = l at *
        generalize runTo xs k = r at *
        go_wp2_with fail
        go_ret
        exact ⟨by rw [HF.out] <;> rfl, rfl⟩
end Go.Proofs.YtkpnggnanacaaaaDoor
