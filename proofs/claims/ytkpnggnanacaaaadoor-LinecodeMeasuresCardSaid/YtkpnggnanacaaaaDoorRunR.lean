/- Linecode: Small, Bits, Balanced and Run of the reference. -/
import Derived.Test.YtkpnggnanacaaaaDoorRun
import Derived.Test.YtkpnggnanacaaaaDoorPlainD
namespace Go.Proofs.YtkpnggnanacaaaaDoor
set_option linter.unusedVariables false
set_option linter.unusedSimpArgs false
open Go.RowKit
theorem info3 : (Tryd.prog.info? 3).map (fun i => (i.zero, i.size, i.bytes)) = some (some (.int .i64 0), 1, 8) := by kernel_rfl
set_option maxHeartbeats 1000000 in
theorem small_c (v : Value) (xs : List Int) (w : World) (hr : Rd w v xs) (hl : xs.length ≤ 100000) :
    Calls Tryd.prog 32 #[v] w fun e w' => e = .returned (.bool (plainB xs)) ∧ w = w' := by
  obtain ⟨A, cap, rfl, hcap, hmax, hc⟩ := hr
  have HC := hid hc
  unfold maxLen at hmax
  generalize hn : xs.length = n at *
  have HN := hid hn
  clear hc hn
  go_enter Tryd.func32, Tryd.ntmps32
  go_wp2_with fail
  go_loop [3] (fun v7 => ∃ k : Nat, k ≤ n ∧ v7 = .int .i64 k ∧ Kept (∀ i, i < k → xs.getD i 0 ≤ 63)) (fun v7 => n - (intOf v7).toNat)
  case atStart => exact ⟨0, by omega, rfl, ⟨fun i hi => by omega⟩⟩
  case round =>
    obtain ⟨k, hk, rfl, hp⟩ := hrel
    by_cases hlt : k < n
    · obtain ⟨b, off, rfl, hbl, hcell⟩ := HC.out (by omega)
      have c0 := hcell k hlt
      clear hcell
      have HNO := Kept.mk (fun h => plainB_no (xs := xs) (k := k) (by rw [HN.out]; exact hlt) h)
      have HYE : Kept (xs.getD k 0 ≤ 63 → ∀ i, i < k + 1 → xs.getD i 0 ≤ 63) := ⟨fun h i hi => by
        rcases Nat.lt_or_eq_of_le (Nat.le_of_lt_succ hi) with h1 | rfl
        · exact hp.out i h1
        · exact h⟩
      generalize xs.getD k 0 = x at *
      by_cases h63 : 63 < x
      · have HB := Kept.mk (HNO.out h63)
        go_wp2_with fail
        go_ret
        exact ⟨by rw [HB.out] <;> rfl, rfl⟩
      · go_wp2_with fail
        go_round
        case rel => exact ⟨k + 1, by omega, by go_num, ⟨HYE.out (by omega)⟩⟩
        case measure => simp [intOf]; omega
    · have HB := Kept.mk (plainB_yes (xs := xs) (fun i hi => hp.out i (by have := HN.out; omega)))
      go_wp2_with fail
      go_ret
      exact ⟨by rw [HB.out] <;> rfl, rfl⟩
/-- The first m bits. -/
def bl (xs : List Int) : Nat → List Int
  | 0 => []
  | m + 1 => bl xs m ++ [bitAt xs m]
theorem bl_len (xs : List Int) (m : Nat) : (bl xs m).length = m := by
  induction m with
  | zero => rfl
  | succ m ih => simp [bl, ih]
theorem bl_get (xs : List Int) (m k : Nat) (h : k < m) : (bl xs m)[k]? = some (bitAt xs k) := by
  induction m with
  | zero => omega
  | succ m ih =>
    rw [bl]
    rcases Nat.lt_or_ge k m with h1 | h1
    · rw [List.getElem?_append_left (by rw [bl_len]; exact h1)]; exact ih h1
    · obtain rfl : k = m := by omega
      rw [List.getElem?_append_right (by rw [bl_len]; exact Nat.le_refl _), bl_len]; simp
/-- The slice v is the call's own and reads the first m bits. -/
def OwnsB (w w' : World) (v : Value) (xs : List Int) (m : Nat) : Prop := w'.ownsRow w.heap.size 3 1 v m ((bl xs m).map (Value.int .i64)) ∧ Below w.heap.size w w'
set_option maxHeartbeats 4000000 in
theorem bits_c (v : Value) (xs : List Int) (w : World) (hr : Rd w v xs) (hx : Byt xs) (hl : xs.length ≤ 100000) :
    Calls Tryd.prog 31 #[v] w fun e w' => ∃ u, e = .returned u ∧ OwnsB w w' u xs (6 * xs.length) := by
  obtain ⟨i0, hi, hz0, hz1, hz2⟩ := info_parts info3
  obtain ⟨A, cap, rfl, hcap, hmax, hc⟩ := hr
  have HC := hid hc
  have HX := hid hx
  unfold maxLen at hmax
  generalize hn : xs.length = n at *
  have HN := hid hn
  clear hc hx hn
  go_enter Tryd.func31, Tryd.ntmps31
  go_wp2_with fail
  go_loopw [3, 4, 5] (fun v3 v4 v5 wr => ∃ k : Nat, k ≤ n ∧ v4 = .int .i64 k ∧ wr.ownsRow w.heap.size 3 1 v3 (6 * k) ((bl xs (6 * k)).map (Value.int .i64)) ∧ Below w.heap.size w wr) (fun _ v4 _ _ => n - (intOf v4).toNat)
  case atStart => exact ⟨0, by omega, rfl, ⟨rfl, .inl ⟨rfl, rfl⟩⟩, Below.refl _ _⟩
  case round =>
    obtain ⟨k, hk, rfl, hown, hb⟩ := hrel
    have HO := hid hown
    have HB := hid hb
    clear hown hb
    by_cases hlt : k < n
    · obtain ⟨b, off, rfl, hbl, hcell⟩ := HC.out (by omega)
      have HCK := Kept.mk (hcell k hlt)
      have hxk := HX.out.at_ k
      clear hcell
      go_wp2_with fail
      go_loopw [3, 5] (fun v3 v5 wr => ∃ (j : Nat) (q : Int), j ≤ 6 ∧ q = 5 - (j : Int) ∧ v5 = .int .i64 q ∧ wr.ownsRow w.heap.size 3 1 v3 (6 * k + j) ((bl xs (6 * k + j)).map (Value.int .i64)) ∧ Below w.heap.size w wr) (fun _ v5 _ => (intOf v5 + 1).toNat)
      case atStart => exact ⟨0, 5, by omega, by omega, rfl, HO.out, HB.out⟩
      case round =>
        obtain ⟨j, q, hj, hq, rfl, hown, hb⟩ := hrel
        clear HO HB
        have HO := hid hown
        have HB := hid hb
        clear hown hb
        rcases (by omega : j = 0 ∨ j = 1 ∨ j = 2 ∨ j = 3 ∨ j = 4 ∨ j = 5 ∨ j = 6) with rfl | rfl | rfl | rfl | rfl | rfl | rfl
        · obtain rfl : q = 5 := by omega
          clear hq hj
          have c0 := (HB.out.cell (p := ⟨b, off + k, none⟩) hbl).trans HCK.out
          have HBT := Kept.mk (show bitAt xs (6 * k + 0) = xs.getD k 0 / 32 % 2 by rw [bitAt_in xs k 0 (by omega)]; unfold bitI; rfl)
          have HS := Kept.mk (show bl xs (6 * k + 1) = bl xs (6 * k + 0) ++ [bitAt xs (6 * k + 0)] from rfl)
          rw [HBT.out] at HS
          generalize xs.getD k 0 = x at *
          have hbz := HB.out.size
          go_wp2_with (at_builtin; refine wpList_append_own _ rfl _ _ 49 rfl w.heap.size 3 i0 (.int .i64 0) 1 8 Tryd.underlying49 hi hz0 hz1 hz2 rfl (by decide) _ _ _ rfl (HO.out.alloc _) ⟨wr.heap.size, 0, none⟩ 1 1 [.int .i64 (x / 32 % 2)] rfl rfl (cell_one_new _ _ _) (fun x hx => by simp at hx; subst hx; rfl) (by unfold maxLen; omega) (by omega) (by simp; omega) ?_; intro v' w1 hown1 hgrow1 _)
          go_roundw
          case rel => exact ⟨1, 4, by omega, by omega, rfl, by rw [HS.out]; simpa using hown1, (HB.out.alloc hbz _).grown hgrow1 (by simp; omega) (fun j hj => (HO.out.lt j hj).1)⟩
          case measure => simp [intOf]
        · obtain rfl : q = 4 := by omega
          clear hq hj
          have c0 := (HB.out.cell (p := ⟨b, off + k, none⟩) hbl).trans HCK.out
          have HBT := Kept.mk (show bitAt xs (6 * k + 1) = xs.getD k 0 / 16 % 2 by rw [bitAt_in xs k 1 (by omega)]; unfold bitI; rfl)
          have HS := Kept.mk (show bl xs (6 * k + 2) = bl xs (6 * k + 1) ++ [bitAt xs (6 * k + 1)] from rfl)
          rw [HBT.out] at HS
          generalize xs.getD k 0 = x at *
          have hbz := HB.out.size
          go_wp2_with (at_builtin; refine wpList_append_own _ rfl _ _ 49 rfl w.heap.size 3 i0 (.int .i64 0) 1 8 Tryd.underlying49 hi hz0 hz1 hz2 rfl (by decide) _ _ _ rfl (HO.out.alloc _) ⟨wr.heap.size, 0, none⟩ 1 1 [.int .i64 (x / 16 % 2)] rfl rfl (cell_one_new _ _ _) (fun x hx => by simp at hx; subst hx; rfl) (by unfold maxLen; omega) (by omega) (by simp; omega) ?_; intro v' w1 hown1 hgrow1 _)
          go_roundw
          case rel => exact ⟨2, 3, by omega, by omega, rfl, by rw [HS.out]; simpa using hown1, (HB.out.alloc hbz _).grown hgrow1 (by simp; omega) (fun j hj => (HO.out.lt j hj).1)⟩
          case measure => simp [intOf]
        · obtain rfl : q = 3 := by omega
          clear hq hj
          have c0 := (HB.out.cell (p := ⟨b, off + k, none⟩) hbl).trans HCK.out
          have HBT := Kept.mk (show bitAt xs (6 * k + 2) = xs.getD k 0 / 8 % 2 by rw [bitAt_in xs k 2 (by omega)]; unfold bitI; rfl)
          have HS := Kept.mk (show bl xs (6 * k + 3) = bl xs (6 * k + 2) ++ [bitAt xs (6 * k + 2)] from rfl)
          rw [HBT.out] at HS
          generalize xs.getD k 0 = x at *
          have hbz := HB.out.size
          go_wp2_with (at_builtin; refine wpList_append_own _ rfl _ _ 49 rfl w.heap.size 3 i0 (.int .i64 0) 1 8 Tryd.underlying49 hi hz0 hz1 hz2 rfl (by decide) _ _ _ rfl (HO.out.alloc _) ⟨wr.heap.size, 0, none⟩ 1 1 [.int .i64 (x / 8 % 2)] rfl rfl (cell_one_new _ _ _) (fun x hx => by simp at hx; subst hx; rfl) (by unfold maxLen; omega) (by omega) (by simp; omega) ?_; intro v' w1 hown1 hgrow1 _)
          go_roundw
          case rel => exact ⟨3, 2, by omega, by omega, rfl, by rw [HS.out]; simpa using hown1, (HB.out.alloc hbz _).grown hgrow1 (by simp; omega) (fun j hj => (HO.out.lt j hj).1)⟩
          case measure => simp [intOf]
        · obtain rfl : q = 2 := by omega
          clear hq hj
          have c0 := (HB.out.cell (p := ⟨b, off + k, none⟩) hbl).trans HCK.out
          have HBT := Kept.mk (show bitAt xs (6 * k + 3) = xs.getD k 0 / 4 % 2 by rw [bitAt_in xs k 3 (by omega)]; unfold bitI; rfl)
          have HS := Kept.mk (show bl xs (6 * k + 4) = bl xs (6 * k + 3) ++ [bitAt xs (6 * k + 3)] from rfl)
          rw [HBT.out] at HS
          generalize xs.getD k 0 = x at *
          have hbz := HB.out.size
          go_wp2_with (at_builtin; refine wpList_append_own _ rfl _ _ 49 rfl w.heap.size 3 i0 (.int .i64 0) 1 8 Tryd.underlying49 hi hz0 hz1 hz2 rfl (by decide) _ _ _ rfl (HO.out.alloc _) ⟨wr.heap.size, 0, none⟩ 1 1 [.int .i64 (x / 4 % 2)] rfl rfl (cell_one_new _ _ _) (fun x hx => by simp at hx; subst hx; rfl) (by unfold maxLen; omega) (by omega) (by simp; omega) ?_; intro v' w1 hown1 hgrow1 _)
          go_roundw
          case rel => exact ⟨4, 1, by omega, by omega, rfl, by rw [HS.out]; simpa using hown1, (HB.out.alloc hbz _).grown hgrow1 (by simp; omega) (fun j hj => (HO.out.lt j hj).1)⟩
          case measure => simp [intOf]
        · obtain rfl : q = 1 := by omega
          clear hq hj
          have c0 := (HB.out.cell (p := ⟨b, off + k, none⟩) hbl).trans HCK.out
          have HBT := Kept.mk (show bitAt xs (6 * k + 4) = xs.getD k 0 / 2 % 2 by rw [bitAt_in xs k 4 (by omega)]; unfold bitI; rfl)
          have HS := Kept.mk (show bl xs (6 * k + 5) = bl xs (6 * k + 4) ++ [bitAt xs (6 * k + 4)] from rfl)
          rw [HBT.out] at HS
          generalize xs.getD k 0 = x at *
          have hbz := HB.out.size
          go_wp2_with (at_builtin; refine wpList_append_own _ rfl _ _ 49 rfl w.heap.size 3 i0 (.int .i64 0) 1 8 Tryd.underlying49 hi hz0 hz1 hz2 rfl (by decide) _ _ _ rfl (HO.out.alloc _) ⟨wr.heap.size, 0, none⟩ 1 1 [.int .i64 (x / 2 % 2)] rfl rfl (cell_one_new _ _ _) (fun x hx => by simp at hx; subst hx; rfl) (by unfold maxLen; omega) (by omega) (by simp; omega) ?_; intro v' w1 hown1 hgrow1 _)
          go_roundw
          case rel => exact ⟨5, 0, by omega, by omega, rfl, by rw [HS.out]; simpa using hown1, (HB.out.alloc hbz _).grown hgrow1 (by simp; omega) (fun j hj => (HO.out.lt j hj).1)⟩
          case measure => simp [intOf]
        · obtain rfl : q = 0 := by omega
          clear hq hj
          have c0 := (HB.out.cell (p := ⟨b, off + k, none⟩) hbl).trans HCK.out
          have HBT := Kept.mk (show bitAt xs (6 * k + 5) = xs.getD k 0 % 2 by rw [bitAt_in xs k 5 (by omega)]; unfold bitI; simp)
          have HS := Kept.mk (show bl xs (6 * k + 6) = bl xs (6 * k + 5) ++ [bitAt xs (6 * k + 5)] from rfl)
          rw [HBT.out] at HS
          generalize xs.getD k 0 = x at *
          have hbz := HB.out.size
          go_wp2_with (at_builtin; refine wpList_append_own _ rfl _ _ 49 rfl w.heap.size 3 i0 (.int .i64 0) 1 8 Tryd.underlying49 hi hz0 hz1 hz2 rfl (by decide) _ _ _ rfl (HO.out.alloc _) ⟨wr.heap.size, 0, none⟩ 1 1 [.int .i64 (x % 2)] rfl rfl (cell_one_new _ _ _) (fun x hx => by simp at hx; subst hx; rfl) (by unfold maxLen; omega) (by omega) (by simp; omega) ?_; intro v' w1 hown1 hgrow1 _)
          go_roundw
          case rel => exact ⟨6, -1, by omega, by omega, rfl, by rw [HS.out]; simpa using hown1, (HB.out.alloc hbz _).grown hgrow1 (by simp; omega) (fun j hj => (HO.out.lt j hj).1)⟩
          case measure => simp [intOf]
        · obtain rfl : q = -1 := by omega
          clear hq hj
          go_wp2_with fail
          go_roundw
          case rel => exact ⟨k + 1, by omega, by go_num, by rw [show 6 * (k + 1) = 6 * k + 6 by omega]; exact HO.out, HB.out⟩
          case measure => simp [intOf]; omega
    · have hk' : k = n := by omega
      go_wp2_with fail
      go_ret
      exact ⟨_, rfl, by rw [hk'] at HO; exact HO.out, HB.out⟩
theorem own_slice' {w : World} {base : Nat} {e : TypeId} {size n : Nat} {v : Value} {xs : List Value} (h : w.ownsRow base e size v n xs) : ∃ A cap, v = .slice A n cap ∧ n ≤ cap ∧ cap ≤ maxLen := by
  rcases h.2 with ⟨rfl, h0⟩ | ⟨g, cap, cur, hv, _, _, h1, h2, _⟩
  · exact ⟨none, 0, by rw [h0], by omega, by unfold maxLen; omega⟩
  · exact ⟨_, cap, hv, h1, h2⟩
/-- A slice that reads the first m bits. -/
def RdB (w : World) (A : Option Addr) (xs : List Int) (m : Nat) : Prop := 0 < m → ∃ g, A = some ⟨g, 0, none⟩ ∧ g < w.heap.size ∧ ∀ k, k < m → w.cell? ⟨g, k, none⟩ = some (.int .i64 (bitAt xs k))
theorem OwnsB.rd {w w' : World} {A : Option Addr} {cap m : Nat} {xs : List Int} (h : OwnsB w w' (.slice A m cap) xs m) : RdB w' A xs m := fun hm => by
  obtain ⟨g, cap', hv, _, hlt, _, hc⟩ := own_form h.1 hm
  injection hv with e1 e2 e3
  exact ⟨g, e1, hlt, fun k hk => hc k _ (by rw [List.getElem?_map, bl_get xs m k hk]; rfl)⟩
set_option maxHeartbeats 2000000 in
theorem balancedR_c (v : Value) (xs : List Int) (w : World) (hr : Rd w v xs) (hx : Byt xs) (hl : xs.length ≤ 100000) :
    Calls Tryd.prog 27 #[v] w fun e w' => e = .returned (.bool (balB xs)) ∧ Below w.heap.size w w' := by
  have HR := hid hr
  have HX := hid hx
  clear hr hx
  go_enter Tryd.func27, Tryd.ntmps27
  go_wp2_with fail
  refine (bits_c v xs _ HR.out HX.out hl).mono ?_
  rintro e w1 ⟨u, rfl, hO⟩
  obtain ⟨A, cap, rfl, hcap, hmax⟩ := own_slice' hO.1
  have HRB := Kept.mk hO.rd
  have HB := Kept.mk hO.2
  have HR1 := Kept.mk (HR.out.below hO.2)
  unfold maxLen at hmax
  obtain ⟨N, hN⟩ : ∃ N, N = 6 * xs.length := ⟨_, rfl⟩
  have hNl : N ≤ 600000 := by omega
  rw [← hN] at hcap HRB ⊢
  have HN := Kept.mk hN
  clear hO hN
  go_wp2_with fail
  go_loop [4, 5] (fun v4 v5 => ∃ k : Nat, k ≤ N ∧ v5 = .int .i64 k ∧ v4 = .int .i64 (sumTo xs k) ∧ Kept (okTo xs k = true)) (fun _ v5 => N - (intOf v5).toNat)
  case atStart => exact ⟨0, by omega, rfl, rfl, ⟨rfl⟩⟩
  case round =>
    obtain ⟨k, hk, rfl, rfl, hok⟩ := hrel
    have hbd := sumTo_bd hok.out
    by_cases hlt : k < N
    · obtain ⟨g, rfl, hg, hcell⟩ := HRB.out (by omega)
      have c0 := hcell k hlt
      have hb := bitAt_01 xs k
      have HS := Kept.mk (show sumTo xs (k + 1) = sumTo xs k + (2 * bitAt xs k - 1) from rfl)
      have HOK := Kept.mk (show okTo xs (k + 1) = (okTo xs k && decide (-3 ≤ sumTo xs (k + 1)) && decide (sumTo xs (k + 1) ≤ 3)) from rfl)
      have HBF : Kept (okTo xs (k + 1) = false → balB xs = false) := ⟨fun h => by unfold balB; rw [okTo_false h (by rw [← HN.out]; omega)]; simp⟩
      obtain ⟨s, hs⟩ : ∃ s, sumTo xs k = s := ⟨_, rfl⟩
      obtain ⟨b, hbb⟩ : ∃ b, bitAt xs k = b := ⟨_, rfl⟩
      rw [hs] at hbd HS
      rw [hbb] at hb HS c0
      rw [hs]
      clear hs hbb hcell
      by_cases h1 : s + (2 * b - 1) < -3
      · have HF := Kept.mk (HBF.out (by rw [HOK.out, HS.out, decide_eq_false (show ¬ -3 ≤ s + (2 * b - 1) by omega)]; simp))
        go_wp2_with fail
        go_ret
        exact ⟨by rw [HF.out] <;> rfl, HB.out⟩
      · by_cases h2 : 3 < s + (2 * b - 1)
        · have HF := Kept.mk (HBF.out (by rw [HOK.out, HS.out, decide_eq_false (show ¬ s + (2 * b - 1) ≤ 3 by omega)]; simp))
          go_wp2_with fail
          go_ret
          exact ⟨by rw [HF.out] <;> rfl, HB.out⟩
        · have HT := Kept.mk (show okTo xs (k + 1) = true by rw [HOK.out, HS.out, hok.out, decide_eq_true (show -3 ≤ s + (2 * b - 1) by omega), decide_eq_true (show s + (2 * b - 1) ≤ 3 by omega)]; rfl)
          go_wp2_with fail
          go_round
          case rel => exact ⟨k + 1, by omega, by go_num, by rw [HS.out]; congr 1; omega, HT⟩
          case measure => simp [intOf]; omega
    · have hk' : k = N := by omega
      have HF := Kept.mk (show balB xs = plainB xs by unfold balB; rw [← HN.out, ← hk', hok.out]; simp)
      clear hk'
      generalize sumTo xs k = s at *
      go_wp2_with fail
      refine (small_c v xs _ HR1.out hl).mono ?_
      rintro e w' ⟨rfl, rfl⟩
      rw [← HF.out]
      go_wp2_with fail
      go_ret
      exact ⟨rfl, HB.out⟩
set_option maxHeartbeats 4000000 in
theorem runR_c (v : Value) (xs : List Int) (w : World) (hr : Rd w v xs) (hx : Byt xs) (hl : xs.length ≤ 100000) :
    Calls Tryd.prog 28 #[v] w fun e w' => e = .returned (.int .i64 (runB xs : Nat)) ∧ Below w.heap.size w w' := by
  have HR := hid hr
  have HX := hid hx
  clear hr hx
  cases hp : plainB xs with
  | false =>
    have HB := Kept.mk (show runB xs = 0 by unfold runB; rw [hp]; rfl)
    have HP := Kept.mk hp
    clear hp
    go_enter Tryd.func28, Tryd.ntmps28
    go_wp2_with fail
    refine (small_c _ xs _ HR.out hl).mono ?_
    rintro e w' ⟨rfl, rfl⟩
    rw [HP.out]
    go_wp2_with fail
    go_ret
    exact ⟨by rw [HB.out] <;> rfl, Below.refl _ _⟩
  | true =>
    have HB0 := Kept.mk (show runB xs = longTo xs (6 * xs.length) by unfold runB; rw [hp]; rfl)
    have HP := Kept.mk hp
    clear hp
    go_enter Tryd.func28, Tryd.ntmps28
    go_wp2_with fail
    refine (small_c _ xs _ HR.out hl).mono ?_
    rintro e w' ⟨rfl, rfl⟩
    rw [HP.out]
    go_wp2_with fail
    refine (bits_c v xs _ HR.out HX.out hl).mono ?_
    rintro e w1 ⟨u, rfl, hO⟩
    obtain ⟨A, cap, rfl, hcap, hmax⟩ := own_slice' hO.1
    have HRB := Kept.mk hO.rd
    have HB := Kept.mk hO.2
    unfold maxLen at hmax
    obtain ⟨N, hN⟩ : ∃ N, N = 6 * xs.length := ⟨_, rfl⟩
    have hNl : N ≤ 600000 := by omega
    rw [← hN] at hcap HRB HB0 ⊢
    have HN := Kept.mk hN
    clear hO hN
    go_wp2_with fail
    go_loopw [4, 5, 6] (fun v4 v5 v6 wr => ∃ i b j : Nat, i ≤ N ∧ b ≤ N ∧ v5 = .int .i64 i ∧ v4 = .int .i64 b ∧ Kept (Best xs N i b) ∧ wr = w1.drewN j) (fun _ v5 _ _ => N - (intOf v5).toNat)
    case atStart => exact ⟨0, 0, 0, by omega, by omega, rfl, rfl, ⟨⟨fun s n h => by omega, .inl ⟨rfl, rfl⟩⟩⟩, rfl⟩
    case round =>
      obtain ⟨i, b, j, hi, hb, rfl, rfl, HBE, rfl⟩ := hrel
      by_cases hlt : i < N
      · obtain ⟨g, rfl, hg, hcell⟩ := HRB.out (by omega)
        have HC := Kept.mk hcell
        clear hcell
        go_wp2_with fail
        go_loopw [6] (fun v6 wr => ∃ n j : Nat, 1 ≤ n ∧ i + n ≤ N ∧ v6 = .int .i64 n ∧ Kept (Seg xs i n N) ∧ wr = w1.drewN j) (fun v6 _ => N - (intOf v6).toNat)
        case atStart => exact ⟨1, j, by omega, by omega, rfl, ⟨⟨by omega, fun d hd => by rw [show d = 0 by omega]; rfl⟩⟩, rfl⟩
        case round =>
          obtain ⟨n, j, hn, hin, rfl, HSG, rfl⟩ := hrel
          obtain ⟨m, hm⟩ : ∃ m, m = i + n := ⟨_, rfl⟩
          have hw : IntKind.i64.wrap ((i : Int) + (n : Int)) = (m : Int) := by rw [IntWalk.i64_in _ (by omega)]; omega
          by_cases hmN : i + n < N
          · have c0 := HC.out i hlt
            have c1 := HC.out m (by omega)
            have hm1 : m < N := by omega
            have HM := Kept.mk hm
            clear hm
            rcases Decidable.em (bitAt xs m = bitAt xs i) with he | he
            · have q1 : (bitAt xs m == bitAt xs i) = true := by simp [he]
              have HS2 : Kept (Seg xs i (n + 1) N) := ⟨⟨by omega, fun d hd => by
                rcases Nat.lt_or_eq_of_le (Nat.le_of_lt_succ hd) with h1 | rfl
                · exact HSG.out.2 d h1
                · rw [← HM.out]; exact he⟩⟩
              clear he
              generalize bitAt xs m = bm at *
              generalize bitAt xs i = bi at *
              go_wp2_with fail
              go_quiet (fail)
              go_wp2_with fail
              go_roundw
              case rel => exact ⟨n + 1, j + nq, by omega, by omega, by go_num, HS2, by first | rfl | rw [World.drewN_drewN]⟩
              case measure => simp [intOf]; omega
            · have q1 : (bitAt xs m == bitAt xs i) = false := by simp [he]
              have HNX := Kept.mk (best_next HBE.out HSG.out (.inr (by rw [← HM.out]; exact he)) (by omega))
              clear he
              generalize bitAt xs m = bm at *
              generalize bitAt xs i = bi at *
              go_wp2_with fail
              go_quiet (fail)
              go_wp2_with fail
              go_roundw
              case rel => exact ⟨i + 1, max b n, j + nq, by omega, by omega, by go_num, by congr 1; omega, HNX, by first | rfl | rw [World.drewN_drewN]⟩
              case measure => simp [intOf]; omega
          · have HNX := Kept.mk (best_next HBE.out HSG.out (.inl (by omega)) (by omega))
            have hd1 : decide (m < N) = false := by simp; omega
            have hd2 : decide ((m : Int) < (N : Int)) = false := by simp; omega
            have hd3 : decide ((i : Int) + (n : Int) < (N : Int)) = false := by simp; omega
            have HM := Kept.mk hm
            clear hm
            go_wp2_with fail
            go_quiet (fail)
            go_wp2_with fail
            go_roundw
            case rel => exact ⟨i + 1, max b n, j + nq, by omega, by omega, by go_num, by congr 1; omega, HNX, by first | rfl | rw [World.drewN_drewN]⟩
            case measure => simp [intOf]; omega
      · have hi' : i = N := by omega
        have HF := Kept.mk (show runB xs = b by rw [HB0.out, ← best_end (by rw [← hi'] at HBE ⊢; exact HBE.out)])
        clear hi'
        go_wp2_with fail
        go_ret
        exact ⟨by rw [HF.out] <;> rfl, dN HB.out j⟩
end Go.Proofs.YtkpnggnanacaaaaDoor
