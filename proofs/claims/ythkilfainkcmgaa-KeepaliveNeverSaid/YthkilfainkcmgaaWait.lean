/- Keepalive: the clock's Wait. -/
import Derived.Test.YthkilfainkcmgaaCWalks
namespace Go.Proofs.Ythkilfainkcmgaa
set_option linter.unusedVariables false
set_option linter.unusedSimpArgs false
open Go.RowKit
/-- A fact that no search opens. -/
structure Kept (p : Prop) : Prop where
  out : p
/-- The least number of local ticks whose low bound is at least t. -/
def waitT (t p : Int) : Int := if t ≤ 0 then 0 else 1 + ((t - 1) * (1000000 + p) + 999999) / 1000000
theorem waitT_iff {t p e : Int} (hp : 0 ≤ p) (he : 0 ≤ e) : t ≤ lowI e p ↔ waitT t p ≤ e := by
  unfold waitT
  by_cases ht : t ≤ 0
  · rw [if_pos ht]
    have := low_bd he hp
    omega
  · rw [if_neg ht]
    have k := div_spec ((t - 1) * (1000000 + p) + 999999) 1000000 (by omega)
    have k0 : 0 ≤ (t - 1) * (1000000 + p) := Int.mul_nonneg (by omega) (by omega)
    unfold lowI
    by_cases h0 : 0 < e
    · rw [if_pos h0]
      have q := div_spec ((e - 1) * 1000000) (1000000 + p) (by omega)
      constructor
      · intro h
        have h1 : (t - 1) * (1000000 + p) ≤ (e - 1) * 1000000 / (1000000 + p) * (1000000 + p) := Int.mul_le_mul_of_nonneg_right (by omega) (by omega)
        generalize (e - 1) * 1000000 / (1000000 + p) * (1000000 + p) = z at *
        generalize (t - 1) * (1000000 + p) = y at *
        omega
      · intro h
        have h1 : (t - 1) * (1000000 + p) ≤ (e - 1) * 1000000 := by
          generalize (t - 1) * (1000000 + p) = y at *
          omega
        have := le_div_of (a := (e - 1) * 1000000) (d := 1000000 + p) (q := t - 1) (by omega) h1
        omega
    · rw [if_neg h0]
      have : 0 ≤ ((t - 1) * (1000000 + p) + 999999) / 1000000 := Int.ediv_nonneg (by omega) (by omega)
      omega
theorem waitT_bd {t p : Int} (hp : 0 ≤ p) (hp2 : p ≤ 100000) (ht : t ≤ 536870912) : 0 ≤ waitT t p ∧ waitT t p ≤ 700000000 ∧ t ≤ waitT t p + 1 := by
  unfold waitT
  split
  · omega
  · have k0 : 0 ≤ (t - 1) * (1000000 + p) := Int.mul_nonneg (by omega) (by omega)
    have k1 : (t - 1) * (1000000 + p) ≤ 536870912 * 1100000 := by
      have := mul_bd (a := t - 1) (b := 1000000 + p) (A := 536870912) (B := 1100000) (by omega) (by omega) (by omega) (by omega)
      omega
    have k2 : (t - 1) * 1000000 ≤ (t - 1) * (1000000 + p) := Int.mul_le_mul_of_nonneg_left (by omega) (by omega)
    generalize (t - 1) * (1000000 + p) = y at *
    omega
set_option maxHeartbeats 1000000 in
theorem clo_c (e p t : Int) (w : World) (bp bt : Nat) (hb : w.cell? ⟨bp, 0, none⟩ = some (.int .i64 p)) (ht : w.cell? ⟨bt, 0, none⟩ = some (.int .i64 t)) (h0 : 0 ≤ e) (h1 : e ≤ 1073741824) (p0 : 0 ≤ p) (p1 : p ≤ 100000) :
    Calls Try.prog 31 #[.int .i64 e, .pointer (some ⟨bp, 0, none⟩), .pointer (some ⟨bt, 0, none⟩)] w fun r w' => r = .returned (.bool (decide (waitT t p ≤ e))) ∧ w = w' := by
  have hB : boundsB e p = true := by simp [boundsB, insideB, h0, h1, p0, p1]
  have E1 := Kept.mk (show bLow e p = lowI e p by unfold bLow; rw [if_pos hB])
  have E2 := Kept.mk (show decide (t ≤ lowI e p) = decide (waitT t p ≤ e) by simp only [waitT_iff p0 h0])
  clear hB
  go_enter Try.func31, Try.ntmps31
  go_wp2_with fail
  refine (bounds_c _ _ _).mono ?_
  rintro r w' ⟨rfl, rfl⟩
  rw [E1.out]
  generalize lowI e p = l at *
  generalize bHigh e p = bh
  generalize bErr e p = be
  go_wp2_with fail
  go_ret
  exact ⟨by rw [← E2.out] <;> rfl, rfl⟩
set_option maxHeartbeats 1000000 in
theorem search_c (p t : Int) (w : World) (bp bt : Nat) (hb : w.cell? ⟨bp, 0, none⟩ = some (.int .i64 p)) (ht : w.cell? ⟨bt, 0, none⟩ = some (.int .i64 t)) (p0 : 0 ≤ p) (p1 : p ≤ 100000) (t1 : t ≤ 536870912) :
    Calls Try.prog 30 #[.int .i64 1073741824, .func (.func 31) #[] #[.pointer (some ⟨bp, 0, none⟩), .pointer (some ⟨bt, 0, none⟩)]] w fun r w' => r = .returned (.int .i64 (waitT t p)) ∧ w = w' := by
  obtain ⟨b1, b2, -⟩ := waitT_bd p0 p1 t1
  have HC := Kept.mk (fun e => clo_c e p t w bp bt hb ht)
  generalize waitT t p = T at *
  clear hb ht
  go_enter Try.func30, Try.ntmps30
  go_wp2_with fail
  go_loop [5, 6] (fun v5 v6 => ∃ i j : Int, 0 ≤ i ∧ i ≤ T ∧ T ≤ j ∧ j ≤ 1073741824 ∧ v5 = .int .i64 i ∧ v6 = .int .i64 j) (fun v5 v6 => (intOf v6 - intOf v5).toNat)
  case atStart => exact ⟨0, 1073741824, by omega, b1, by omega, by omega, rfl, rfl⟩
  case round =>
    obtain ⟨i, j, g1, g2, g3, g4, rfl, rfl⟩ := hrel
    by_cases hij : i < j
    · go_wp2_with fail
      refine (HC.out _ (by omega) (by omega) p0 p1).mono ?_
      rintro r w' ⟨rfl, rfl⟩
      by_cases hT : T ≤ (i + j) / 2
      · rw [decide_eq_true hT]
        go_wp2_with fail
        go_round
        case rel => exact ⟨i, (i + j) / 2, by omega, by omega, by omega, by omega, rfl, rfl⟩
        case measure => simp [intOf]; omega
      · rw [decide_eq_false hT]
        go_wp2_with fail
        go_round
        case rel => exact ⟨(i + j) / 2 + 1, j, by omega, by omega, by omega, by omega, rfl, rfl⟩
        case measure => simp [intOf]; omega
    · have hT : Kept (i = T) := ⟨by omega⟩
      go_wp2_with fail
      go_ret
      exact ⟨by rw [hT.out] <;> rfl, rfl⟩
theorem wait_c (t p : Int) (w : World) (h0 : 0 ≤ t) (h1 : t ≤ 536870912) (p0 : 0 ≤ p) (p1 : p ≤ 100000) :
    Calls Try.prog 26 #[.int .i64 t, .int .i64 p] w fun r w' => r = .returned (.tuple #[.int .i64 (waitT t p), .int .i64 0]) ∧ Below w.heap.size w w' := by
  have i1 : insideB t 536870912 = true := inside_iff.2 ⟨h0, h1⟩
  have i2 : insideB p 100000 = true := inside_iff.2 ⟨p0, p1⟩
  go_enter Try.func26, Try.ntmps26
  go_wp2_with (go_at_call 29; refine (inside_c _ _ _).mono ?_; rintro e w' ⟨rfl, rfl⟩)
  refine (search_c p t _ _ _ (by simp) (by simp) p0 p1 h1).mono ?_
  rintro r w' ⟨rfl, rfl⟩
  go_wp2_with fail
  go_ret2
  exact ⟨rfl, ((Below.refl _ _).alloc (Nat.le_refl _) _).alloc (by simp) _⟩
end Go.Proofs.Ythkilfainkcmgaa
