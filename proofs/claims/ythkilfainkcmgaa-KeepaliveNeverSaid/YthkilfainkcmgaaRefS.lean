/- Keepalive: the reference's wait and Safe; Safe stays true under easier conditions. -/
import Derived.Test.YthkilfainkcmgaaSafe
namespace Go.Proofs.Ythkilfainkcmgaa
set_option linter.unusedVariables false
set_option linter.unusedSimpArgs false
open Go.RowKit
set_option maxHeartbeats 2000000 in
theorem refWait_c (t p : Int) (w : World) (h0 : 0 ≤ t) (h1 : t ≤ 4000000) (p0 : 0 ≤ p) (p1 : p ≤ 100000) :
    Calls Try.prog 27 #[.int .i64 t, .int .i64 p] w fun r w' => r = .returned (.int .i64 (waitT t p)) ∧ w = w' := by
  obtain ⟨b1, b2, b3⟩ := waitT_bd p0 p1 (show t ≤ 536870912 by omega)
  have HI := Kept.mk (fun e (he : 0 ≤ e) => waitT_iff (t := t) p0 he)
  have HL := Kept.mk (fun e (he : 0 ≤ e) => low_bd (e := e) he p0)
  generalize waitT t p = T at *
  by_cases ht : 2 < t
  all_goals
    go_enter Try.func27, Try.ntmps27
    go_wp2_with fail
    go_loop [5] (fun v5 => ∃ x : Int, 0 ≤ x ∧ x ≤ T + t ∧ v5 = .int .i64 x) (fun v5 => (T - intOf v5).toNat)
    case atStart => first | exact ⟨t - 2, by omega, by omega, rfl⟩ | exact ⟨0, by omega, by omega, rfl⟩
    case round =>
      obtain ⟨x, x0, x1, rfl⟩ := hrel
      have hi := HI.out x x0
      obtain ⟨l0, l1⟩ := HL.out x x0
      have HC := Kept.mk (refLow_c x p w x0 (by omega) p0 p1)
      generalize lowI x p = l at *
      by_cases hx : T ≤ x
      · have htl : t ≤ l := hi.2 hx
        clear hi
        go_wp2_with fail
        refine HC.out.mono ?_
        rintro r w' ⟨rfl, rfl⟩
        go_wp2_with fail
        go_loop [5] (fun v5 => ∃ x : Int, T ≤ x ∧ x ≤ T + t ∧ v5 = .int .i64 x) (fun v5 => (intOf v5).toNat)
        case atStart => exact ⟨x, hx, x1, rfl⟩
        case round =>
          obtain ⟨y, y0, y1, rfl⟩ := hrel
          by_cases hy : 0 < y
          · have hi2 := HI.out (y - 1) (by omega)
            obtain ⟨k0, k1⟩ := HL.out (y - 1) (by omega)
            have HC2 := Kept.mk (refLow_c (y - 1) p w (by omega) (by omega) p0 p1)
            generalize lowI (y - 1) p = l2 at *
            by_cases hy2 : T ≤ y - 1
            · have htl2 : t ≤ l2 := hi2.2 hy2
              clear hi2
              go_wp2_with fail
              refine HC2.out.mono ?_
              rintro r w' ⟨rfl, rfl⟩
              go_wp2_with fail
              go_round
              case rel => exact ⟨y - 1, by omega, by omega, rfl⟩
              case measure => simp [intOf]; omega
            · have htl2 : ¬ t ≤ l2 := fun h => hy2 (hi2.1 h)
              have hT : Kept (y = T) := ⟨by omega⟩
              clear hi2
              go_wp2_with fail
              refine HC2.out.mono ?_
              rintro r w' ⟨rfl, rfl⟩
              go_wp2_with fail
              go_ret
              exact ⟨by rw [hT.out] <;> rfl, rfl⟩
          · have hT : Kept (y = T) := ⟨by omega⟩
            go_wp2_with fail
            go_ret
            exact ⟨by rw [hT.out] <;> rfl, rfl⟩
      · have htl : ¬ t ≤ l := fun h => hx (hi.1 h)
        clear hi
        go_wp2_with fail
        refine HC.out.mono ?_
        rintro r w' ⟨rfl, rfl⟩
        go_wp2_with fail
        refine HC.out.mono ?_
        rintro r w' ⟨rfl, rfl⟩
        go_wp2_with fail
        go_round
        case rel => exact ⟨x + 1 + (t - l) / 2, by omega, by omega, rfl⟩
        case measure => simp [intOf]; omega
set_option maxHeartbeats 2000000 in
theorem refSafe_c (e d y p : Int) (w : World) : Calls Try.prog 19 #[.int .i64 e, .int .i64 d, .int .i64 y, .int .i64 p] w fun r w' => r = .returned (.bool (safeB e d y p)) ∧ w = w' := by
  by_cases ha : argB e d y p = true
  · obtain ⟨⟨h1, h2, h3, h4⟩, h5, h6, h7, h8⟩ := arg_iff.1 ha
    have hh := high_bd2 (e := e - 1) (p := p) (by omega) (by omega) h7 h8
    have ES := Kept.mk (show safeB e d y p = decide (waitT (highI (e - 1) p + 1 + y + 1) p - 1 ≤ d) by unfold safeB; rw [ha]; rfl)
    have HC := Kept.mk (refHigh_c (e - 1) p w (by omega) (by omega) h7 h8)
    generalize highI (e - 1) p = hg at *
    have hw := waitT_bd (t := hg + 1 + y + 1) h7 h8 (by omega)
    clear ha
    go_enter Try.func19, Try.ntmps19
    go_wp2_with fail
    refine HC.out.mono ?_
    rintro r w' ⟨rfl, rfl⟩
    go_wp2_with fail
    refine (refWait_c (hg + 1 + y + 1) p _ (by omega) (by omega) h7 h8).mono ?_
    rintro r w' ⟨rfl, rfl⟩
    obtain ⟨T, hT⟩ : ∃ T, waitT (hg + 1 + y + 1) p = T := ⟨_, rfl⟩
    rw [hT] at ES hw ⊢
    clear hT
    go_wp2_with fail
    go_ret
    exact ⟨by rw [ES.out] <;> rfl, rfl⟩
  · have ES := Kept.mk (show safeB e d y p = false by unfold safeB; rw [show argB e d y p = false by simpa using ha]; rfl)
    have hor : e < 1 ∨ ¬ e < 1 ∧ 1048576 < e ∨ ¬ e < 1 ∧ ¬ 1048576 < e ∧ (d < e ∨ ¬ d < e ∧ (1048576 < d ∨ ¬ 1048576 < d ∧ (y < 0 ∨ ¬ y < 0 ∧ (1048576 < y ∨ ¬ 1048576 < y ∧ (p < 0 ∨ ¬ p < 0 ∧ 100000 < p))))) := by
      rw [arg_iff] at ha
      omega
    clear ha
    rcases hor with h | ⟨h, h'⟩ | ⟨h, h', h2 | ⟨h2, h2' | ⟨h2', h3 | ⟨h3, h3' | ⟨h3', h4 | ⟨h4, h4'⟩⟩⟩⟩⟩⟩
    all_goals
      go_enter Try.func19, Try.ntmps19
      go_wp2_with fail
      go_ret
      exact ⟨by rw [ES.out] <;> rfl, rfl⟩
theorem div_anti {a d d' : Int} (ha : 0 ≤ a) (hd : 1 ≤ d) (h : d ≤ d') : a / d' ≤ a / d := by
  have h1 := div_spec a d' (by omega)
  have h2 := Int.ediv_nonneg ha (show (0 : Int) ≤ d' by omega)
  have h3 := Int.mul_le_mul_of_nonneg_left h h2
  exact le_div_of hd (by omega)
theorem high_mono {e p p' : Int} (he : 0 ≤ e) (hp : p' ≤ p) (h0 : 0 ≤ p') (hp2 : p ≤ 100000) : highI e p' ≤ highI e p := div_anti (by omega) (by omega) (by omega)
theorem wait_mono {t t' p p' : Int} (ht : t' ≤ t) (hp : p' ≤ p) (h0 : 0 ≤ p') : waitT t' p' ≤ waitT t p := by
  unfold waitT
  by_cases h1 : t' ≤ 0
  · rw [if_pos h1]
    split
    · omega
    · have : 0 ≤ (t - 1) * (1000000 + p) := Int.mul_nonneg (by omega) (by omega)
      have := Int.ediv_nonneg (a := (t - 1) * (1000000 + p) + 999999) (b := 1000000) (by omega) (by omega)
      omega
  · rw [if_neg h1, if_neg (by omega)]
    have a1 : (t' - 1) * (1000000 + p') ≤ (t - 1) * (1000000 + p') := Int.mul_le_mul_of_nonneg_right (by omega) (by omega)
    have a2 : (t - 1) * (1000000 + p') ≤ (t - 1) * (1000000 + p) := Int.mul_le_mul_of_nonneg_left (by omega) (by omega)
    have := div_mono (a := (t' - 1) * (1000000 + p') + 999999) (b := (t - 1) * (1000000 + p) + 999999) (d := 1000000) (by omega) (by omega)
    omega
theorem safe_iff {e d y p : Int} : safeB e d y p = true ↔ argB e d y p = true ∧ waitT (highI (e - 1) p + 1 + y + 1) p - 1 ≤ d := by
  simp [safeB]
theorem safe_easier {e d d' y y' p p' : Int} (h : safeB e d y p = true) (hd : d ≤ d') (hd2 : d' ≤ 1048576) (hy : y' ≤ y) (hy0 : 0 ≤ y') (hp : p' ≤ p) (hp0 : 0 ≤ p') : safeB e d' y' p' = true := by
  obtain ⟨h1, h2⟩ := safe_iff.1 h
  obtain ⟨⟨g1, g2, g3, g4⟩, g5, g6, g7, g8⟩ := arg_iff.1 h1
  refine safe_iff.2 ⟨arg_iff.2 (by omega), ?_⟩
  have m1 := high_mono (e := e - 1) (by omega) hp hp0 g8
  have m2 := wait_mono (t := highI (e - 1) p + 1 + y + 1) (t' := highI (e - 1) p' + 1 + y' + 1) (by omega) hp hp0
  omega
end Go.Proofs.Ythkilfainkcmgaa
