/- Keepalive: Safe, Latest, the reference's wait and Safe, and the statements' own example. -/
import Derived.Test.YthkilfainkcmgaaHeard
namespace Go.Proofs.Ythkilfainkcmgaa
set_option linter.unusedVariables false
set_option linter.unusedSimpArgs false
open Go.RowKit
def argB (every dead delay parts : Int) : Bool := perB every dead && decide (0 ≤ delay) && decide (delay ≤ 1048576) && decide (0 ≤ parts) && decide (parts ≤ 100000)
def safeB (every dead delay parts : Int) : Bool := argB every dead delay parts && decide (waitT (highI (every - 1) parts + 1 + delay + 1) parts - 1 ≤ dead)
theorem high_bd2 {e p : Int} (he : 0 ≤ e) (he2 : e ≤ 1048576) (hp : 0 ≤ p) (hp2 : p ≤ 100000) : 0 ≤ highI e p ∧ highI e p ≤ 1200000 := by
  have h1 := high_bd he hp hp2
  refine ⟨by omega, ?_⟩
  unfold highI
  have : ((e + 1) * 1000000 - 1) / (1000000 - p) < 1200001 := div_lt_of (by omega) (by
    have : (1048577 : Int) * 1000000 - 1 < 1200001 * (1000000 - p) := by omega
    omega)
  omega
theorem arg_iff {e d y p : Int} : argB e d y p = true ↔ (1 ≤ e ∧ e ≤ 1048576 ∧ e ≤ d ∧ d ≤ 1048576) ∧ 0 ≤ y ∧ y ≤ 1048576 ∧ 0 ≤ p ∧ p ≤ 100000 := by
  simp only [argB, Bool.and_eq_true, per_iff, decide_eq_true_eq]
  omega
set_option maxHeartbeats 2000000 in
theorem safe_c (e d y p : Int) (w : World) : Calls Try.prog 18 #[.int .i64 e, .int .i64 d, .int .i64 y, .int .i64 p] w fun r w' => r = .returned (.bool (safeB e d y p)) ∧ Below w.heap.size w w' := by
  by_cases ha : argB e d y p = true
  · obtain ⟨⟨h1, h2, h3, h4⟩, h5, h6, h7, h8⟩ := arg_iff.1 ha
    have HP := Kept.mk (per_iff.2 ⟨h1, h2, h3, h4⟩)
    have hB : boundsB (e - 1) p = true := by
      simp only [boundsB, Bool.and_eq_true, inside_iff]; omega
    have E1 := Kept.mk (show bHigh (e - 1) p = highI (e - 1) p by unfold bHigh; rw [if_pos hB])
    have E2 := Kept.mk (show bErr (e - 1) p = 0 by unfold bErr; rw [if_pos hB])
    have hh := high_bd2 (e := e - 1) (p := p) (by omega) (by omega) h7 h8
    have ES := Kept.mk (show safeB e d y p = decide (waitT (highI (e - 1) p + 1 + y + 1) p - 1 ≤ d) by unfold safeB; rw [ha]; rfl)
    generalize highI (e - 1) p = hg at *
    have hw := waitT_bd (t := hg + 1 + y + 1) h7 h8 (by omega)
    clear hB ha
    go_enter Try.func18, Try.ntmps18
    go_wp2_with fail
    refine (valid_p _ _ _).mono ?_
    rintro r w' ⟨rfl, rfl⟩
    rw [HP.out]
    go_wp2_with fail
    refine (bounds_c _ _ _).mono ?_
    rintro r w' ⟨rfl, rfl⟩
    rw [E1.out, E2.out]
    generalize bLow (e - 1) p = bl
    go_wp2_with fail
    refine (wait_c (hg + 1 + y + 1) p _ (by omega) (by omega) h7 h8).mono ?_
    rintro r w1 ⟨rfl, hb⟩
    have HB := Kept.mk hb
    obtain ⟨T, hT⟩ : ∃ T, waitT (hg + 1 + y + 1) p = T := ⟨_, rfl⟩
    rw [hT] at ES hw ⊢
    clear hT hb
    go_wp2_with fail
    go_ret
    exact ⟨by rw [ES.out] <;> rfl, HB.out⟩
  · have ES := Kept.mk (show safeB e d y p = false by unfold safeB; rw [show argB e d y p = false by simpa using ha]; rfl)
    cases hp : perB e d with
    | false =>
      have HP := Kept.mk hp
      clear hp ha
      go_enter Try.func18, Try.ntmps18
      go_wp2_with fail
      refine (valid_p _ _ _).mono ?_
      rintro r w' ⟨rfl, rfl⟩
      rw [HP.out]
      go_wp2_with fail
      go_ret
      exact ⟨by rw [ES.out] <;> rfl, Below.refl _ _⟩
    | true =>
      have HP := Kept.mk hp
      have hor : y < 0 ∨ ¬ y < 0 ∧ 1048576 < y ∨ ¬ y < 0 ∧ ¬ 1048576 < y ∧ p < 0 ∨ ¬ y < 0 ∧ ¬ 1048576 < y ∧ ¬ p < 0 ∧ 100000 < p := by
        have h1 := per_iff.1 hp
        rw [arg_iff] at ha
        omega
      clear hp ha
      rcases hor with h | ⟨h, h'⟩ | ⟨h, h', h''⟩ | ⟨h, h', h'', h'''⟩
      all_goals
        go_enter Try.func18, Try.ntmps18
        go_wp2_with fail
        refine (valid_p _ _ _).mono ?_
        rintro r w' ⟨rfl, rfl⟩
        rw [HP.out]
        go_wp2_with fail
        go_ret
        exact ⟨by rw [ES.out] <;> rfl, Below.refl _ _⟩
def latB (d p : Int) : Bool := decide (1 ≤ d) && decide (d ≤ 1048576) && decide (0 ≤ p) && decide (p ≤ 100000)
theorem lat_iff {d p : Int} : latB d p = true ↔ 1 ≤ d ∧ d ≤ 1048576 ∧ 0 ≤ p ∧ p ≤ 100000 := by
  simp only [latB, Bool.and_eq_true, decide_eq_true_eq]; omega
theorem latest_yes (d p : Int) (w : World) (h : latB d p = true) : Calls Try.prog 20 #[.int .i64 d, .int .i64 p] w fun r w' => r = .returned (.tuple #[.int .i64 (highI d p), .int .i64 0]) ∧ w = w' := by
  obtain ⟨h1, h2, h3, h4⟩ := lat_iff.1 h
  have hB : boundsB d p = true := by
    simp only [boundsB, Bool.and_eq_true, inside_iff]; omega
  have E1 := Kept.mk (show bHigh d p = highI d p by unfold bHigh; rw [if_pos hB])
  have E2 := Kept.mk (show bErr d p = 0 by unfold bErr; rw [if_pos hB])
  clear hB h
  go_enter Try.func20, Try.ntmps20
  go_wp2_with fail
  refine (bounds_c _ _ _).mono ?_
  rintro r w' ⟨rfl, rfl⟩
  rw [E1.out, E2.out]
  generalize bLow d p = bl
  go_wp2_with fail
  go_ret2
  exact ⟨rfl, rfl⟩
theorem latest_no (d p : Int) (w : World) (h : latB d p = false) : Calls Try.prog 20 #[.int .i64 d, .int .i64 p] w fun r w' => r = .returned (.tuple #[.int .i64 0, .int .i64 2]) ∧ w = w' := by
  have hor : d < 1 ∨ ¬ d < 1 ∧ 1048576 < d ∨ ¬ d < 1 ∧ ¬ 1048576 < d ∧ p < 0 ∨ ¬ d < 1 ∧ ¬ 1048576 < d ∧ ¬ p < 0 ∧ 100000 < p := by
    have : ¬ latB d p = true := by simp [h]
    rw [lat_iff] at this
    omega
  clear h
  rcases hor with h | ⟨h, h'⟩ | ⟨h, h', h''⟩ | ⟨h, h', h'', h'''⟩
  all_goals
    go_enter Try.func20, Try.ntmps20
    go_wp2_with fail
    go_ret2
    exact ⟨rfl, rfl⟩
def aw0 : St := new 5 12
theorem fit_new (e d : Int) : Fit (new e d) := ⟨by simp [new], by simp [new], by simp [new], by simp [new], by simp [new], by simp [new], by simp [new], by simp [new]⟩
theorem fit_tick {s : St} (h : Fit s) {n : Int} (h0 : 0 ≤ n) (h1 : n ≤ 17179869184) (ha : s.alarms < 1000000) : Fit (tick s n) := by
  obtain ⟨f1, f2, f3, f4, f5, f6, f7, f8⟩ := h
  refine ⟨?_, ?_, ?_, ?_, ?_, ?_, ?_, ?_⟩
  · simp only [tick]; omega
  · simp only [tick]; omega
  · simp only [tick]; split <;> omega
  · simp only [tick]; split <;> omega
  · simp only [tick, lastT]; split <;> omega
  · simp only [tick, lastT]; split <;> omega
  · simp only [tick]; split <;> omega
  · simp only [tick]; split <;> omega
theorem fit_heard {s : St} (h : Fit s) {n : Int} (h0 : 0 ≤ n) (h1 : n ≤ 17179869184) : Fit (heard s n) := by
  obtain ⟨f1, f2, f3, f4, f5, f6, f7, f8⟩ := h
  refine ⟨?_, ?_, f3, f4, ?_, ?_, f7, f8⟩ <;> simp only [heard] <;> omega
theorem alarms_tick (s : St) (n : Int) : s.alarms ≤ (tick s n).alarms ∧ (tick s n).alarms ≤ s.alarms + 1 := by
  simp only [tick]; split <;> omega
set_option maxRecDepth 100000 in
set_option maxHeartbeats 2000000 in
theorem awake_c (w : World) : Calls Try.prog 10 #[] w fun e w' => e = .returned (.bool true) ∧ Below w.heap.size w w' := by
  go_enter Try.func10, Try.ntmps10
  go_wp2_with fail
  refine (new_c 5 12 _ (by decide)).mono ?_
  rintro e w1 ⟨rfl, rfl⟩
  have hw : Kept (Blk (w.alloc (.cells (wc (new 5 12)) 59)) w.heap.size 59 (wc (new 5 12))) := ⟨Blk.new w 59 _⟩
  have HO : Kept (OnlyP (fun x => x = w.heap.size) w (w.alloc (.cells (wc (new 5 12)) 59))) := ⟨(OnlyP.refl _ _).alloc _⟩
  obtain ⟨W1, hW1⟩ : ∃ W1, W1 = w.alloc (.cells (wc (new 5 12)) 59) := ⟨_, rfl⟩
  rw [← hW1] at hw HO ⊢
  clear hW1
  generalize hB : w.heap.size = B at *
  have HBB := Kept.mk hB
  clear hB
  go_wp2_with fail
  refine (tick_c (new 5 12) 0 _ B hw.out (fit_new _ _) (by omega) (by omega)).mono ?_
  rintro e w2 ⟨rfl, h2, o2⟩
  rw [show sendT (new 5 12) 0 = true by decide, show alarmT (new 5 12) 0 = false by decide]
  have H2 := Kept.mk h2
  have HO2 := Kept.mk (HO.out.trans o2)
  clear h2 o2 hw HO
  go_wp2_with fail
  refine (heard_c (tick (new 5 12) 0) 20 _ B H2.out).mono ?_
  rintro e w3 ⟨rfl, h3, o3⟩
  have H3 := Kept.mk h3
  have HO3 := Kept.mk (HO2.out.trans o3)
  clear h3 o3 H2 HO2
  go_wp2_with fail
  refine (tick_c (heard (tick (new 5 12) 0) 20) 32 _ B H3.out (fit_heard (fit_tick (fit_new _ _) (by omega) (by omega) (by decide)) (by omega) (by omega)) (by omega) (by omega)).mono ?_
  rintro e w4 ⟨rfl, h4, o4⟩
  rw [show alarmT (heard (tick (new 5 12) 0) 20) 32 = false by decide]
  generalize sendT (heard (tick (new 5 12) 0) 20) 32 = q1
  have H4 := Kept.mk h4
  have HO4 := Kept.mk (HO3.out.trans o4)
  clear h4 o4 H3 HO3
  go_wp2_with fail
  refine (tick_c (tick (heard (tick (new 5 12) 0) 20) 32) 33 _ B H4.out (fit_tick (fit_heard (fit_tick (fit_new _ _) (by omega) (by omega) (by decide)) (by omega) (by omega)) (by omega) (by omega) (by decide)) (by omega) (by omega)).mono ?_
  rintro e w5 ⟨rfl, h5, o5⟩
  rw [show alarmT (tick (heard (tick (new 5 12) 0) 20) 32) 33 = true by decide]
  generalize sendT (tick (heard (tick (new 5 12) 0) 20) 32) 33 = q2
  have H5 := Kept.mk h5
  have HO5 := Kept.mk (HO4.out.trans o5)
  clear h5 o5 H4 HO4
  go_wp2_with fail
  refine (alarms_c _ _ B H5.out).mono ?_
  rintro e w' ⟨rfl, rfl⟩
  rw [show (tick (tick (heard (tick (new 5 12) 0) 20) 32) 33).alarms = 1 by decide]
  have HL : Kept (Below w.heap.size w w5) := ⟨HO5.out.below (by intro k hk; have := HBB.out; omega) (Nat.le_refl _)⟩
  go_wp2_with fail
  refine (safe_c 5 5 0 0 _).mono ?_
  rintro e w6 ⟨rfl, hb6⟩
  rw [show safeB 5 5 0 0 = true by decide]
  have HL6 := Kept.mk (join HL.out hb6)
  clear hb6
  go_wp2_with fail
  refine (safe_c 5 5 1 0 _).mono ?_
  rintro e w7 ⟨rfl, hb7⟩
  rw [show safeB 5 5 1 0 = false by decide]
  have HL7 := Kept.mk (join HL6.out hb7)
  clear hb7
  go_wp2_with fail
  go_ret
  exact ⟨rfl, by have := HL7.out; have := HBB.out; simp_all⟩
end Go.Proofs.Ythkilfainkcmgaa
