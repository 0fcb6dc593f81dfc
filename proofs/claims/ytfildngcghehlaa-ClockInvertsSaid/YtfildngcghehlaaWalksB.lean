/- Clock: what Within, Bounds, the reference's functions and the statements' example check compute, for all integers within each theorem's premises; nothing that was there is written. -/
import Derived.Test.YtfildngcghehlaaWalks
namespace Go.Proofs.Ytfildngcghehlaa
set_option linter.unusedVariables false
open Go.RowKit
theorem lt1 {w W w1 : World} (h : w.heap.size < W.heap.size) (hb : Below W.heap.size W w1) : w.heap.size < w1.heap.size := Nat.lt_of_lt_of_le h hb.size
def nearB (n d p : Int) : Bool := decide ((n - d) * 1000000 ≤ p * d) && decide ((d - n) * 1000000 ≤ p * d)
def withinB (s n d p : Int) : Bool := validB s n d && insideB p 100000 && nearB n d p
theorem within_iff {s n d p : Int} : withinB s n d p = true ↔ validB s n d = true ∧ (0 ≤ p ∧ p ≤ 100000) ∧ (n - d) * 1000000 ≤ p * d ∧ (d - n) * 1000000 ≤ p * d := by
  simp [withinB, nearB, insideB, and_assoc]
set_option maxHeartbeats 800000 in
theorem within_c (s n d p : Int) (w : World) : Calls Try.prog 17 #[.agg #[.int .i64 s, .int .i64 n, .int .i64 d], .int .i64 p] w fun e w' => e = .returned (.bool (withinB s n d p)) ∧ Below w.heap.size w w' := by
  by_cases hv : validB s n d = true
  · by_cases hi : insideB p 100000 = true
    · obtain ⟨b1, b2, b3, b4, b5, b6, b7, b8⟩ := valid_iff.1 hv
      obtain ⟨t1, t2⟩ := inside_iff.1 hi
      obtain ⟨m1, m2⟩ := mul_bd t1 t2 (b := d) (by omega) b4
      by_cases hm : n ≤ d
      · by_cases hr : (d - n) * 1000000 ≤ p * d
        all_goals
          have ev : withinB s n d p = decide ((d - n) * 1000000 ≤ p * d) := by
            simp only [withinB, nearB, hv, hi]
            have : (n - d) * 1000000 ≤ p * d := by omega
            simp [this]
          have EV := hid ev; clear ev
          go_enter Try.func17, Try.ntmps17
          go_wp2_with (first | (go_at_call 23; refine (inside_c _ _ _).mono ?_; rintro e w' ⟨rfl, rfl⟩) | (go_at_call 10; refine (valid_c _ _ _ _).mono ?_; rintro e w1 ⟨rfl, hb1⟩; obtain ⟨hc, hf⟩ := bcell hb1; have hb := join (w := w) (by go_grown) hb1; clear hb1))
          all_goals go_ret
          all_goals (refine ⟨?_, by first | (go_grown; done) | (refine dN ?_ _; go_grown; done)⟩)
          all_goals (rw [EV.out]; simp <;> omega)
      · by_cases hr : (n - d) * 1000000 ≤ p * d
        all_goals
          have ev : withinB s n d p = decide ((n - d) * 1000000 ≤ p * d) := by
            simp only [withinB, nearB, hv, hi]
            have : (d - n) * 1000000 ≤ p * d := by omega
            simp [this]
          have EV := hid ev; clear ev
          go_enter Try.func17, Try.ntmps17
          go_wp2_with (first | (go_at_call 23; refine (inside_c _ _ _).mono ?_; rintro e w' ⟨rfl, rfl⟩) | (go_at_call 10; refine (valid_c _ _ _ _).mono ?_; rintro e w1 ⟨rfl, hb1⟩; obtain ⟨hc, hf⟩ := bcell hb1; have hb := join (w := w) (by go_grown) hb1; clear hb1))
          all_goals go_ret
          all_goals (refine ⟨?_, by first | (go_grown; done) | (refine dN ?_ _; go_grown; done)⟩)
          all_goals (rw [EV.out]; simp <;> omega)
    · have hi : insideB p 100000 = false := by simpa using hi
      have EV := hid (show withinB s n d p = false by simp [withinB, hi])
      go_enter Try.func17, Try.ntmps17
      go_wp2_with (first | (go_at_call 23; refine (inside_c _ _ _).mono ?_; rintro e w' ⟨rfl, rfl⟩) | (go_at_call 10; refine (valid_c _ _ _ _).mono ?_; rintro e w1 ⟨rfl, hb1⟩; obtain ⟨hc, hf⟩ := bcell hb1; have hb := join (w := w) (by go_grown) hb1; clear hb1))
      go_ret
      exact ⟨by rw [EV.out] <;> rfl, by go_grown⟩
  · have hv : validB s n d = false := by simpa using hv
    have EV := hid (show withinB s n d p = false by simp [withinB, hv])
    go_enter Try.func17, Try.ntmps17
    go_wp2_with (first | (go_at_call 23; refine (inside_c _ _ _).mono ?_; rintro e w' ⟨rfl, rfl⟩) | (go_at_call 10; refine (valid_c _ _ _ _).mono ?_; rintro e w1 ⟨rfl, hb1⟩; obtain ⟨hc, hf⟩ := bcell hb1; have hb := join (w := w) (by go_grown) hb1; clear hb1))
    go_ret
    exact ⟨by rw [EV.out] <;> rfl, by go_grown⟩
theorem refWithin_c (n d p : Int) (w : World) (b1 : 1 ≤ n) (b2 : n ≤ 1000000) (b3 : 1 ≤ d) (b4 : d ≤ 1000000) (t1 : 0 ≤ p) (t2 : p ≤ 100000) :
    Calls Try.prog 19 #[.int .i64 n, .int .i64 d, .int .i64 p] w fun e w' => e = .returned (.bool (nearB n d p)) ∧ w = w' := by
  obtain ⟨m1, m2⟩ := mul_bd t1 t2 (b := d) (by omega) b4
  go_enter Try.func19, Try.ntmps19
  go_wp2
  all_goals go_ret
  all_goals (refine ⟨ret_bool ?_, rfl⟩; rw [Bool.eq_iff_iff]; simp [nearB]; omega)
theorem refShow_c (s n d t : Int) (w : World) (b0 : 0 ≤ s) (b00 : s ≤ 1073741824) (b1 : 1 ≤ n) (b3 : 1 ≤ d) (t1 : 0 ≤ t) (m2 : t * n ≤ 1073741824 * 1000000 + 1000000) :
    Calls Try.prog 15 #[.int .i64 s, .int .i64 n, .int .i64 d, .int .i64 t] w fun e w' => e = .returned (.int .i64 (s + t * n / d)) ∧ w = w' := by
  have m1 : 0 ≤ t * n := Int.mul_nonneg t1 (by omega)
  obtain ⟨q1, q2⟩ := div_bd m1 m2 b3
  have dz : (d == 0) = false := by simp; omega
  go_enter Try.func15, Try.ntmps15
  go_wp2
  go_ret
  exact ⟨rfl, rfl⟩
theorem refLow_c (e p : Int) (w : World) (t1 : 0 ≤ e) (t2 : e ≤ 1073741824) (p1 : 0 ≤ p) (p2 : p ≤ 100000) :
    Calls Try.prog 21 #[.int .i64 e, .int .i64 p] w fun r w' => r = .returned (.int .i64 (lowI e p)) ∧ w = w' := by
  have dz : (1000000 + p == 0) = false := by simp; omega
  by_cases h : 0 < e
  · obtain ⟨q1, q2⟩ := div_bd (a := (e - 1) * 1000000) (d := 1000000 + p) (A := 1073741824 * 1000000) (by omega) (by omega) (by omega)
    have EV := hid (show lowI e p = (e - 1) * 1000000 / (1000000 + p) + 1 by simp [lowI, h])
    go_enter Try.func21, Try.ntmps21
    go_wp2
    go_ret
    exact ⟨by rw [EV.out] <;> rfl, rfl⟩
  · have EV := hid (show lowI e p = 0 by simp [lowI, h])
    go_enter Try.func21, Try.ntmps21
    go_wp2
    go_ret
    exact ⟨by rw [EV.out] <;> rfl, rfl⟩
theorem refHigh_c (e p : Int) (w : World) (t1 : 0 ≤ e) (t2 : e ≤ 1073741824) (p1 : 0 ≤ p) (p2 : p ≤ 100000) :
    Calls Try.prog 22 #[.int .i64 e, .int .i64 p] w fun r w' => r = .returned (.int .i64 (highI e p)) ∧ w = w' := by
  have dz : (1000000 - p == 0) = false := by simp; omega
  obtain ⟨q1, q2⟩ := div_bd (a := (e + 1) * 1000000) (d := 1000000 - p) (A := 1073741825 * 1000000) (by omega) (by omega) (by omega)
  have hr := high_ref (e := e) p1 p2
  by_cases h : (e + 1) * 1000000 % (1000000 - p) = 0
  · rw [if_pos h] at hr
    have h' : ((e + 1) * 1000000 % (1000000 - p) == 0) = true := by simpa using h
    have EV := hid hr; clear hr h
    go_enter Try.func22, Try.ntmps22
    go_wp2
    go_ret
    exact ⟨by rw [EV.out] <;> rfl, rfl⟩
  · rw [if_neg h] at hr
    have h' : ((e + 1) * 1000000 % (1000000 - p) == 0) = false := by simpa using h
    have EV := hid hr; clear hr h
    go_enter Try.func22, Try.ntmps22
    go_wp2
    go_ret
    exact ⟨by rw [EV.out] <;> rfl, rfl⟩
def boundsB (e p : Int) : Bool := insideB e 1073741824 && insideB p 100000
def bLow (e p : Int) : Int := if boundsB e p then lowI e p else 0
def bHigh (e p : Int) : Int := if boundsB e p then highI e p else 0
def bErr (e p : Int) : Int := if boundsB e p then 0 else 2
theorem bounds_c (e p : Int) (w : World) : Calls Try.prog 20 #[.int .i64 e, .int .i64 p] w fun r w' => r = .returned (.tuple #[.int .i64 (bLow e p), .int .i64 (bHigh e p), .int .i64 (bErr e p)]) ∧ w = w' := by
  by_cases h1 : insideB e 1073741824 = true
  · by_cases h2 : insideB p 100000 = true
    · obtain ⟨t1, t2⟩ := inside_iff.1 h1
      obtain ⟨p1, p2⟩ := inside_iff.1 h2
      have d1 : (1000000 + p == 0) = false := by simp; omega
      have d2 : (1000000 - p == 0) = false := by simp; omega
      obtain ⟨k1, k2⟩ := div_bd (a := (e + 1) * 1000000 - 1) (d := 1000000 - p) (A := 1073741825 * 1000000) (by omega) (by omega) (by omega)
      have E1 := hid (show bHigh e p = ((e + 1) * 1000000 - 1) / (1000000 - p) by simp [bHigh, boundsB, h1, h2, highI])
      have E2 := hid (show bErr e p = 0 by simp [bErr, boundsB, h1, h2])
      by_cases h : 0 < e
      · obtain ⟨q1, q2⟩ := div_bd (a := (e - 1) * 1000000) (d := 1000000 + p) (A := 1073741824 * 1000000) (by omega) (by omega) (by omega)
        have EV := hid (show bLow e p = (e - 1) * 1000000 / (1000000 + p) + 1 by simp [bLow, boundsB, h1, h2, lowI, h])
        go_enter Try.func20, Try.ntmps20
        go_wp2_with (go_at_call 23; refine (inside_c _ _ _).mono ?_; rintro e w' ⟨rfl, rfl⟩)
        go_ret3
        exact ⟨by rw [EV.out, E1.out, E2.out] <;> rfl, rfl⟩
      · have EV := hid (show bLow e p = 0 by simp [bLow, lowI, h])
        go_enter Try.func20, Try.ntmps20
        go_wp2_with (go_at_call 23; refine (inside_c _ _ _).mono ?_; rintro e w' ⟨rfl, rfl⟩)
        go_ret3
        exact ⟨by rw [EV.out, E1.out, E2.out] <;> rfl, rfl⟩
    · have h2 : insideB p 100000 = false := by simpa using h2
      have E1 := hid (show bHigh e p = 0 by simp [bHigh, boundsB, h2])
      have E2 := hid (show bErr e p = 2 by simp [bErr, boundsB, h2])
      have EV := hid (show bLow e p = 0 by simp [bLow, boundsB, h2])
      go_enter Try.func20, Try.ntmps20
      go_wp2_with (go_at_call 23; refine (inside_c _ _ _).mono ?_; rintro e w' ⟨rfl, rfl⟩)
      go_ret3
      exact ⟨by rw [EV.out, E1.out, E2.out] <;> rfl, rfl⟩
  · have h1 : insideB e 1073741824 = false := by simpa using h1
    have E1 := hid (show bHigh e p = 0 by simp [bHigh, boundsB, h1])
    have E2 := hid (show bErr e p = 2 by simp [bErr, boundsB, h1])
    have EV := hid (show bLow e p = 0 by simp [bLow, boundsB, h1])
    go_enter Try.func20, Try.ntmps20
    go_wp2_with (go_at_call 23; refine (inside_c _ _ _).mono ?_; rintro e w' ⟨rfl, rfl⟩)
    go_ret3
    exact ⟨by rw [EV.out, E1.out, E2.out] <;> rfl, rfl⟩
theorem awake_c (w : World) : Calls Try.prog 9 #[] w fun e w' => e = .returned (.bool true) ∧ Below w.heap.size w w' := by
  have v1 : showV 10 3 2 2 = 13 := by decide
  have v2 : showE 10 3 2 2 = 0 := by decide
  have v3 : firstV 10 3 2 12 = 2 := by decide
  have v4 : firstE 10 3 2 12 = 0 := by decide
  have v5 : validB 10 3 2 = true := by decide
  go_enter Try.func9, Try.ntmps9
  go_wp2_with (first
    | (go_at_call 12; refine (show_c _ _ _ _ _).mono ?_; rintro e w1 ⟨rfl, hb1⟩; obtain ⟨hc, hf⟩ := bcell hb1; have hz := lt1 (w := w) (by simp) hb1; have hb := join (w := w) (by go_grown) hb1; clear hb1)
    | (go_at_call 13; refine (first_c _ _ _ _ _).mono ?_; rintro e w2 ⟨rfl, hb2⟩; obtain ⟨hc2, hf2⟩ := bcell hb2; have hz2 := lt1 (w := w) (by assumption) hb2; have hb' := join (w := w) (by go_grown) hb2; clear hb2)
    | (go_at_call 10; refine (valid_c _ _ _ _).mono ?_; rintro e w3 ⟨rfl, hb3⟩; have hb'' := join (w := w) (by go_grown) hb3; clear hb3))
  go_ret
  exact ⟨rfl, by go_grown⟩
theorem refFirst_c (s n d x : Int) (w : World) (b0 : 0 ≤ s) (b00 : s ≤ 1073741824) (b1 : 1 ≤ n) (b2 : n ≤ 1000000) (b3 : 1 ≤ d) (b4 : d ≤ 1000000) (t1 : 0 ≤ x) (t2 : x ≤ 1073741824) :
    Calls Try.prog 16 #[.int .i64 s, .int .i64 n, .int .i64 d, .int .i64 x] w fun e w' => e = .returned (.int .i64 (leastT s n d x)) ∧ w = w' := by
  have dz : (n == 0) = false := by simp; omega
  have l0 : 0 ≤ leastT s n d x := least_nonneg b1 b3
  have l1 : leastT s n d x * n ≤ 1073741824 * 1000000 + 1000000 := by
    by_cases h : s < x
    · have := least_mul (x := x) b1 b3 h
      have := (mul_bd (a := x - s) (b := d) (A := 1073741824) (B := 1000000) (by omega) (by omega) (by omega) b4).2
      omega
    · have : leastT s n d x = 0 := by simp [leastT]; omega
      rw [this]; omega
  have l2 : leastT s n d x ≤ 1073741824 * 1000000 + 1000000 := by
    have : leastT s n d x * 1 ≤ leastT s n d x * n := Int.mul_le_mul_of_nonneg_left b1 l0
    omega
  have lat := least_at (s := s) (x := x) b1 b3
  have lbe := fun t => least_before (s := s) (x := x) (t := t) b1 b3
  have lst : s < x → (x - s) * d / n - 2 ≤ leastT s n d x := start_le b1 b3
  generalize leastT s n d x = T at *
  have LAT := hid lat; clear lat
  have LBE := hid lbe; clear lbe
  by_cases hs : s < x
  · obtain ⟨m1, m2⟩ := mul_bd (a := x - s) (b := d) (A := 1073741824) (B := 1000000) (by omega) (by omega) (by omega) b4
    obtain ⟨q1, q2⟩ := div_bd m1 m2 b1
    have st := lst hs
    clear lst
    by_cases hz : (x - s) * d / n - 2 < 0
    all_goals
      go_enter Try.func16, Try.ntmps16
      go_wp2
      all_goals
        go_loop [9] (fun v => ∃ t : Int, 0 ≤ t ∧ t ≤ T ∧ v = .int .i64 t) (fun v => (T - intOf v).toNat)
        case atStart => exact ⟨_, by omega, by omega, rfl⟩
        case round =>
          obtain ⟨t, h0, h1, rfl⟩ := hrel
          have hm : t * n ≤ 1073741824 * 1000000 + 1000000 := Int.le_trans (Int.mul_le_mul_of_nonneg_right h1 (by omega)) l1
          by_cases ht : t = T
          · subst ht
            have hn := LAT.out
            go_wp2_with (go_at_call 15; refine (refShow_c s n d t _ b0 b00 b1 b3 h0 hm).mono ?_; rintro e w' ⟨rfl, rfl⟩)
            go_ret
            exact ⟨rfl, rfl⟩
          · have hn := LBE.out t (by omega) h0
            go_wp2_with (go_at_call 15; refine (refShow_c s n d t _ b0 b00 b1 b3 h0 hm).mono ?_; rintro e w' ⟨rfl, rfl⟩)
            go_round
            case rel => exact ⟨t + 1, by omega, by omega, rfl⟩
            case measure => simp [intOf]; omega
  · obtain ⟨m1, m2⟩ := mul_bd (a := s - x) (b := d) (A := 1073741824) (B := 1000000) (by omega) (by omega) (by omega) b4
    have me : (x - s) * d = -((s - x) * d) := by rw [← Int.neg_mul]; congr 1; omega
    have qe : ((x - s) * d).tdiv n = -((s - x) * d / n) := by rw [me, Int.neg_tdiv, Int.tdiv_eq_ediv_of_nonneg m1]
    obtain ⟨q1, q2⟩ := div_bd m1 m2 b1
    have q3 : ((x - s) * d).tdiv n ≤ 0 := by omega
    have q4 : -(1073741824 * 1000000) ≤ ((x - s) * d).tdiv n := by omega
    have m3 : (x - s) * d ≤ 0 := by omega
    have m4 : -(1073741824 * 1000000) ≤ (x - s) * d := by omega
    clear lst me qe q1 q2 m1 m2
    go_enter Try.func16, Try.ntmps16
    go_wp2
    all_goals
      go_loop [9] (fun v => ∃ t : Int, 0 ≤ t ∧ t ≤ T ∧ v = .int .i64 t) (fun v => (T - intOf v).toNat)
      case atStart => exact ⟨_, by omega, by omega, rfl⟩
      case round =>
        obtain ⟨t, h0, h1, rfl⟩ := hrel
        have hm : t * n ≤ 1073741824 * 1000000 + 1000000 := Int.le_trans (Int.mul_le_mul_of_nonneg_right h1 (by omega)) l1
        by_cases ht : t = T
        · subst ht
          have hn := LAT.out
          go_wp2_with (go_at_call 15; refine (refShow_c s n d t _ b0 b00 b1 b3 h0 hm).mono ?_; rintro e w' ⟨rfl, rfl⟩)
          go_ret
          exact ⟨rfl, rfl⟩
        · have hn := LBE.out t (by omega) h0
          go_wp2_with (go_at_call 15; refine (refShow_c s n d t _ b0 b00 b1 b3 h0 hm).mono ?_; rintro e w' ⟨rfl, rfl⟩)
          go_round
          case rel => exact ⟨t + 1, by omega, by omega, rfl⟩
          case measure => simp [intOf]; omega
end Go.Proofs.Ytfildngcghehlaa
