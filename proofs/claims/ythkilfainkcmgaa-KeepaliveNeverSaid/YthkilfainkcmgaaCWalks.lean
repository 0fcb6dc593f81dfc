/- Keepalive: what the clock's functions compute (the walks of the clock's own statements, at this program's numbers). -/
import Derived.Test.YthkilfainkcmgaaProg
import Derived.Test.YthkilfainkcmgaaCPlain
import Derived.Test.YthkilfainkcmgaaKit
namespace Go.Proofs.Ythkilfainkcmgaa
set_option linter.unusedVariables false
set_option linter.unusedSimpArgs false
open Go.RowKit
def insideB (n m : Int) : Bool := decide (0 ≤ n) && decide (n ≤ m)
theorem inside_iff {n m : Int} : insideB n m = true ↔ 0 ≤ n ∧ n ≤ m := by simp [insideB]
theorem inside_c (n m : Int) (w : World) : Calls Try.prog 29 #[.int .i64 n, .int .i64 m] w fun e w' => e = .returned (.bool (insideB n m)) ∧ w = w' := by
  go_enter Try.func29, Try.ntmps29
  go_wp2
  all_goals go_ret
  all_goals exact ⟨by simp [insideB]; omega, rfl⟩
def validB (s n d : Int) : Bool := decide (1 ≤ n) && decide (n ≤ 1000000) && decide (1 ≤ d) && decide (d ≤ 1000000) && decide (d ≤ 2 * n) && decide (n ≤ 2 * d) && insideB s 1073741824
theorem valid_iff {s n d : Int} : validB s n d = true ↔ (1 ≤ n ∧ n ≤ 1000000 ∧ 1 ≤ d ∧ d ≤ 1000000 ∧ d ≤ 2 * n ∧ n ≤ 2 * d ∧ 0 ≤ s ∧ s ≤ 1073741824) := by
  simp [validB, insideB]; omega
theorem valid_c (s n d : Int) (w : World) : Calls Try.prog 28 #[.agg #[.int .i64 s, .int .i64 n, .int .i64 d]] w fun e w' => e = .returned (.bool (validB s n d)) ∧ Below w.heap.size w w' := by
  go_enter Try.func28, Try.ntmps28
  go_wp2_with (go_at_call 29; refine (inside_c _ _ _).mono ?_; rintro e w' ⟨rfl, rfl⟩)
  all_goals go_ret
  all_goals (refine ⟨?_, by go_grown⟩; simp [validB, *] <;> omega)
def showV (s n d t : Int) : Int := if validB s n d && insideB t 1073741824 then s + t * n / d else 0
def showE (s n d t : Int) : Int := if validB s n d then (if insideB t 1073741824 then 0 else 2) else 1
set_option maxHeartbeats 400000 in
theorem show_c (s n d t : Int) (w : World) : Calls Try.prog 23 #[.agg #[.int .i64 s, .int .i64 n, .int .i64 d], .int .i64 t] w fun e w' => e = .returned (.tuple #[.int .i64 (showV s n d t), .int .i64 (showE s n d t)]) ∧ Below w.heap.size w w' := by
  by_cases hv : validB s n d = true
  · by_cases hi : insideB t 1073741824 = true
    · obtain ⟨b1, b2, b3, b4, b5, b6, b7, b8⟩ := valid_iff.1 hv
      obtain ⟨t1, t2⟩ := inside_iff.1 hi
      obtain ⟨m1, m2⟩ := mul_bd t1 t2 (b := n) (by omega) b2
      obtain ⟨q1, q2⟩ := div_bd m1 m2 b3
      have dz : (d == 0) = false := by simp; omega
      have ev : showV s n d t = s + t * n / d := by simp [showV, hv, hi]
      have ee : showE s n d t = 0 := by simp [showE, hv, hi]
      have EV := hid ev; clear ev
      have EE := hid ee; clear ee
      go_enter Try.func23, Try.ntmps23
      go_wp2_with (first | (go_at_call 29; refine (inside_c _ _ _).mono ?_; rintro e w' ⟨rfl, rfl⟩) | (go_at_call 28; refine (valid_c _ _ _ _).mono ?_; rintro e w1 ⟨rfl, hb1⟩; obtain ⟨hc, hf⟩ := bcell hb1; have hb := join (w := w) (by go_grown) hb1; clear hb1))
      go_quiet (fail)
      go_wp2
      go_ret2
      exact ⟨by rw [EV.out, EE.out] <;> rfl, by first | (go_grown; done) | (refine dN ?_ _; go_grown; done)⟩
    · have hi : insideB t 1073741824 = false := by simpa using hi
      have ev : showV s n d t = 0 := by simp [showV, hi]
      have ee : showE s n d t = 2 := by simp [showE, hv, hi]
      have EV := hid ev; clear ev
      have EE := hid ee; clear ee
      go_enter Try.func23, Try.ntmps23
      go_wp2_with (first | (go_at_call 29; refine (inside_c _ _ _).mono ?_; rintro e w' ⟨rfl, rfl⟩) | (go_at_call 28; refine (valid_c _ _ _ _).mono ?_; rintro e w1 ⟨rfl, hb1⟩; obtain ⟨hc, hf⟩ := bcell hb1; have hb := join (w := w) (by go_grown) hb1; clear hb1))
      go_ret2
      exact ⟨by rw [EV.out, EE.out] <;> rfl, by first | (go_grown; done) | (refine dN ?_ _; go_grown; done)⟩
  · have hv : validB s n d = false := by simpa using hv
    have ev : showV s n d t = 0 := by simp [showV, hv]
    have ee : showE s n d t = 1 := by simp [showE, hv]
    have EV := hid ev; clear ev
    have EE := hid ee; clear ee
    go_enter Try.func23, Try.ntmps23
    go_wp2_with (first | (go_at_call 29; refine (inside_c _ _ _).mono ?_; rintro e w' ⟨rfl, rfl⟩) | (go_at_call 28; refine (valid_c _ _ _ _).mono ?_; rintro e w1 ⟨rfl, hb1⟩; obtain ⟨hc, hf⟩ := bcell hb1; have hb := join (w := w) (by go_grown) hb1; clear hb1))
    go_ret2
    exact ⟨by rw [EV.out, EE.out] <;> rfl, by first | (go_grown; done) | (refine dN ?_ _; go_grown; done)⟩
def nearB (n d p : Int) : Bool := decide ((n - d) * 1000000 ≤ p * d) && decide ((d - n) * 1000000 ≤ p * d)
def withinB (s n d p : Int) : Bool := validB s n d && insideB p 100000 && nearB n d p
theorem within_iff {s n d p : Int} : withinB s n d p = true ↔ validB s n d = true ∧ (0 ≤ p ∧ p ≤ 100000) ∧ (n - d) * 1000000 ≤ p * d ∧ (d - n) * 1000000 ≤ p * d := by
  simp [withinB, nearB, insideB, and_assoc]
set_option maxHeartbeats 800000 in
theorem within_c (s n d p : Int) (w : World) : Calls Try.prog 22 #[.agg #[.int .i64 s, .int .i64 n, .int .i64 d], .int .i64 p] w fun e w' => e = .returned (.bool (withinB s n d p)) ∧ Below w.heap.size w w' := by
  by_cases hv : validB s n d = true
  · by_cases hi : insideB p 100000 = true
    · obtain ⟨b1, b2, b3, b4, b5, b6, b7, b8⟩ := valid_iff.1 hv
      obtain ⟨t1, t2⟩ := inside_iff.1 hi
      obtain ⟨m1, m2⟩ := mul_bd t1 t2 (b := d) (by omega) b4
      by_cases hm : n ≤ d
      · by_cases hr : (d - n) * 1000000 ≤ p * d
        all_goals
          have ev : withinB s n d p = decide ((d - n) * 1000000 ≤ p * d) := by
            simp only [withinB, nearB, hv, hi]
            have : (n - d) * 1000000 ≤ p * d := by omega
            simp [this]
          have EV := hid ev; clear ev
          go_enter Try.func22, Try.ntmps22
          go_wp2_with (first | (go_at_call 29; refine (inside_c _ _ _).mono ?_; rintro e w' ⟨rfl, rfl⟩) | (go_at_call 28; refine (valid_c _ _ _ _).mono ?_; rintro e w1 ⟨rfl, hb1⟩; obtain ⟨hc, hf⟩ := bcell hb1; have hb := join (w := w) (by go_grown) hb1; clear hb1))
          all_goals go_ret
          all_goals (refine ⟨?_, by first | (go_grown; done) | (refine dN ?_ _; go_grown; done)⟩)
          all_goals (rw [EV.out]; simp <;> omega)
      · by_cases hr : (n - d) * 1000000 ≤ p * d
        all_goals
          have ev : withinB s n d p = decide ((n - d) * 1000000 ≤ p * d) := by
            simp only [withinB, nearB, hv, hi]
            have : (d - n) * 1000000 ≤ p * d := by omega
            simp [this]
          have EV := hid ev; clear ev
          go_enter Try.func22, Try.ntmps22
          go_wp2_with (first | (go_at_call 29; refine (inside_c _ _ _).mono ?_; rintro e w' ⟨rfl, rfl⟩) | (go_at_call 28; refine (valid_c _ _ _ _).mono ?_; rintro e w1 ⟨rfl, hb1⟩; obtain ⟨hc, hf⟩ := bcell hb1; have hb := join (w := w) (by go_grown) hb1; clear hb1))
          all_goals go_ret
          all_goals (refine ⟨?_, by first | (go_grown; done) | (refine dN ?_ _; go_grown; done)⟩)
          all_goals (rw [EV.out]; simp <;> omega)
    · have hi : insideB p 100000 = false := by simpa using hi
      have EV := hid (show withinB s n d p = false by simp [withinB, hi])
      go_enter Try.func22, Try.ntmps22
      go_wp2_with (first | (go_at_call 29; refine (inside_c _ _ _).mono ?_; rintro e w' ⟨rfl, rfl⟩) | (go_at_call 28; refine (valid_c _ _ _ _).mono ?_; rintro e w1 ⟨rfl, hb1⟩; obtain ⟨hc, hf⟩ := bcell hb1; have hb := join (w := w) (by go_grown) hb1; clear hb1))
      go_ret
      exact ⟨by rw [EV.out] <;> rfl, by go_grown⟩
  · have hv : validB s n d = false := by simpa using hv
    have EV := hid (show withinB s n d p = false by simp [withinB, hv])
    go_enter Try.func22, Try.ntmps22
    go_wp2_with (first | (go_at_call 29; refine (inside_c _ _ _).mono ?_; rintro e w' ⟨rfl, rfl⟩) | (go_at_call 28; refine (valid_c _ _ _ _).mono ?_; rintro e w1 ⟨rfl, hb1⟩; obtain ⟨hc, hf⟩ := bcell hb1; have hb := join (w := w) (by go_grown) hb1; clear hb1))
    go_ret
    exact ⟨by rw [EV.out] <;> rfl, by go_grown⟩
theorem refLow_c (e p : Int) (w : World) (t1 : 0 ≤ e) (t2 : e ≤ 1073741824) (p1 : 0 ≤ p) (p2 : p ≤ 100000) :
    Calls Try.prog 32 #[.int .i64 e, .int .i64 p] w fun r w' => r = .returned (.int .i64 (lowI e p)) ∧ w = w' := by
  have dz : (1000000 + p == 0) = false := by simp; omega
  by_cases h : 0 < e
  · obtain ⟨q1, q2⟩ := div_bd (a := (e - 1) * 1000000) (d := 1000000 + p) (A := 1073741824 * 1000000) (by omega) (by omega) (by omega)
    have EV := hid (show lowI e p = (e - 1) * 1000000 / (1000000 + p) + 1 by simp [lowI, h])
    go_enter Try.func32, Try.ntmps32
    go_wp2
    go_ret
    exact ⟨by rw [EV.out] <;> rfl, rfl⟩
  · have EV := hid (show lowI e p = 0 by simp [lowI, h])
    go_enter Try.func32, Try.ntmps32
    go_wp2
    go_ret
    exact ⟨by rw [EV.out] <;> rfl, rfl⟩
theorem refHigh_c (e p : Int) (w : World) (t1 : 0 ≤ e) (t2 : e ≤ 1073741824) (p1 : 0 ≤ p) (p2 : p ≤ 100000) :
    Calls Try.prog 21 #[.int .i64 e, .int .i64 p] w fun r w' => r = .returned (.int .i64 (highI e p)) ∧ w = w' := by
  have dz : (1000000 - p == 0) = false := by simp; omega
  obtain ⟨q1, q2⟩ := div_bd (a := (e + 1) * 1000000) (d := 1000000 - p) (A := 1073741825 * 1000000) (by omega) (by omega) (by omega)
  have hr := high_ref (e := e) p1 p2
  by_cases h : (e + 1) * 1000000 % (1000000 - p) = 0
  · rw [if_pos h] at hr
    have h' : ((e + 1) * 1000000 % (1000000 - p) == 0) = true := by simpa using h
    have EV := hid hr; clear hr h
    go_enter Try.func21, Try.ntmps21
    go_wp2
    go_ret
    exact ⟨by rw [EV.out] <;> rfl, rfl⟩
  · rw [if_neg h] at hr
    have h' : ((e + 1) * 1000000 % (1000000 - p) == 0) = false := by simpa using h
    have EV := hid hr; clear hr h
    go_enter Try.func21, Try.ntmps21
    go_wp2
    go_ret
    exact ⟨by rw [EV.out] <;> rfl, rfl⟩
def boundsB (e p : Int) : Bool := insideB e 1073741824 && insideB p 100000
def bLow (e p : Int) : Int := if boundsB e p then lowI e p else 0
def bHigh (e p : Int) : Int := if boundsB e p then highI e p else 0
def bErr (e p : Int) : Int := if boundsB e p then 0 else 2
theorem bounds_c (e p : Int) (w : World) : Calls Try.prog 25 #[.int .i64 e, .int .i64 p] w fun r w' => r = .returned (.tuple #[.int .i64 (bLow e p), .int .i64 (bHigh e p), .int .i64 (bErr e p)]) ∧ w = w' := by
  by_cases h1 : insideB e 1073741824 = true
  · by_cases h2 : insideB p 100000 = true
    · obtain ⟨t1, t2⟩ := inside_iff.1 h1
      obtain ⟨p1, p2⟩ := inside_iff.1 h2
      have d1 : (1000000 + p == 0) = false := by simp; omega
      have d2 : (1000000 - p == 0) = false := by simp; omega
      obtain ⟨k1, k2⟩ := div_bd (a := (e + 1) * 1000000 - 1) (d := 1000000 - p) (A := 1073741825 * 1000000) (by omega) (by omega) (by omega)
      have E1 := hid (show bHigh e p = ((e + 1) * 1000000 - 1) / (1000000 - p) by simp [bHigh, boundsB, h1, h2, highI])
      have E2 := hid (show bErr e p = 0 by simp [bErr, boundsB, h1, h2])
      by_cases h : 0 < e
      · obtain ⟨q1, q2⟩ := div_bd (a := (e - 1) * 1000000) (d := 1000000 + p) (A := 1073741824 * 1000000) (by omega) (by omega) (by omega)
        have EV := hid (show bLow e p = (e - 1) * 1000000 / (1000000 + p) + 1 by simp [bLow, boundsB, h1, h2, lowI, h])
        go_enter Try.func25, Try.ntmps25
        go_wp2_with (go_at_call 29; refine (inside_c _ _ _).mono ?_; rintro e w' ⟨rfl, rfl⟩)
        go_ret3
        exact ⟨by rw [EV.out, E1.out, E2.out] <;> rfl, rfl⟩
      · have EV := hid (show bLow e p = 0 by simp [bLow, lowI, h])
        go_enter Try.func25, Try.ntmps25
        go_wp2_with (go_at_call 29; refine (inside_c _ _ _).mono ?_; rintro e w' ⟨rfl, rfl⟩)
        go_ret3
        exact ⟨by rw [EV.out, E1.out, E2.out] <;> rfl, rfl⟩
    · have h2 : insideB p 100000 = false := by simpa using h2
      have E1 := hid (show bHigh e p = 0 by simp [bHigh, boundsB, h2])
      have E2 := hid (show bErr e p = 2 by simp [bErr, boundsB, h2])
      have EV := hid (show bLow e p = 0 by simp [bLow, boundsB, h2])
      go_enter Try.func25, Try.ntmps25
      go_wp2_with (go_at_call 29; refine (inside_c _ _ _).mono ?_; rintro e w' ⟨rfl, rfl⟩)
      go_ret3
      exact ⟨by rw [EV.out, E1.out, E2.out] <;> rfl, rfl⟩
  · have h1 : insideB e 1073741824 = false := by simpa using h1
    have E1 := hid (show bHigh e p = 0 by simp [bHigh, boundsB, h1])
    have E2 := hid (show bErr e p = 2 by simp [bErr, boundsB, h1])
    have EV := hid (show bLow e p = 0 by simp [bLow, boundsB, h1])
    go_enter Try.func25, Try.ntmps25
    go_wp2_with (go_at_call 29; refine (inside_c _ _ _).mono ?_; rintro e w' ⟨rfl, rfl⟩)
    go_ret3
    exact ⟨by rw [EV.out, E1.out, E2.out] <;> rfl, rfl⟩
end Go.Proofs.Ythkilfainkcmgaa
