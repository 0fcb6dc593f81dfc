/- Clock: what each function of layer 13 (and of its reference, and the statements' small helpers) computes, for all integers; nothing that was there is written. -/
import Derived.Test.YtfildngcghehlaaProg
import Derived.Test.YtfildngcghehlaaPlain
import Derived.WalkKit
import Derived.Handy
import Derived.LoopTactic
import Derived.Deep.QuietTactic
import Derived.BigQuiet
import Derived.IntWalk
namespace Go.Proofs.Ytfildngcghehlaa
set_option linter.unusedVariables false
open Go.RowKit
theorem join {w W w1 : World} (h : Below w.heap.size w W) (hb : Below W.heap.size W w1) : Below w.heap.size w w1 := h.trans (hb.mono h.size)
theorem dN {B : Nat} {w w1 : World} (h : Below B w w1) (n : Nat) : Below B w (w1.drewN n) := ⟨h.os, h.tape, h.output, h.size, h.block⟩
theorem ret_bool {a b : Bool} (h : a = b) : Ending.returned (.bool a) = .returned (.bool b) := by rw [h]
theorem ret_int {k : IntKind} {a b : Int} (h : a = b) : Ending.returned (.int k a) = .returned (.int k b) := by rw [h]
theorem hid {p : Prop} (h : p) : Hid p := h
theorem bcell {W w1 : World} (hb : Below W.heap.size W w1) : (∀ b o, b < W.heap.size → w1.cell? ⟨b, o, none⟩ = W.cell? ⟨b, o, none⟩) ∧ (∀ b o, b < W.heap.size → w1.frozen? ⟨b, o, none⟩ = W.frozen? ⟨b, o, none⟩) :=
  ⟨fun b o h => hb.cell (p := ⟨b, o, none⟩) h, fun b o h => hb.frozen (p := ⟨b, o, none⟩) h⟩
def insideB (n m : Int) : Bool := decide (0 ≤ n) && decide (n ≤ m)
theorem inside_iff {n m : Int} : insideB n m = true ↔ 0 ≤ n ∧ n ≤ m := by simp [insideB]
theorem inside_c (n m : Int) (w : World) : Calls Try.prog 23 #[.int .i64 n, .int .i64 m] w fun e w' => e = .returned (.bool (insideB n m)) ∧ w = w' := by
  go_enter Try.func23, Try.ntmps23
  go_wp2
  all_goals go_ret
  all_goals exact ⟨by simp [insideB]; omega, rfl⟩
def validB (s n d : Int) : Bool := decide (1 ≤ n) && decide (n ≤ 1000000) && decide (1 ≤ d) && decide (d ≤ 1000000) && decide (d ≤ 2 * n) && decide (n ≤ 2 * d) && insideB s 1073741824
theorem valid_iff {s n d : Int} : validB s n d = true ↔ (1 ≤ n ∧ n ≤ 1000000 ∧ 1 ≤ d ∧ d ≤ 1000000 ∧ d ≤ 2 * n ∧ n ≤ 2 * d ∧ 0 ≤ s ∧ s ≤ 1073741824) := by
  simp [validB, insideB]; omega
theorem valid_c (s n d : Int) (w : World) : Calls Try.prog 10 #[.agg #[.int .i64 s, .int .i64 n, .int .i64 d]] w fun e w' => e = .returned (.bool (validB s n d)) ∧ Below w.heap.size w w' := by
  go_enter Try.func10, Try.ntmps10
  go_wp2_with (go_at_call 23; refine (inside_c _ _ _).mono ?_; rintro e w' ⟨rfl, rfl⟩)
  all_goals go_ret
  all_goals (refine ⟨?_, by go_grown⟩; simp [validB, *] <;> omega)
theorem refValid_c (s n d : Int) (w : World) : Calls Try.prog 24 #[.int .i64 s, .int .i64 n, .int .i64 d] w fun e w' => e = .returned (.bool (validB s n d)) ∧ w = w' := by
  go_enter Try.func24, Try.ntmps24
  go_wp2
  all_goals go_ret
  all_goals (refine ⟨?_, rfl⟩; simp [validB, insideB, *] <;> omega)
theorem lawValid_c (s n d : Int) (w : World) : Calls Try.prog 11 #[.agg #[.int .i64 s, .int .i64 n, .int .i64 d]] w fun e w' => e = .returned (.bool (validB s n d)) ∧ Below w.heap.size w w' := by
  go_enter Try.func11, Try.ntmps11
  go_wp2_with (go_at_call 24; refine (refValid_c _ _ _ _).mono ?_; rintro e w1 ⟨rfl, rfl⟩)
  go_ret
  exact ⟨rfl, by go_grown⟩
theorem ticks_c (n : Int) (w : World) : Calls Try.prog 14 #[.int .i64 n] w fun e w' => e = .returned (.bool (insideB n 1073741824)) ∧ w = w' := by
  go_enter Try.func14, Try.ntmps14
  go_wp2
  all_goals go_ret
  all_goals exact ⟨by simp [insideB]; omega, rfl⟩
theorem parts_c (n : Int) (w : World) : Calls Try.prog 18 #[.int .i64 n] w fun e w' => e = .returned (.bool (insideB n 100000)) ∧ w = w' := by
  go_enter Try.func18, Try.ntmps18
  go_wp2
  all_goals go_ret
  all_goals exact ⟨by simp [insideB]; omega, rfl⟩
def showE (s n d t : Int) : Int := if validB s n d then (if insideB t 1073741824 then 0 else 2) else 1
def showV (s n d t : Int) : Int := if validB s n d && insideB t 1073741824 then s + t * n / d else 0
set_option maxHeartbeats 400000 in
theorem show_c (s n d t : Int) (w : World) : Calls Try.prog 12 #[.agg #[.int .i64 s, .int .i64 n, .int .i64 d], .int .i64 t] w fun e w' => e = .returned (.tuple #[.int .i64 (showV s n d t), .int .i64 (showE s n d t)]) ∧ Below w.heap.size w w' := by
  by_cases hv : validB s n d = true
  · by_cases hi : insideB t 1073741824 = true
    · obtain ⟨b1, b2, b3, b4, b5, b6, b7, b8⟩ := valid_iff.1 hv
      obtain ⟨t1, t2⟩ := inside_iff.1 hi
      obtain ⟨m1, m2⟩ := mul_bd t1 t2 (b := n) (by omega) b2
      obtain ⟨q1, q2⟩ := div_bd m1 m2 b3
      have dz : (d == 0) = false := by simp; omega
      have ev : showV s n d t = s + t * n / d := by simp [showV, hv, hi]
      have ee : showE s n d t = 0 := by simp [showE, hv, hi]
      have EV := hid ev; clear ev
      have EE := hid ee; clear ee
      go_enter Try.func12, Try.ntmps12
      go_wp2_with (first | (go_at_call 23; refine (inside_c _ _ _).mono ?_; rintro e w' ⟨rfl, rfl⟩) | (go_at_call 10; refine (valid_c _ _ _ _).mono ?_; rintro e w1 ⟨rfl, hb1⟩; obtain ⟨hc, hf⟩ := bcell hb1; have hb := join (w := w) (by go_grown) hb1; clear hb1))
      go_quiet (fail)
      go_wp2
      go_ret2
      exact ⟨by rw [EV.out, EE.out] <;> rfl, by first | (go_grown; done) | (refine dN ?_ _; go_grown; done)⟩
    · have hi : insideB t 1073741824 = false := by simpa using hi
      have ev : showV s n d t = 0 := by simp [showV, hi]
      have ee : showE s n d t = 2 := by simp [showE, hv, hi]
      have EV := hid ev; clear ev
      have EE := hid ee; clear ee
      go_enter Try.func12, Try.ntmps12
      go_wp2_with (first | (go_at_call 23; refine (inside_c _ _ _).mono ?_; rintro e w' ⟨rfl, rfl⟩) | (go_at_call 10; refine (valid_c _ _ _ _).mono ?_; rintro e w1 ⟨rfl, hb1⟩; obtain ⟨hc, hf⟩ := bcell hb1; have hb := join (w := w) (by go_grown) hb1; clear hb1))
      go_ret2
      exact ⟨by rw [EV.out, EE.out] <;> rfl, by first | (go_grown; done) | (refine dN ?_ _; go_grown; done)⟩
  · have hv : validB s n d = false := by simpa using hv
    have ev : showV s n d t = 0 := by simp [showV, hv]
    have ee : showE s n d t = 1 := by simp [showE, hv]
    have EV := hid ev; clear ev
    have EE := hid ee; clear ee
    go_enter Try.func12, Try.ntmps12
    go_wp2_with (first | (go_at_call 23; refine (inside_c _ _ _).mono ?_; rintro e w' ⟨rfl, rfl⟩) | (go_at_call 10; refine (valid_c _ _ _ _).mono ?_; rintro e w1 ⟨rfl, hb1⟩; obtain ⟨hc, hf⟩ := bcell hb1; have hb := join (w := w) (by go_grown) hb1; clear hb1))
    go_ret2
    exact ⟨by rw [EV.out, EE.out] <;> rfl, by first | (go_grown; done) | (refine dN ?_ _; go_grown; done)⟩
def firstB (s n d x : Int) : Bool := decide (leastT s n d x ≤ 1073741824)
def firstE (s n d x : Int) : Int := if validB s n d then (if insideB x 1073741824 && firstB s n d x then 0 else 2) else 1
def firstV (s n d x : Int) : Int := if validB s n d && insideB x 1073741824 && firstB s n d x then leastT s n d x else 0
set_option maxHeartbeats 800000 in
theorem first_c (s n d x : Int) (w : World) : Calls Try.prog 13 #[.agg #[.int .i64 s, .int .i64 n, .int .i64 d], .int .i64 x] w fun e w' => e = .returned (.tuple #[.int .i64 (firstV s n d x), .int .i64 (firstE s n d x)]) ∧ Below w.heap.size w w' := by
  by_cases hv : validB s n d = true
  · by_cases hi : insideB x 1073741824 = true
    · obtain ⟨b1, b2, b3, b4, b5, b6, b7, b8⟩ := valid_iff.1 hv
      obtain ⟨t1, t2⟩ := inside_iff.1 hi
      by_cases hx : x ≤ s
      · have hl : leastT s n d x = 0 := by simp [leastT, hx]
        have ev : firstV s n d x = 0 := by simp [firstV, firstB, hl]
        have ee : firstE s n d x = 0 := by simp [firstE, firstB, hv, hi, hl]
        have EV := hid ev; clear ev
        have EE := hid ee; clear ee
        clear hl
        go_enter Try.func13, Try.ntmps13
        go_wp2_with (first | (go_at_call 23; refine (inside_c _ _ _).mono ?_; rintro e w' ⟨rfl, rfl⟩) | (go_at_call 10; refine (valid_c _ _ _ _).mono ?_; rintro e w1 ⟨rfl, hb1⟩; obtain ⟨hc, hf⟩ := bcell hb1; have hb := join (w := w) (by go_grown) hb1; clear hb1))
        go_ret2
        exact ⟨by rw [EV.out, EE.out] <;> rfl, by first | (go_grown; done) | (refine dN ?_ _; go_grown; done)⟩
      · obtain ⟨m1, m2⟩ := mul_bd (a := x - s) (b := d) (A := 1073741824) (B := 1000000) (by omega) (by omega) (by omega) b4
        obtain ⟨q1, q2⟩ := div_bd (a := (x - s) * d + n - 1) (d := n) (A := 1073741824 * 1000000 + 1000000) (by omega) (by omega) b1
        have dz : (n == 0) = false := by simp; omega
        have hl : leastT s n d x = ((x - s) * d + n - 1) / n := by simp [leastT, hx]
        by_cases ht : ((x - s) * d + n - 1) / n ≤ 1073741824
        · have ev : firstV s n d x = ((x - s) * d + n - 1) / n := by simp [firstV, firstB, hv, hi, hl, ht]
          have ee : firstE s n d x = 0 := by simp [firstE, firstB, hv, hi, hl, ht]
          have EV := hid ev; clear ev
          have EE := hid ee; clear ee
          clear hl
          go_enter Try.func13, Try.ntmps13
          go_wp2_with (first | (go_at_call 23; refine (inside_c _ _ _).mono ?_; rintro e w' ⟨rfl, rfl⟩) | (go_at_call 10; refine (valid_c _ _ _ _).mono ?_; rintro e w1 ⟨rfl, hb1⟩; obtain ⟨hc, hf⟩ := bcell hb1; have hb := join (w := w) (by go_grown) hb1; clear hb1))
          all_goals (try go_quiet (fail))
          all_goals go_wp2
          go_ret2
          exact ⟨by rw [EV.out, EE.out] <;> rfl, by first | (go_grown; done) | (refine dN ?_ _; go_grown; done)⟩
        · have ev : firstV s n d x = 0 := by simp [firstV, firstB, hv, hi, hl, ht]
          have ee : firstE s n d x = 2 := by simp [firstE, firstB, hv, hi, hl, ht]
          have EV := hid ev; clear ev
          have EE := hid ee; clear ee
          clear hl
          go_enter Try.func13, Try.ntmps13
          go_wp2_with (first | (go_at_call 23; refine (inside_c _ _ _).mono ?_; rintro e w' ⟨rfl, rfl⟩) | (go_at_call 10; refine (valid_c _ _ _ _).mono ?_; rintro e w1 ⟨rfl, hb1⟩; obtain ⟨hc, hf⟩ := bcell hb1; have hb := join (w := w) (by go_grown) hb1; clear hb1))
          all_goals (try go_quiet (fail))
          all_goals go_wp2
          go_ret2
          exact ⟨by rw [EV.out, EE.out] <;> rfl, by first | (go_grown; done) | (refine dN ?_ _; go_grown; done)⟩
    · have hi : insideB x 1073741824 = false := by simpa using hi
      have ev : firstV s n d x = 0 := by simp [firstV, hi]
      have ee : firstE s n d x = 2 := by simp [firstE, hv, hi]
      have EV := hid ev; clear ev
      have EE := hid ee; clear ee
      go_enter Try.func13, Try.ntmps13
      go_wp2_with (first | (go_at_call 23; refine (inside_c _ _ _).mono ?_; rintro e w' ⟨rfl, rfl⟩) | (go_at_call 10; refine (valid_c _ _ _ _).mono ?_; rintro e w1 ⟨rfl, hb1⟩; obtain ⟨hc, hf⟩ := bcell hb1; have hb := join (w := w) (by go_grown) hb1; clear hb1))
      go_ret2
      exact ⟨by rw [EV.out, EE.out] <;> rfl, by first | (go_grown; done) | (refine dN ?_ _; go_grown; done)⟩
  · have hv : validB s n d = false := by simpa using hv
    have ev : firstV s n d x = 0 := by simp [firstV, hv]
    have ee : firstE s n d x = 1 := by simp [firstE, hv]
    have EV := hid ev; clear ev
    have EE := hid ee; clear ee
    go_enter Try.func13, Try.ntmps13
    go_wp2_with (first | (go_at_call 23; refine (inside_c _ _ _).mono ?_; rintro e w' ⟨rfl, rfl⟩) | (go_at_call 10; refine (valid_c _ _ _ _).mono ?_; rintro e w1 ⟨rfl, hb1⟩; obtain ⟨hc, hf⟩ := bcell hb1; have hb := join (w := w) (by go_grown) hb1; clear hb1))
    go_ret2
    exact ⟨by rw [EV.out, EE.out] <;> rfl, by first | (go_grown; done) | (refine dN ?_ _; go_grown; done)⟩
end Go.Proofs.Ytfildngcghehlaa
