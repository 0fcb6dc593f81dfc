/- The statements' great. -/
import Derived.Test.YtckigonkcjceeaaEAwake
namespace Go.Proofs.Ytckigonkcjceeaa
set_option linter.unusedVariables false
set_option linter.unusedSimpArgs false
open Go.RowKit
def greatB (n c u v : Nat) : Bool := decide (20 < n) || (decide (40 < c) || (decide (60 < u) || decide (60 < v)))
theorem great_no {n c u v : Nat} (h : greatB n c u v = false) : n ≤ 20 ∧ c ≤ 40 ∧ u ≤ 60 ∧ v ≤ 60 := by
  simp [greatB] at h; omega
set_option maxHeartbeats 2000000 in
theorem great_ (n c u v : Nat) (An Ac Au Av : Option Addr) (kn kc ku kv : Nat) (w : World) (hn : n ≤ 9223372036854775807) (hc : c ≤ 9223372036854775807) (hu : u ≤ 9223372036854775807) (hv : v ≤ 9223372036854775807) :
    Calls Try.prog 14 #[.agg #[.slice An n kn, .slice Ac c kc], .slice Au u ku, .slice Av v kv] w fun e w' => e = .returned (.bool (greatB n c u v)) ∧ Below w.heap.size w w' := by
  have hcase : 20 < n ∨ (¬ 20 < n ∧ 40 < c) ∨ (¬ 20 < n ∧ ¬ 40 < c ∧ 60 < u) ∨ (¬ 20 < n ∧ ¬ 40 < c ∧ ¬ 60 < u ∧ 60 < v) ∨ (¬ 20 < n ∧ ¬ 40 < c ∧ ¬ 60 < u ∧ ¬ 60 < v) := by omega
  rcases hcase with y1 | ⟨y1, y2⟩ | ⟨y1, y2, y3⟩ | ⟨y1, y2, y3, y4⟩ | ⟨y1, y2, y3, y4⟩
  · have d0 : decide ((20 : Int) < n) = true := decide_eq_true (by omega)
    have HB : Kept (greatB n c u v = true) := ⟨by unfold greatB; rw [decide_eq_true y1]; rfl⟩
    clear y1
    go_enter Try.func14, Try.ntmps14
    go_wp2_with fail
    go_ret
    exact ⟨ret_bool HB.out.symm, by go_grown⟩
  · have d0 : decide ((20 : Int) < n) = false := decide_eq_false (by omega)
    have d1 : decide ((40 : Int) < c) = true := decide_eq_true (by omega)
    have HB : Kept (greatB n c u v = true) := ⟨by unfold greatB; rw [decide_eq_false y1, decide_eq_true y2]; rfl⟩
    clear y1 y2
    go_enter Try.func14, Try.ntmps14
    go_wp2_with fail
    go_ret
    exact ⟨ret_bool HB.out.symm, by go_grown⟩
  · have d0 : decide ((20 : Int) < n) = false := decide_eq_false (by omega)
    have d1 : decide ((40 : Int) < c) = false := decide_eq_false (by omega)
    have d2 : decide ((60 : Int) < u) = true := decide_eq_true (by omega)
    have HB : Kept (greatB n c u v = true) := ⟨by unfold greatB; rw [decide_eq_false y1, decide_eq_false y2, decide_eq_true y3]; rfl⟩
    clear y1 y2 y3
    go_enter Try.func14, Try.ntmps14
    go_wp2_with fail
    go_ret
    exact ⟨ret_bool HB.out.symm, by go_grown⟩
  · have d0 : decide ((20 : Int) < n) = false := decide_eq_false (by omega)
    have d1 : decide ((40 : Int) < c) = false := decide_eq_false (by omega)
    have d2 : decide ((60 : Int) < u) = false := decide_eq_false (by omega)
    have d3 : decide ((60 : Int) < v) = true := decide_eq_true (by omega)
    have HB : Kept (greatB n c u v = true) := ⟨by unfold greatB; rw [decide_eq_false y1, decide_eq_false y2, decide_eq_false y3, decide_eq_true y4]; rfl⟩
    clear y1 y2 y3 y4
    go_enter Try.func14, Try.ntmps14
    go_wp2_with fail
    go_ret
    exact ⟨ret_bool HB.out.symm, by go_grown⟩
  · have d0 : decide ((20 : Int) < n) = false := decide_eq_false (by omega)
    have d1 : decide ((40 : Int) < c) = false := decide_eq_false (by omega)
    have d2 : decide ((60 : Int) < u) = false := decide_eq_false (by omega)
    have d3 : decide ((60 : Int) < v) = false := decide_eq_false (by omega)
    have HB : Kept (greatB n c u v = false) := ⟨by unfold greatB; rw [decide_eq_false y1, decide_eq_false y2, decide_eq_false y3, decide_eq_false y4]; rfl⟩
    clear y1 y2 y3 y4
    go_enter Try.func14, Try.ntmps14
    go_wp2_with fail
    go_ret
    exact ⟨ret_bool HB.out.symm, by go_grown⟩
end Go.Proofs.Ytckigonkcjceeaa
