/- Linkup: a side that hears one peer and then falls silent. No program in sight. -/
import Derived.Test.YtaonnglopajkcaaPlain
namespace Go.Proofs.Ytaonnglopajkcaa
set_option linter.unusedVariables false
def U (n q : Int) : Sd := ⟨3, n, 9, 9, 2, q, 1⟩
def Z (n : Int) : Sd := ⟨3, n, 0, 0, 0, 0, 0⟩
def D (n : Int) : Sd := ⟨3, n, 0, 9, 0, 0, 2⟩
theorem recv_Z (n : Int) : recv (Z n) 9 3 = U n 0 := rfl
theorem recv_U (n q : Int) : recv (U n q) 9 3 = U n 0 := rfl
theorem tick_U {n q : Int} (h : q + 1 < n) : tick (U n q) = U n (q + 1) := by
  have h' : ¬ n ≤ q + 1 := by omega
  simp [tick, U, h']
theorem tick_U' {n q : Int} (h : n ≤ q + 1) : tick (U n q) = D n := by
  simp [tick, U, D, bec, becB, h]
theorem tick_D (n : Int) : tick (D n) = D n := rfl
end Go.Proofs.Ytaonnglopajkcaa
