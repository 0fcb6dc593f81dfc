/- Hello: the runs of two tables that the statements look at, decided. No program in sight. -/
import Derived.Test.YtkbnacboianjkaaPlainX
namespace Go.Proofs.Ytkbnacboianjkaa
set_option linter.unusedVariables false
def runX (la lb : Bool) : Nat → Tb × Tb → Tb × Tb
  | 0, s => s
  | k + 1, s => (exch la lb (runX la lb k s).1 (runX la lb k s).2).2
def pairT (every dead : Nat) : Tb × Tb := (new 3 10 2 every dead, new 8 20 2 every dead)
/-- The same run, each step once. -/
def goX (la lb : Bool) : Nat → Tb × Tb → Tb × Tb
  | 0, s => s
  | k + 1, s => goX la lb k (exch la lb s.1 s.2).2
theorem runX_succ' (la lb : Bool) (k : Nat) (s : Tb × Tb) : runX la lb (k + 1) s = runX la lb k (exch la lb s.1 s.2).2 := by
  induction k with
  | zero => rfl
  | succ k ih => rw [runX, ih]; rfl
theorem goX_eq (la lb : Bool) (k : Nat) : ∀ s, goX la lb k s = runX la lb k s := by
  induction k with
  | zero => intro s; rfl
  | succ k ih => intro s; rw [goX, ih, runX_succ']
def oneWay (n d : Nat) : Bool :=
  let s := goX true false (d + 2 * n + 2) (goX false false (2 * n + 2) (pairT n d))
  stateAt s.2 0 == 0 && stateAt s.1 1 == 1
theorem oneWay_all : ∀ a : Fin 6, ∀ b : Fin 9, oneWay (1 + a.val) (1 + a.val + 1 + b.val) = true := by decide +kernel
end Go.Proofs.Ytkbnacboianjkaa
