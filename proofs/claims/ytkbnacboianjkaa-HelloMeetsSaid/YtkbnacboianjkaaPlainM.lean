/- Hello: what the statements HelloMeets, HelloCut and HelloRestarts look at, decided. No program in sight. -/
import Derived.Test.YtkbnacboianjkaaPlainL
namespace Go.Proofs.Ytkbnacboianjkaa
set_option linter.unusedVariables false
def allX (la lb : Bool) (P : Nat → Tb × Tb → Bool × Tb × Tb → Bool) : Nat → Nat → Tb × Tb → Bool
  | _, 0, _ => true
  | i, k + 1, s => P i s (exch la lb s.1 s.2) && allX la lb P (i + 1) k (exch la lb s.1 s.2).2
theorem allX_get {la lb : Bool} {P : Nat → Tb × Tb → Bool × Tb × Tb → Bool} : ∀ (N i : Nat) (s : Tb × Tb), allX la lb P i N s = true → ∀ k, k < N → P (i + k) (runX la lb k s) (exch la lb (runX la lb k s).1 (runX la lb k s).2) = true
  | 0, i, s, h, k, hk => absurd hk (by omega)
  | N + 1, i, s, h, k, hk => by
    simp only [allX, Bool.and_eq_true] at h
    cases k with
    | zero => exact h.1
    | succ k =>
      have := allX_get N (i + 1) _ h.2 k (by omega)
      rw [runX_succ', show i + (k + 1) = i + 1 + k by omega]
      exact this
def tickN : Nat → Tb → Tb
  | 0, t => t
  | k + 1, t => tick (tickN k t)
def meets0 (n d l : Nat) : Tb × Tb := ((pairT n d).1, tickN l (pairT n d).2)
def meetC (s : Tb × Tb) : Bool := stateAt s.1 1 == 2 && stateAt s.2 0 == 2 && nbNode s.1 1 == 8 && nbPort s.1 1 == 0 && nbOk s.1 1 && nbNode s.2 0 == 3 && nbPort s.2 0 == 1 && nbOk s.2 0 && stateAt s.1 0 == 0
def meetP (_ : Nat) (_ : Tb × Tb) (r : Bool × Tb × Tb) : Bool := r.1
def meetQ (_ : Nat) (_ : Tb × Tb) (r : Bool × Tb × Tb) : Bool := r.1 && stateAt r.2.1 1 == 2 && stateAt r.2.2 0 == 2
def meets (n d l : Nat) : Bool :=
  allX false false meetP 0 (2 * n + 2) (meets0 n d l) && meetC (goX false false (2 * n + 2) (meets0 n d l)) &&
  allX false false meetQ 0 20 (goX false false (2 * n + 2) (meets0 n d l)) &&
  (goX false false 20 (goX false false (2 * n + 2) (meets0 n d l))).1.version == (goX false false (2 * n + 2) (meets0 n d l)).1.version &&
  (goX false false 20 (goX false false (2 * n + 2) (meets0 n d l))).2.version == (goX false false (2 * n + 2) (meets0 n d l)).2.version
theorem meets_all : ∀ a : Fin 6, ∀ b : Fin 5, ∀ l : Fin 6, meets (1 + a.val) (1 + a.val + 1 + b.val) l.val = true := by decide +kernel
def cutP (d : Nat) (i : Nat) (s : Tb × Tb) (r : Bool × Tb × Tb) : Bool := !(stateAt s.1 1 == 0) && !(stateAt s.2 0 == 0) && ((r.2.1.version != s.1.version) == ((i : Int) == (d : Int) - 1))
def cut (n d : Nat) : Bool :=
  let s1 := goX false false (2 * n + 1) (pairT n d)
  let s2 := goX true true d s1
  let s3 := goX false false (2 * n + 2) s2
  allX true true (cutP d) 0 d s1 && stateAt s2.1 1 == 0 && stateAt s2.2 0 == 0 && stateAt s3.1 1 == 2 && stateAt s3.2 0 == 2
theorem cut_all : ∀ a : Fin 6, ∀ b : Fin 9, cut (1 + a.val) (1 + a.val + 1 + b.val) = true := by decide +kernel
end Go.Proofs.Ytkbnacboianjkaa
