/- Hello: what the statement HelloRestarts looks at, decided. No program in sight. -/
import Derived.Test.YtkbnacboianjkaaPlainL
namespace Go.Proofs.Ytkbnacboianjkaa
set_option linter.unusedVariables false
def oldM : Msg := ⟨8, 20, 0, 10⟩
def staleB (t : Tb) (m : Msg) : Bool := !(m.port == 0) || recvE t 1 m == 17
def rest1 (n : Nat) : Tb × Tb := goX false false (2 * n + 2) (pairT n (3 * n + 3))
def rest2 (n more : Nat) : Tb × Tb := goX false false (3 * n + 3) ((rest1 n).1, new 8 (21 + (more : Int)) 2 n ((3 * n + 3 : Nat) : Int))
def restC (s1 s2 : Tb × Tb) : Bool := stateAt s2.1 1 == 2 && stateAt s2.2 0 == 2 && (out (tick s1.2) ++ [oldM]).all (staleB s2.1)
def restN (n : Nat) : Bool := (List.range 256).all fun more => restC (rest1 n) (rest2 n more)
theorem restN_1 : restN 1 = true := by decide +kernel
theorem restN_2 : restN 2 = true := by decide +kernel
theorem restN_3 : restN 3 = true := by decide +kernel
theorem restN_4 : restN 4 = true := by decide +kernel
theorem restN_5 : restN 5 = true := by decide +kernel
theorem restN_6 : restN 6 = true := by decide +kernel
theorem rest_all (n more : Nat) (h1 : 1 ≤ n) (h2 : n ≤ 6) (h3 : more < 256) : restC (rest1 n) (rest2 n more) = true := by
  have hn : restN n = true := by
    match n, h1, h2 with
    | 1, _, _ => exact restN_1
    | 2, _, _ => exact restN_2
    | 3, _, _ => exact restN_3
    | 4, _, _ => exact restN_4
    | 5, _, _ => exact restN_5
    | 6, _, _ => exact restN_6
  exact List.all_eq_true.1 hn more (List.mem_range.2 h3)
end Go.Proofs.Ytkbnacboianjkaa
