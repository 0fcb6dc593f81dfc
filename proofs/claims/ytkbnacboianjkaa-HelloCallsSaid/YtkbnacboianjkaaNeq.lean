/- Hello: two arrays of four numbers compared whole. -/
import Derived.Test.YtkbnacboianjkaaTickC
import Derived.Test.YtkbnacboianjkaaBase
import Derived.WalkSpells
namespace Go.Proofs.Ytkbnacboianjkaa
open Go.ChangeShapes Go.WideShapes Go.ChangeAt Go.RowKit
set_option linter.unusedVariables false
set_option linter.unusedSimpArgs false
theorem eq3 (w : World) (d : Nat) (a b : Int) : (Op.equalIn (d + 1) 3 (.int .i64 a) (.int .i64 b)).run Try.prog w = .ok (a == b) w := by
  simp [Op.equalIn, run_underlying Try.underlying3]
set_option maxHeartbeats 1000000 in
theorem eq60 (w : World) (d : Nat) (a b c a' b' c' : Int) : (Op.equalIn (d + 2) 60 (.agg #[.int .i64 a, .int .i64 b, .int .i64 c, .int .i64 0]) (.agg #[.int .i64 a', .int .i64 b', .int .i64 c', .int .i64 0])).run Try.prog w = .ok (a == a' && (b == b' && c == c')) w := by
  rw [Op.equalIn]
  simp [run_underlying Try.underlying60, eq3]
  have h3 : Try.prog.cellsOf 3 = 1 := by kernel_rfl
  have hc : ∀ x y : Int, (x == y) = decide (x = y) := fun x y => rfl
  by_cases h1 : a = a' <;> by_cases h2 : b = b' <;> by_cases h4 : c = c' <;> simp [List.range'_succ, part, h3, eq3, h1, h2, h4, run_underlying Try.underlying3]
theorem neq60 (w : World) (a b c a' b' c' : Int) : (binOp .neq 60 (.agg #[.int .i64 a, .int .i64 b, .int .i64 c, .int .i64 0]) (.agg #[.int .i64 a', .int .i64 b', .int .i64 c', .int .i64 0])).run Try.prog w = .ok (.bool (!(a == a' && (b == b' && c == c')))) w := by
  simp only [binOp]
  simp [Op.equal, Op.maxDepth, eq60 w 9998]
end Go.Proofs.Ytkbnacboianjkaa
