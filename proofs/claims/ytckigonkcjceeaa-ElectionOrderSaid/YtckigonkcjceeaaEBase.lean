/- The closed facts of the program that every frame of this seat asks, and how plans, lists of bools and votes that come in lie in memory. -/
import Derived.Test.YtckigonkcjceeaaRows
import Derived.Test.YtckigonkcjceeaaEAwake
namespace Go.Proofs.Ytckigonkcjceeaa
set_option linter.unusedVariables false
set_option linter.unusedSimpArgs false
open Go.RowKit Go.ChangeShapes Go.WideShapes Go.Deep
theorem own : ownKnob Try.prog.godebug = none := by kernel_rfl
theorem laidOut : laidOutB Try.prog = true := by kernel_rfl
theorem I64.of {x : Int} (h : (Lit.int .i64 x).wf = true) : I64 x := bounds_i64 h
section
variable {H : Type} {enc : TypeId × Value → H} {w : World} {base : Nat} {spare : Nat → Bool} {held : Bool}
theorem isBool (n : Nat) (cs : List Value) (y : DataW H × List MemPlace) (hl : cs.length = 1) (h : DataW.trod enc Try.prog w base spare held n 4 cs = some y) : ∃ x : Bool, cs = bcell1 x ∧ True := by
  match cs, hl with
  | [c0], _ =>
    obtain ⟨x, e0, _⟩ := DataW.trod_bool Try.underlying4 h
    simp at e0
    subst e0
    exact ⟨x, rfl, trivial⟩
end
end Go.Proofs.Ytckigonkcjceeaa
