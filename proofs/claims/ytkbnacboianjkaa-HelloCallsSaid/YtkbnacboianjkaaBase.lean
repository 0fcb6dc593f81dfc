/- The closed facts of the program that every frame of this seat asks. -/
import Derived.Test.YtkbnacboianjkaaRows
import Derived.Test.YtkbnacboianjkaaPair
import Derived.OpenShut
import Derived.Lib.SmallJoins
import Derived.ChangeOld
import Derived.Deep.Slices
namespace Go.Proofs.Ytkbnacboianjkaa
set_option linter.unusedVariables false
set_option linter.unusedSimpArgs false
open Go.RowKit Go.ChangeShapes Go.WideShapes
theorem own : ownKnob Try.prog.godebug = none := by kernel_rfl
theorem laidOut : laidOutB Try.prog = true := by kernel_rfl
end Go.Proofs.Ytkbnacboianjkaa
