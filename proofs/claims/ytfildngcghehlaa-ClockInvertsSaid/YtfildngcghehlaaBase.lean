/- The two closed facts of the program that every frame of this seat asks. -/
import Derived.Test.YtfildngcghehlaaRows
import Derived.WalkKit
import Derived.ProofKit
import Derived.OpenShut
import Derived.Lib.SmallJoins
import Derived.ChangeOld
import Derived.Below
import Derived.Deep.RegionWith
namespace Go.Proofs.Ytfildngcghehlaa
theorem own : ownKnob Try.prog.godebug = none := by kernel_rfl
theorem laidOut : laidOutB Try.prog = true := by kernel_rfl
end Go.Proofs.Ytfildngcghehlaa
