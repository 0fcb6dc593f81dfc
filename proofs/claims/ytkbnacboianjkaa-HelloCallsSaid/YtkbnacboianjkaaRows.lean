/-
  No cell of these rows narrows 'for every input' (looked for: loops, veiled, ifaces, maps, wideKeys, modest, calm, conditions, laid).
  DERIVED. THE GIVEN ROWS OF THIS SEAT. 8 by the template 'for every input the law returns true; each argument reads behind the call as it read before'; 0 by the template 'total and deterministic' (their statements: YtkbnacboianjkaaTotals.lean).
  GIVEN WITH THE SEED: the statements are not yours to turn. If you find one false, say at which input.
  Laid BY PROGRAM, IN A SANDBOX (cutbox-rows.mjs): the forced cells as the released guide's own fill.sh prints them over the translation a5486ba4d790c9c8… (all of the seat's roots in one cut). By AI agents, Wed Nov 11 2026. No macro, syntax, notation, axiom, sorry.
-/
import Derived.Test.YtkbnacboianjkaaChecked
import GoSem.Claim
import GoSem.ClaimJoined
import GoSem.ClaimMapViews
import Derived.JoinedTies
import Derived.KernelRfl
namespace Go.Proofs.Ytkbnacboianjkaa
/- THE CELL 'sum', in the pinned program and in every row, IS THE sha256 OF THE DUMP (.gsa) THAT YtkbnacboianjkaaProg.lean LOADS. Nothing in Lean hashes anything: it is a label: what it is worth is what the hold of that sum in a sandbox is worth. -/
noncomputable def Try.pinned : Pinned := { name := "ytkbnacboianjkaa", sum := "a5486ba4d790c9c85f0392ed78fede8ca9beafdac71ce31d80f0eec323983995", checked := Try.checked }
namespace Rows
def none {H : Type} : Left H := { results := [], args := [] }

/-- 'fairlinklaw15.HelloOneWay': WHATEVER THE INPUT: true; the input reads as it did. -/
def helloOneWaySpec : ChangeSpec := { name := "helloOneWay", fn := fun _ => fun
  | [d1, d2] => { results := [.lit (.bool true)], args := [d1, d2] }
  | _ => none }
def helloOneWayRow : OpenClaim := { program := "ytkbnacboianjkaa", sum := "a5486ba4d790c9c85f0392ed78fede8ca9beafdac71ce31d80f0eec323983995", func := "fairlink/fairlinklaw15.HelloOneWay", spec := "helloOneWay", unfollowed := true, recurses := true, apart := false }
def HelloOneWaySaid : Prop := helloOneWayRow.holds Try.pinned (OpenSpec.ofChange helloOneWaySpec)

/-- ITS FALSE NEIGHBOUR: 'it returns false'. Refute it at one input. -/
def helloOneWayWrong : ChangeSpec := { name := "helloOneWay", fn := fun _ => fun
  | [d1, d2] => { results := [.lit (.bool false)], args := [d1, d2] }
  | _ => none }
def HelloOneWayWrongFalsely : Prop := helloOneWayRow.holds Try.pinned (OpenSpec.ofChange helloOneWayWrong)

/-- 'fairlinklaw15.HelloCalls': WHATEVER THE INPUT: true; the input reads as it did. -/
def helloCallsSpec : ChangeSpec := { name := "helloCalls", fn := fun _ => fun
  | [d1, d2, d3, d4, d5, d6] => { results := [.lit (.bool true)], args := [d1, d2, d3, d4, d5, d6] }
  | _ => none }
def helloCallsRow : OpenClaim := { program := "ytkbnacboianjkaa", sum := "a5486ba4d790c9c85f0392ed78fede8ca9beafdac71ce31d80f0eec323983995", func := "fairlink/fairlinklaw15.HelloCalls", spec := "helloCalls", unfollowed := true, recurses := true, apart := false }
def HelloCallsSaid : Prop := helloCallsRow.holds Try.pinned (OpenSpec.ofChange helloCallsSpec)

/-- ITS FALSE NEIGHBOUR: 'it returns false'. Refute it at one input. -/
def helloCallsWrong : ChangeSpec := { name := "helloCalls", fn := fun _ => fun
  | [d1, d2, d3, d4, d5, d6] => { results := [.lit (.bool false)], args := [d1, d2, d3, d4, d5, d6] }
  | _ => none }
def HelloCallsWrongFalsely : Prop := helloCallsRow.holds Try.pinned (OpenSpec.ofChange helloCallsWrong)

/-- 'fairlinklaw15.HelloMeets': WHATEVER THE INPUT: true; the input reads as it did. -/
def helloMeetsSpec : ChangeSpec := { name := "helloMeets", fn := fun _ => fun
  | [d1, d2, d3] => { results := [.lit (.bool true)], args := [d1, d2, d3] }
  | _ => none }
def helloMeetsRow : OpenClaim := { program := "ytkbnacboianjkaa", sum := "a5486ba4d790c9c85f0392ed78fede8ca9beafdac71ce31d80f0eec323983995", func := "fairlink/fairlinklaw15.HelloMeets", spec := "helloMeets", unfollowed := true, recurses := true, apart := false }
def HelloMeetsSaid : Prop := helloMeetsRow.holds Try.pinned (OpenSpec.ofChange helloMeetsSpec)

/-- ITS FALSE NEIGHBOUR: 'it returns false'. Refute it at one input. -/
def helloMeetsWrong : ChangeSpec := { name := "helloMeets", fn := fun _ => fun
  | [d1, d2, d3] => { results := [.lit (.bool false)], args := [d1, d2, d3] }
  | _ => none }
def HelloMeetsWrongFalsely : Prop := helloMeetsRow.holds Try.pinned (OpenSpec.ofChange helloMeetsWrong)

/-- 'fairlinklaw15.HelloCut': WHATEVER THE INPUT: true; the input reads as it did. -/
def helloCutSpec : ChangeSpec := { name := "helloCut", fn := fun _ => fun
  | [d1, d2] => { results := [.lit (.bool true)], args := [d1, d2] }
  | _ => none }
def helloCutRow : OpenClaim := { program := "ytkbnacboianjkaa", sum := "a5486ba4d790c9c85f0392ed78fede8ca9beafdac71ce31d80f0eec323983995", func := "fairlink/fairlinklaw15.HelloCut", spec := "helloCut", unfollowed := true, recurses := true, apart := false }
def HelloCutSaid : Prop := helloCutRow.holds Try.pinned (OpenSpec.ofChange helloCutSpec)

/-- ITS FALSE NEIGHBOUR: 'it returns false'. Refute it at one input. -/
def helloCutWrong : ChangeSpec := { name := "helloCut", fn := fun _ => fun
  | [d1, d2] => { results := [.lit (.bool false)], args := [d1, d2] }
  | _ => none }
def HelloCutWrongFalsely : Prop := helloCutRow.holds Try.pinned (OpenSpec.ofChange helloCutWrong)

/-- 'fairlinklaw15.HelloRestarts': WHATEVER THE INPUT: true; the input reads as it did. -/
def helloRestartsSpec : ChangeSpec := { name := "helloRestarts", fn := fun _ => fun
  | [d1, d2] => { results := [.lit (.bool true)], args := [d1, d2] }
  | _ => none }
def helloRestartsRow : OpenClaim := { program := "ytkbnacboianjkaa", sum := "a5486ba4d790c9c85f0392ed78fede8ca9beafdac71ce31d80f0eec323983995", func := "fairlink/fairlinklaw15.HelloRestarts", spec := "helloRestarts", unfollowed := true, recurses := true, apart := false }
def HelloRestartsSaid : Prop := helloRestartsRow.holds Try.pinned (OpenSpec.ofChange helloRestartsSpec)

/-- ITS FALSE NEIGHBOUR: 'it returns false'. Refute it at one input. -/
def helloRestartsWrong : ChangeSpec := { name := "helloRestarts", fn := fun _ => fun
  | [d1, d2] => { results := [.lit (.bool false)], args := [d1, d2] }
  | _ => none }
def HelloRestartsWrongFalsely : Prop := helloRestartsRow.holds Try.pinned (OpenSpec.ofChange helloRestartsWrong)

/-- 'fairlinklaw15.HelloSends': WHATEVER THE INPUT: true; the input reads as it did. -/
def helloSendsSpec : ChangeSpec := { name := "helloSends", fn := fun _ => fun
  | [d1, d2, d3, d4, d5] => { results := [.lit (.bool true)], args := [d1, d2, d3, d4, d5] }
  | _ => none }
def helloSendsRow : OpenClaim := { program := "ytkbnacboianjkaa", sum := "a5486ba4d790c9c85f0392ed78fede8ca9beafdac71ce31d80f0eec323983995", func := "fairlink/fairlinklaw15.HelloSends", spec := "helloSends", unfollowed := true, recurses := true, apart := false }
def HelloSendsSaid : Prop := helloSendsRow.holds Try.pinned (OpenSpec.ofChange helloSendsSpec)

/-- ITS FALSE NEIGHBOUR: 'it returns false'. Refute it at one input. -/
def helloSendsWrong : ChangeSpec := { name := "helloSends", fn := fun _ => fun
  | [d1, d2, d3, d4, d5] => { results := [.lit (.bool false)], args := [d1, d2, d3, d4, d5] }
  | _ => none }
def HelloSendsWrongFalsely : Prop := helloSendsRow.holds Try.pinned (OpenSpec.ofChange helloSendsWrong)

/-- 'fairlinklaw15.HelloPorts': WHATEVER THE INPUT: true; the input reads as it did. -/
def helloPortsSpec : ChangeSpec := { name := "helloPorts", fn := fun _ => fun
  | [d] => { results := [.lit (.bool true)], args := [d] }
  | _ => none }
def helloPortsRow : OpenClaim := { program := "ytkbnacboianjkaa", sum := "a5486ba4d790c9c85f0392ed78fede8ca9beafdac71ce31d80f0eec323983995", func := "fairlink/fairlinklaw15.HelloPorts", spec := "helloPorts", unfollowed := true, recurses := true, apart := false }
def HelloPortsSaid : Prop := helloPortsRow.holds Try.pinned (OpenSpec.ofChange helloPortsSpec)

/-- ITS FALSE NEIGHBOUR: 'it returns false'. Refute it at one input. -/
def helloPortsWrong : ChangeSpec := { name := "helloPorts", fn := fun _ => fun
  | [d] => { results := [.lit (.bool false)], args := [d] }
  | _ => none }
def HelloPortsWrongFalsely : Prop := helloPortsRow.holds Try.pinned (OpenSpec.ofChange helloPortsWrong)

/-- 'fairlinklaw15.HelloVersion': WHATEVER THE INPUT: true; the input reads as it did. -/
def helloVersionSpec : ChangeSpec := { name := "helloVersion", fn := fun _ => fun
  | [d] => { results := [.lit (.bool true)], args := [d] }
  | _ => none }
def helloVersionRow : OpenClaim := { program := "ytkbnacboianjkaa", sum := "a5486ba4d790c9c85f0392ed78fede8ca9beafdac71ce31d80f0eec323983995", func := "fairlink/fairlinklaw15.HelloVersion", spec := "helloVersion", unfollowed := true, recurses := true, apart := false }
def HelloVersionSaid : Prop := helloVersionRow.holds Try.pinned (OpenSpec.ofChange helloVersionSpec)

/-- ITS FALSE NEIGHBOUR: 'it returns false'. Refute it at one input. -/
def helloVersionWrong : ChangeSpec := { name := "helloVersion", fn := fun _ => fun
  | [d] => { results := [.lit (.bool false)], args := [d] }
  | _ => none }
def HelloVersionWrongFalsely : Prop := helloVersionRow.holds Try.pinned (OpenSpec.ofChange helloVersionWrong)

/- THE SECOND FORM. 'bulk': how many values and letters a reading holds, each counted each time it is reached (what is shared counts as often as it is met; a slice's spare places count too). A statement '..UptoSaid' is the law's where the arguments, and the package variables that the reading takes, are together of bulk at most 1048576: NARROWER than '..Said'. Prove '..Said' where nothing that the law and all that it calls make is longer than what came in: it says more and counts as full. Else prove '..UptoSaid'. A law counts once. -/
mutual
def uptoBulk {H : Type} : DataW H → Nat
  | .lit (.string bytes) => bytes.length + 1
  | .lit _ => 1
  | .nil => 1
  | .ptr d => uptoBulk d + 1
  | .slice elems spare => uptoBulkAll elems + uptoBulkAll spare + 1
  | .agg parts => uptoBulkAll parts + 1
  | .iface _ d => uptoBulk d + 1
  | .map entries => uptoBulkEntries entries + 1
  | .held _ => 1
def uptoBulkAll {H : Type} : List (DataW H) → Nat
  | [] => 0
  | d :: r => uptoBulk d + uptoBulkAll r
def uptoBulkEntries {H : Type} : List (Lit × DataW H) → Nat
  | [] => 0
  | x :: r => uptoBulkEntry x + uptoBulkEntries r
def uptoBulkEntry {H : Type} : Lit × DataW H → Nat
  | (.string bytes, d) => bytes.length + uptoBulk d + 1
  | (_, d) => uptoBulk d + 1
 end
def uptoSmall : (H : Type) → List (DataW H) → Bool := fun _ ds => decide (uptoBulkAll ds ≤ 1048576)
def OpenSpec.upto (s : _root_.Go.ChangeSpec) : _root_.Go.OpenSpec := { _root_.Go.OpenSpec.ofChange s with cond := some uptoSmall }

/-- 'fairlinklaw15.HelloOneWay', WHERE WHAT IT READS IS OF BULK AT MOST 1048576: true; the input reads as it did. -/
def helloOneWayUptoRow : OpenClaim := { program := "ytkbnacboianjkaa", sum := "a5486ba4d790c9c85f0392ed78fede8ca9beafdac71ce31d80f0eec323983995", func := "fairlink/fairlinklaw15.HelloOneWay", spec := "helloOneWay", unfollowed := true, recurses := true, apart := false, narrowed := true }
def HelloOneWayUptoSaid : Prop := helloOneWayUptoRow.holds Try.pinned (OpenSpec.upto helloOneWaySpec)

/-- 'fairlinklaw15.HelloCalls', WHERE WHAT IT READS IS OF BULK AT MOST 1048576: true; the input reads as it did. -/
def helloCallsUptoRow : OpenClaim := { program := "ytkbnacboianjkaa", sum := "a5486ba4d790c9c85f0392ed78fede8ca9beafdac71ce31d80f0eec323983995", func := "fairlink/fairlinklaw15.HelloCalls", spec := "helloCalls", unfollowed := true, recurses := true, apart := false, narrowed := true }
def HelloCallsUptoSaid : Prop := helloCallsUptoRow.holds Try.pinned (OpenSpec.upto helloCallsSpec)

/-- 'fairlinklaw15.HelloMeets', WHERE WHAT IT READS IS OF BULK AT MOST 1048576: true; the input reads as it did. -/
def helloMeetsUptoRow : OpenClaim := { program := "ytkbnacboianjkaa", sum := "a5486ba4d790c9c85f0392ed78fede8ca9beafdac71ce31d80f0eec323983995", func := "fairlink/fairlinklaw15.HelloMeets", spec := "helloMeets", unfollowed := true, recurses := true, apart := false, narrowed := true }
def HelloMeetsUptoSaid : Prop := helloMeetsUptoRow.holds Try.pinned (OpenSpec.upto helloMeetsSpec)

/-- 'fairlinklaw15.HelloCut', WHERE WHAT IT READS IS OF BULK AT MOST 1048576: true; the input reads as it did. -/
def helloCutUptoRow : OpenClaim := { program := "ytkbnacboianjkaa", sum := "a5486ba4d790c9c85f0392ed78fede8ca9beafdac71ce31d80f0eec323983995", func := "fairlink/fairlinklaw15.HelloCut", spec := "helloCut", unfollowed := true, recurses := true, apart := false, narrowed := true }
def HelloCutUptoSaid : Prop := helloCutUptoRow.holds Try.pinned (OpenSpec.upto helloCutSpec)

/-- 'fairlinklaw15.HelloRestarts', WHERE WHAT IT READS IS OF BULK AT MOST 1048576: true; the input reads as it did. -/
def helloRestartsUptoRow : OpenClaim := { program := "ytkbnacboianjkaa", sum := "a5486ba4d790c9c85f0392ed78fede8ca9beafdac71ce31d80f0eec323983995", func := "fairlink/fairlinklaw15.HelloRestarts", spec := "helloRestarts", unfollowed := true, recurses := true, apart := false, narrowed := true }
def HelloRestartsUptoSaid : Prop := helloRestartsUptoRow.holds Try.pinned (OpenSpec.upto helloRestartsSpec)

/-- 'fairlinklaw15.HelloSends', WHERE WHAT IT READS IS OF BULK AT MOST 1048576: true; the input reads as it did. -/
def helloSendsUptoRow : OpenClaim := { program := "ytkbnacboianjkaa", sum := "a5486ba4d790c9c85f0392ed78fede8ca9beafdac71ce31d80f0eec323983995", func := "fairlink/fairlinklaw15.HelloSends", spec := "helloSends", unfollowed := true, recurses := true, apart := false, narrowed := true }
def HelloSendsUptoSaid : Prop := helloSendsUptoRow.holds Try.pinned (OpenSpec.upto helloSendsSpec)

/-- 'fairlinklaw15.HelloPorts', WHERE WHAT IT READS IS OF BULK AT MOST 1048576: true; the input reads as it did. -/
def helloPortsUptoRow : OpenClaim := { program := "ytkbnacboianjkaa", sum := "a5486ba4d790c9c85f0392ed78fede8ca9beafdac71ce31d80f0eec323983995", func := "fairlink/fairlinklaw15.HelloPorts", spec := "helloPorts", unfollowed := true, recurses := true, apart := false, narrowed := true }
def HelloPortsUptoSaid : Prop := helloPortsUptoRow.holds Try.pinned (OpenSpec.upto helloPortsSpec)

/-- 'fairlinklaw15.HelloVersion', WHERE WHAT IT READS IS OF BULK AT MOST 1048576: true; the input reads as it did. -/
def helloVersionUptoRow : OpenClaim := { program := "ytkbnacboianjkaa", sum := "a5486ba4d790c9c85f0392ed78fede8ca9beafdac71ce31d80f0eec323983995", func := "fairlink/fairlinklaw15.HelloVersion", spec := "helloVersion", unfollowed := true, recurses := true, apart := false, narrowed := true }
def HelloVersionUptoSaid : Prop := helloVersionUptoRow.holds Try.pinned (OpenSpec.upto helloVersionSpec)

end Rows
end Go.Proofs.Ytkbnacboianjkaa
