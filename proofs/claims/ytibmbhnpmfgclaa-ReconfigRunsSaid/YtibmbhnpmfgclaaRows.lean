/-
  No cell of these rows narrows 'for every input' (looked for: loops, veiled, ifaces, maps, wideKeys, modest, calm, conditions, laid).
  DERIVED. THE GIVEN ROWS OF THIS SEAT. 7 by the template 'for every input the law returns true; each argument reads behind the call as it read before'; 0 by the template 'total and deterministic' (their statements: YtibmbhnpmfgclaaTotals.lean).
  GIVEN WITH THE SEED: the statements are not yours to turn. If you find one false, say at which input.
  Laid BY PROGRAM, IN A SANDBOX (cutbox-rows.mjs): the forced cells as the released guide's own fill.sh prints them over the translation 7e33f31b7ef0004a… (all of the seat's roots in one cut). By AI agents, Wed Nov 11 2026. No macro, syntax, notation, axiom, sorry.
-/
import Derived.Test.YtibmbhnpmfgclaaChecked
import GoSem.Claim
import GoSem.ClaimJoined
import GoSem.ClaimMapViews
import Derived.JoinedTies
import Derived.KernelRfl
namespace Go.Proofs.Ytibmbhnpmfgclaa
/- THE CELL 'sum', in the pinned program and in every row, IS THE sha256 OF THE DUMP (.gsa) THAT YtibmbhnpmfgclaaProg.lean LOADS. Nothing in Lean hashes anything: it is a label: what it is worth is what the hold of that sum in a sandbox is worth. -/
noncomputable def Try.pinned : Pinned := { name := "ytibmbhnpmfgclaa", sum := "7e33f31b7ef0004a35e0f5a9889fd6479819790e07375580a62767fa9a80aaad", checked := Try.checked }
namespace Rows
def none {H : Type} : Left H := { results := [], args := [] }

/-- 'fairlinklaw25.ReconfigNew': WHATEVER THE INPUT: true; the input reads as it did. -/
def reconfigNewSpec : ChangeSpec := { name := "reconfigNew", fn := fun _ => fun
  | [d1, d2] => { results := [.lit (.bool true)], args := [d1, d2] }
  | _ => none }
def reconfigNewRow : OpenClaim := { program := "ytibmbhnpmfgclaa", sum := "7e33f31b7ef0004a35e0f5a9889fd6479819790e07375580a62767fa9a80aaad", func := "fairlink/fairlinklaw25.ReconfigNew", spec := "reconfigNew", unfollowed := true, recurses := true, plainKeys := false, apart := false }
def ReconfigNewSaid : Prop := reconfigNewRow.holds Try.pinned (OpenSpec.ofChange reconfigNewSpec)

/-- ITS FALSE NEIGHBOUR: 'it returns false'. Refute it at one input. -/
def reconfigNewWrong : ChangeSpec := { name := "reconfigNew", fn := fun _ => fun
  | [d1, d2] => { results := [.lit (.bool false)], args := [d1, d2] }
  | _ => none }
def ReconfigNewWrongFalsely : Prop := reconfigNewRow.holds Try.pinned (OpenSpec.ofChange reconfigNewWrong)

/-- 'fairlinklaw25.ReconfigNil': WHATEVER THE INPUT: true; the input reads as it did. -/
def reconfigNilSpec : ChangeSpec := { name := "reconfigNil", fn := fun _ => fun
  | [d1, d2] => { results := [.lit (.bool true)], args := [d1, d2] }
  | _ => none }
def reconfigNilRow : OpenClaim := { program := "ytibmbhnpmfgclaa", sum := "7e33f31b7ef0004a35e0f5a9889fd6479819790e07375580a62767fa9a80aaad", func := "fairlink/fairlinklaw25.ReconfigNil", spec := "reconfigNil", plainKeys := false, apart := false }
def ReconfigNilSaid : Prop := reconfigNilRow.holds Try.pinned (OpenSpec.ofChange reconfigNilSpec)

/-- ITS FALSE NEIGHBOUR: 'it returns false'. Refute it at one input. -/
def reconfigNilWrong : ChangeSpec := { name := "reconfigNil", fn := fun _ => fun
  | [d1, d2] => { results := [.lit (.bool false)], args := [d1, d2] }
  | _ => none }
def ReconfigNilWrongFalsely : Prop := reconfigNilRow.holds Try.pinned (OpenSpec.ofChange reconfigNilWrong)

/-- 'fairlinklaw25.ReconfigRuns': WHATEVER THE INPUT: true; the input reads as it did. -/
def reconfigRunsSpec : ChangeSpec := { name := "reconfigRuns", fn := fun _ => fun
  | [d1, d2] => { results := [.lit (.bool true)], args := [d1, d2] }
  | _ => none }
def reconfigRunsRow : OpenClaim := { program := "ytibmbhnpmfgclaa", sum := "7e33f31b7ef0004a35e0f5a9889fd6479819790e07375580a62767fa9a80aaad", func := "fairlink/fairlinklaw25.ReconfigRuns", spec := "reconfigRuns", unfollowed := true, recurses := true, plainKeys := false, apart := false }
def ReconfigRunsSaid : Prop := reconfigRunsRow.holds Try.pinned (OpenSpec.ofChange reconfigRunsSpec)

/-- ITS FALSE NEIGHBOUR: 'it returns false'. Refute it at one input. -/
def reconfigRunsWrong : ChangeSpec := { name := "reconfigRuns", fn := fun _ => fun
  | [d1, d2] => { results := [.lit (.bool false)], args := [d1, d2] }
  | _ => none }
def ReconfigRunsWrongFalsely : Prop := reconfigRunsRow.holds Try.pinned (OpenSpec.ofChange reconfigRunsWrong)

/-- 'fairlinklaw25.ReconfigStale': WHATEVER THE INPUT: true; the input reads as it did. -/
def reconfigStaleSpec : ChangeSpec := { name := "reconfigStale", fn := fun _ => fun
  | [d1, d2, d3] => { results := [.lit (.bool true)], args := [d1, d2, d3] }
  | _ => none }
def reconfigStaleRow : OpenClaim := { program := "ytibmbhnpmfgclaa", sum := "7e33f31b7ef0004a35e0f5a9889fd6479819790e07375580a62767fa9a80aaad", func := "fairlink/fairlinklaw25.ReconfigStale", spec := "reconfigStale", plainKeys := false, apart := false }
def ReconfigStaleSaid : Prop := reconfigStaleRow.holds Try.pinned (OpenSpec.ofChange reconfigStaleSpec)

/-- ITS FALSE NEIGHBOUR: 'it returns false'. Refute it at one input. -/
def reconfigStaleWrong : ChangeSpec := { name := "reconfigStale", fn := fun _ => fun
  | [d1, d2, d3] => { results := [.lit (.bool false)], args := [d1, d2, d3] }
  | _ => none }
def ReconfigStaleWrongFalsely : Prop := reconfigStaleRow.holds Try.pinned (OpenSpec.ofChange reconfigStaleWrong)

/-- 'fairlinklaw25.ReconfigAgrees': WHATEVER THE INPUT: true; the input reads as it did. -/
def reconfigAgreesSpec : ChangeSpec := { name := "reconfigAgrees", fn := fun _ => fun
  | [d1, d2] => { results := [.lit (.bool true)], args := [d1, d2] }
  | _ => none }
def reconfigAgreesRow : OpenClaim := { program := "ytibmbhnpmfgclaa", sum := "7e33f31b7ef0004a35e0f5a9889fd6479819790e07375580a62767fa9a80aaad", func := "fairlink/fairlinklaw25.ReconfigAgrees", spec := "reconfigAgrees", plainKeys := false, apart := false }
def ReconfigAgreesSaid : Prop := reconfigAgreesRow.holds Try.pinned (OpenSpec.ofChange reconfigAgreesSpec)

/-- ITS FALSE NEIGHBOUR: 'it returns false'. Refute it at one input. -/
def reconfigAgreesWrong : ChangeSpec := { name := "reconfigAgrees", fn := fun _ => fun
  | [d1, d2] => { results := [.lit (.bool false)], args := [d1, d2] }
  | _ => none }
def ReconfigAgreesWrongFalsely : Prop := reconfigAgreesRow.holds Try.pinned (OpenSpec.ofChange reconfigAgreesWrong)

/-- 'fairlinklaw25.ReconfigFinishes': WHATEVER THE INPUT: true; the input reads as it did. -/
def reconfigFinishesSpec : ChangeSpec := { name := "reconfigFinishes", fn := fun _ => fun
  | [d1, d2] => { results := [.lit (.bool true)], args := [d1, d2] }
  | _ => none }
def reconfigFinishesRow : OpenClaim := { program := "ytibmbhnpmfgclaa", sum := "7e33f31b7ef0004a35e0f5a9889fd6479819790e07375580a62767fa9a80aaad", func := "fairlink/fairlinklaw25.ReconfigFinishes", spec := "reconfigFinishes", plainKeys := false, apart := false }
def ReconfigFinishesSaid : Prop := reconfigFinishesRow.holds Try.pinned (OpenSpec.ofChange reconfigFinishesSpec)

/-- ITS FALSE NEIGHBOUR: 'it returns false'. Refute it at one input. -/
def reconfigFinishesWrong : ChangeSpec := { name := "reconfigFinishes", fn := fun _ => fun
  | [d1, d2] => { results := [.lit (.bool false)], args := [d1, d2] }
  | _ => none }
def ReconfigFinishesWrongFalsely : Prop := reconfigFinishesRow.holds Try.pinned (OpenSpec.ofChange reconfigFinishesWrong)

/-- 'fairlinklaw25.ReconfigClose': WHATEVER THE INPUT: true; the input reads as it did. -/
def reconfigCloseSpec : ChangeSpec := { name := "reconfigClose", fn := fun _ => fun
  | [d1, d2] => { results := [.lit (.bool true)], args := [d1, d2] }
  | _ => none }
def reconfigCloseRow : OpenClaim := { program := "ytibmbhnpmfgclaa", sum := "7e33f31b7ef0004a35e0f5a9889fd6479819790e07375580a62767fa9a80aaad", func := "fairlink/fairlinklaw25.ReconfigClose", spec := "reconfigClose", plainKeys := false, apart := false }
def ReconfigCloseSaid : Prop := reconfigCloseRow.holds Try.pinned (OpenSpec.ofChange reconfigCloseSpec)

/-- ITS FALSE NEIGHBOUR: 'it returns false'. Refute it at one input. -/
def reconfigCloseWrong : ChangeSpec := { name := "reconfigClose", fn := fun _ => fun
  | [d1, d2] => { results := [.lit (.bool false)], args := [d1, d2] }
  | _ => none }
def ReconfigCloseWrongFalsely : Prop := reconfigCloseRow.holds Try.pinned (OpenSpec.ofChange reconfigCloseWrong)

/- THE SECOND FORM. 'bulk': how many values and letters a reading holds, each counted each time it is reached (what is shared counts as often as it is met; a slice's spare places count too). A statement '..UptoSaid' is the law's where the arguments, and the package variables that the reading takes, are together of bulk at most 1048576: NARROWER than '..Said'. Prove '..Said' where nothing that the law and all that it calls make is longer than what came in: it says more and counts as full. Else prove '..UptoSaid'. A law counts once. -/
mutual
def uptoBulk {H : Type} : DataW H → Nat
  | .lit (.string bytes) => bytes.length + 1
  | .lit _ => 1
  | .nil => 1
  | .ptr d => uptoBulk d + 1
  | .slice elems spare => uptoBulkAll elems + uptoBulkAll spare + 1
  | .agg parts => uptoBulkAll parts + 1
  | .iface _ d => uptoBulk d + 1
  | .map entries => uptoBulkEntries entries + 1
  | .held _ => 1
def uptoBulkAll {H : Type} : List (DataW H) → Nat
  | [] => 0
  | d :: r => uptoBulk d + uptoBulkAll r
def uptoBulkEntries {H : Type} : List (Lit × DataW H) → Nat
  | [] => 0
  | x :: r => uptoBulkEntry x + uptoBulkEntries r
def uptoBulkEntry {H : Type} : Lit × DataW H → Nat
  | (.string bytes, d) => bytes.length + uptoBulk d + 1
  | (_, d) => uptoBulk d + 1
 end
def uptoSmall : (H : Type) → List (DataW H) → Bool := fun _ ds => decide (uptoBulkAll ds ≤ 1048576)
def OpenSpec.upto (s : _root_.Go.ChangeSpec) : _root_.Go.OpenSpec := { _root_.Go.OpenSpec.ofChange s with cond := some uptoSmall }

/-- 'fairlinklaw25.ReconfigNew', WHERE WHAT IT READS IS OF BULK AT MOST 1048576: true; the input reads as it did. -/
def reconfigNewUptoRow : OpenClaim := { program := "ytibmbhnpmfgclaa", sum := "7e33f31b7ef0004a35e0f5a9889fd6479819790e07375580a62767fa9a80aaad", func := "fairlink/fairlinklaw25.ReconfigNew", spec := "reconfigNew", unfollowed := true, recurses := true, plainKeys := false, apart := false, narrowed := true }
def ReconfigNewUptoSaid : Prop := reconfigNewUptoRow.holds Try.pinned (OpenSpec.upto reconfigNewSpec)

/-- 'fairlinklaw25.ReconfigNil', WHERE WHAT IT READS IS OF BULK AT MOST 1048576: true; the input reads as it did. -/
def reconfigNilUptoRow : OpenClaim := { program := "ytibmbhnpmfgclaa", sum := "7e33f31b7ef0004a35e0f5a9889fd6479819790e07375580a62767fa9a80aaad", func := "fairlink/fairlinklaw25.ReconfigNil", spec := "reconfigNil", plainKeys := false, apart := false, narrowed := true }
def ReconfigNilUptoSaid : Prop := reconfigNilUptoRow.holds Try.pinned (OpenSpec.upto reconfigNilSpec)

/-- 'fairlinklaw25.ReconfigRuns', WHERE WHAT IT READS IS OF BULK AT MOST 1048576: true; the input reads as it did. -/
def reconfigRunsUptoRow : OpenClaim := { program := "ytibmbhnpmfgclaa", sum := "7e33f31b7ef0004a35e0f5a9889fd6479819790e07375580a62767fa9a80aaad", func := "fairlink/fairlinklaw25.ReconfigRuns", spec := "reconfigRuns", unfollowed := true, recurses := true, plainKeys := false, apart := false, narrowed := true }
def ReconfigRunsUptoSaid : Prop := reconfigRunsUptoRow.holds Try.pinned (OpenSpec.upto reconfigRunsSpec)

/-- 'fairlinklaw25.ReconfigStale', WHERE WHAT IT READS IS OF BULK AT MOST 1048576: true; the input reads as it did. -/
def reconfigStaleUptoRow : OpenClaim := { program := "ytibmbhnpmfgclaa", sum := "7e33f31b7ef0004a35e0f5a9889fd6479819790e07375580a62767fa9a80aaad", func := "fairlink/fairlinklaw25.ReconfigStale", spec := "reconfigStale", plainKeys := false, apart := false, narrowed := true }
def ReconfigStaleUptoSaid : Prop := reconfigStaleUptoRow.holds Try.pinned (OpenSpec.upto reconfigStaleSpec)

/-- 'fairlinklaw25.ReconfigAgrees', WHERE WHAT IT READS IS OF BULK AT MOST 1048576: true; the input reads as it did. -/
def reconfigAgreesUptoRow : OpenClaim := { program := "ytibmbhnpmfgclaa", sum := "7e33f31b7ef0004a35e0f5a9889fd6479819790e07375580a62767fa9a80aaad", func := "fairlink/fairlinklaw25.ReconfigAgrees", spec := "reconfigAgrees", plainKeys := false, apart := false, narrowed := true }
def ReconfigAgreesUptoSaid : Prop := reconfigAgreesUptoRow.holds Try.pinned (OpenSpec.upto reconfigAgreesSpec)

/-- 'fairlinklaw25.ReconfigFinishes', WHERE WHAT IT READS IS OF BULK AT MOST 1048576: true; the input reads as it did. -/
def reconfigFinishesUptoRow : OpenClaim := { program := "ytibmbhnpmfgclaa", sum := "7e33f31b7ef0004a35e0f5a9889fd6479819790e07375580a62767fa9a80aaad", func := "fairlink/fairlinklaw25.ReconfigFinishes", spec := "reconfigFinishes", plainKeys := false, apart := false, narrowed := true }
def ReconfigFinishesUptoSaid : Prop := reconfigFinishesUptoRow.holds Try.pinned (OpenSpec.upto reconfigFinishesSpec)

/-- 'fairlinklaw25.ReconfigClose', WHERE WHAT IT READS IS OF BULK AT MOST 1048576: true; the input reads as it did. -/
def reconfigCloseUptoRow : OpenClaim := { program := "ytibmbhnpmfgclaa", sum := "7e33f31b7ef0004a35e0f5a9889fd6479819790e07375580a62767fa9a80aaad", func := "fairlink/fairlinklaw25.ReconfigClose", spec := "reconfigClose", plainKeys := false, apart := false, narrowed := true }
def ReconfigCloseUptoSaid : Prop := reconfigCloseUptoRow.holds Try.pinned (OpenSpec.upto reconfigCloseSpec)

end Rows
end Go.Proofs.Ytibmbhnpmfgclaa
