/-
  No cell of these rows narrows 'for every input' (looked for: loops, veiled, ifaces, maps, wideKeys, modest, calm, conditions, laid).
  DERIVED. THE GIVEN ROWS OF THIS SEAT. 8 by the template 'for every input the law returns true; each argument reads behind the call as it read before'; 0 by the template 'total and deterministic' (their statements: YtckigonkcjceeaaTotals.lean).
  GIVEN WITH THE SEED: the statements are not yours to turn. If you find one false, say at which input.
  Laid BY PROGRAM, IN A SANDBOX (cutbox-rows.mjs): the forced cells as the released guide's own fill.sh prints them over the translation 301f8d13b8579e7a… (all of the seat's roots in one cut). By AI agents, Wed Nov 11 2026. No macro, syntax, notation, axiom, sorry.
-/
import Derived.Test.YtckigonkcjceeaaChecked
import GoSem.Claim
import GoSem.ClaimJoined
import GoSem.ClaimMapViews
import Derived.JoinedTies
import Derived.KernelRfl
namespace Go.Proofs.Ytckigonkcjceeaa
/- THE CELL 'sum', in the pinned program and in every row, IS THE sha256 OF THE DUMP (.gsa) THAT YtckigonkcjceeaaProg.lean LOADS. Nothing in Lean hashes anything: it is a label: what it is worth is what the hold of that sum in a sandbox is worth. -/
noncomputable def Try.pinned : Pinned := { name := "ytckigonkcjceeaa", sum := "301f8d13b8579e7a4c638b634a9b09c2d18cf1eaaafc7aed41ea4de0281355c5", checked := Try.checked }
namespace Rows
def none {H : Type} : Left H := { results := [], args := [] }

/-- 'fairlinklaw16.ElectionOrder': WHATEVER THE INPUT: true; the input reads as it did. -/
def electionOrderSpec : ChangeSpec := { name := "electionOrder", fn := fun _ => fun
  | [d1, d2, d3] => { results := [.lit (.bool true)], args := [d1, d2, d3] }
  | _ => none }
def electionOrderRow : OpenClaim := { program := "ytckigonkcjceeaa", sum := "301f8d13b8579e7a4c638b634a9b09c2d18cf1eaaafc7aed41ea4de0281355c5", func := "fairlink/fairlinklaw16.ElectionOrder", spec := "electionOrder", unfollowed := true, recurses := true, plainKeys := false, apart := false }
def ElectionOrderSaid : Prop := electionOrderRow.holds Try.pinned (OpenSpec.ofChange electionOrderSpec)

/-- ITS FALSE NEIGHBOUR: 'it returns false'. Refute it at one input. -/
def electionOrderWrong : ChangeSpec := { name := "electionOrder", fn := fun _ => fun
  | [d1, d2, d3] => { results := [.lit (.bool false)], args := [d1, d2, d3] }
  | _ => none }
def ElectionOrderWrongFalsely : Prop := electionOrderRow.holds Try.pinned (OpenSpec.ofChange electionOrderWrong)

/-- 'fairlinklaw16.ElectionCuts': WHATEVER THE INPUT: true; the input reads as it did. -/
def electionCutsSpec : ChangeSpec := { name := "electionCuts", fn := fun _ => fun
  | [d1, d2, d3] => { results := [.lit (.bool true)], args := [d1, d2, d3] }
  | _ => none }
def electionCutsRow : OpenClaim := { program := "ytckigonkcjceeaa", sum := "301f8d13b8579e7a4c638b634a9b09c2d18cf1eaaafc7aed41ea4de0281355c5", func := "fairlink/fairlinklaw16.ElectionCuts", spec := "electionCuts", unfollowed := true, recurses := true, plainKeys := false, apart := false }
def ElectionCutsSaid : Prop := electionCutsRow.holds Try.pinned (OpenSpec.ofChange electionCutsSpec)

/-- ITS FALSE NEIGHBOUR: 'it returns false'. Refute it at one input. -/
def electionCutsWrong : ChangeSpec := { name := "electionCuts", fn := fun _ => fun
  | [d1, d2, d3] => { results := [.lit (.bool false)], args := [d1, d2, d3] }
  | _ => none }
def ElectionCutsWrongFalsely : Prop := electionCutsRow.holds Try.pinned (OpenSpec.ofChange electionCutsWrong)

/-- 'fairlinklaw16.ElectionRuns': WHATEVER THE INPUT: true; the input reads as it did. -/
def electionRunsSpec : ChangeSpec := { name := "electionRuns", fn := fun _ => fun
  | [d1, d2, d3, d4] => { results := [.lit (.bool true)], args := [d1, d2, d3, d4] }
  | _ => none }
def electionRunsRow : OpenClaim := { program := "ytckigonkcjceeaa", sum := "301f8d13b8579e7a4c638b634a9b09c2d18cf1eaaafc7aed41ea4de0281355c5", func := "fairlink/fairlinklaw16.ElectionRuns", spec := "electionRuns", unfollowed := true, recurses := true, plainKeys := false, apart := false }
def ElectionRunsSaid : Prop := electionRunsRow.holds Try.pinned (OpenSpec.ofChange electionRunsSpec)

/-- ITS FALSE NEIGHBOUR: 'it returns false'. Refute it at one input. -/
def electionRunsWrong : ChangeSpec := { name := "electionRuns", fn := fun _ => fun
  | [d1, d2, d3, d4] => { results := [.lit (.bool false)], args := [d1, d2, d3, d4] }
  | _ => none }
def ElectionRunsWrongFalsely : Prop := electionRunsRow.holds Try.pinned (OpenSpec.ofChange electionRunsWrong)

/-- 'fairlinklaw16.ElectionRounds': WHATEVER THE INPUT: true; the input reads as it did. -/
def electionRoundsSpec : ChangeSpec := { name := "electionRounds", fn := fun _ => fun
  | [d1, d2, d3] => { results := [.lit (.bool true)], args := [d1, d2, d3] }
  | _ => none }
def electionRoundsRow : OpenClaim := { program := "ytckigonkcjceeaa", sum := "301f8d13b8579e7a4c638b634a9b09c2d18cf1eaaafc7aed41ea4de0281355c5", func := "fairlink/fairlinklaw16.ElectionRounds", spec := "electionRounds", unfollowed := true, recurses := true, plainKeys := false, apart := false }
def ElectionRoundsSaid : Prop := electionRoundsRow.holds Try.pinned (OpenSpec.ofChange electionRoundsSpec)

/-- ITS FALSE NEIGHBOUR: 'it returns false'. Refute it at one input. -/
def electionRoundsWrong : ChangeSpec := { name := "electionRounds", fn := fun _ => fun
  | [d1, d2, d3] => { results := [.lit (.bool false)], args := [d1, d2, d3] }
  | _ => none }
def ElectionRoundsWrongFalsely : Prop := electionRoundsRow.holds Try.pinned (OpenSpec.ofChange electionRoundsWrong)

/-- 'fairlinklaw16.ElectionGhosts': WHATEVER THE INPUT: true; the input reads as it did. -/
def electionGhostsSpec : ChangeSpec := { name := "electionGhosts", fn := fun _ => fun
  | [d1, d2, d3] => { results := [.lit (.bool true)], args := [d1, d2, d3] }
  | _ => none }
def electionGhostsRow : OpenClaim := { program := "ytckigonkcjceeaa", sum := "301f8d13b8579e7a4c638b634a9b09c2d18cf1eaaafc7aed41ea4de0281355c5", func := "fairlink/fairlinklaw16.ElectionGhosts", spec := "electionGhosts", unfollowed := true, recurses := true, plainKeys := false, apart := false }
def ElectionGhostsSaid : Prop := electionGhostsRow.holds Try.pinned (OpenSpec.ofChange electionGhostsSpec)

/-- ITS FALSE NEIGHBOUR: 'it returns false'. Refute it at one input. -/
def electionGhostsWrong : ChangeSpec := { name := "electionGhosts", fn := fun _ => fun
  | [d1, d2, d3] => { results := [.lit (.bool false)], args := [d1, d2, d3] }
  | _ => none }
def ElectionGhostsWrongFalsely : Prop := electionGhostsRow.holds Try.pinned (OpenSpec.ofChange electionGhostsWrong)

/-- 'fairlinklaw16.ElectionTrees': WHATEVER THE INPUT: true; the input reads as it did. -/
def electionTreesSpec : ChangeSpec := { name := "electionTrees", fn := fun _ => fun
  | [d1, d2, d3] => { results := [.lit (.bool true)], args := [d1, d2, d3] }
  | _ => none }
def electionTreesRow : OpenClaim := { program := "ytckigonkcjceeaa", sum := "301f8d13b8579e7a4c638b634a9b09c2d18cf1eaaafc7aed41ea4de0281355c5", func := "fairlink/fairlinklaw16.ElectionTrees", spec := "electionTrees", unfollowed := true, recurses := true, plainKeys := false, apart := false }
def ElectionTreesSaid : Prop := electionTreesRow.holds Try.pinned (OpenSpec.ofChange electionTreesSpec)

/-- ITS FALSE NEIGHBOUR: 'it returns false'. Refute it at one input. -/
def electionTreesWrong : ChangeSpec := { name := "electionTrees", fn := fun _ => fun
  | [d1, d2, d3] => { results := [.lit (.bool false)], args := [d1, d2, d3] }
  | _ => none }
def ElectionTreesWrongFalsely : Prop := electionTreesRow.holds Try.pinned (OpenSpec.ofChange electionTreesWrong)

/-- 'fairlinklaw16.ElectionLocal': WHATEVER THE INPUT: true; the input reads as it did. -/
def electionLocalSpec : ChangeSpec := { name := "electionLocal", fn := fun _ => fun
  | [d1, d2, d3, d4, d5] => { results := [.lit (.bool true)], args := [d1, d2, d3, d4, d5] }
  | _ => none }
def electionLocalRow : OpenClaim := { program := "ytckigonkcjceeaa", sum := "301f8d13b8579e7a4c638b634a9b09c2d18cf1eaaafc7aed41ea4de0281355c5", func := "fairlink/fairlinklaw16.ElectionLocal", spec := "electionLocal", unfollowed := true, recurses := true, plainKeys := false, apart := false }
def ElectionLocalSaid : Prop := electionLocalRow.holds Try.pinned (OpenSpec.ofChange electionLocalSpec)

/-- ITS FALSE NEIGHBOUR: 'it returns false'. Refute it at one input. -/
def electionLocalWrong : ChangeSpec := { name := "electionLocal", fn := fun _ => fun
  | [d1, d2, d3, d4, d5] => { results := [.lit (.bool false)], args := [d1, d2, d3, d4, d5] }
  | _ => none }
def ElectionLocalWrongFalsely : Prop := electionLocalRow.holds Try.pinned (OpenSpec.ofChange electionLocalWrong)

/-- 'fairlinklaw16.ElectionStabilizes': WHATEVER THE INPUT: true; the input reads as it did. -/
def electionStabilizesSpec : ChangeSpec := { name := "electionStabilizes", fn := fun _ => fun
  | [d1, d2, d3] => { results := [.lit (.bool true)], args := [d1, d2, d3] }
  | _ => none }
def electionStabilizesRow : OpenClaim := { program := "ytckigonkcjceeaa", sum := "301f8d13b8579e7a4c638b634a9b09c2d18cf1eaaafc7aed41ea4de0281355c5", func := "fairlink/fairlinklaw16.ElectionStabilizes", spec := "electionStabilizes", unfollowed := true, recurses := true, plainKeys := false, apart := false }
def ElectionStabilizesSaid : Prop := electionStabilizesRow.holds Try.pinned (OpenSpec.ofChange electionStabilizesSpec)

/-- ITS FALSE NEIGHBOUR: 'it returns false'. Refute it at one input. -/
def electionStabilizesWrong : ChangeSpec := { name := "electionStabilizes", fn := fun _ => fun
  | [d1, d2, d3] => { results := [.lit (.bool false)], args := [d1, d2, d3] }
  | _ => none }
def ElectionStabilizesWrongFalsely : Prop := electionStabilizesRow.holds Try.pinned (OpenSpec.ofChange electionStabilizesWrong)

/- THE SECOND FORM. 'bulk': how many values and letters a reading holds, each counted each time it is reached (what is shared counts as often as it is met; a slice's spare places count too). A statement '..UptoSaid' is the law's where the arguments, and the package variables that the reading takes, are together of bulk at most 1048576: NARROWER than '..Said'. Prove '..Said' where nothing that the law and all that it calls make is longer than what came in: it says more and counts as full. Else prove '..UptoSaid'. A law counts once. -/
mutual
def uptoBulk {H : Type} : DataW H → Nat
  | .lit (.string bytes) => bytes.length + 1
  | .lit _ => 1
  | .nil => 1
  | .ptr d => uptoBulk d + 1
  | .slice elems spare => uptoBulkAll elems + uptoBulkAll spare + 1
  | .agg parts => uptoBulkAll parts + 1
  | .iface _ d => uptoBulk d + 1
  | .map entries => uptoBulkEntries entries + 1
  | .held _ => 1
def uptoBulkAll {H : Type} : List (DataW H) → Nat
  | [] => 0
  | d :: r => uptoBulk d + uptoBulkAll r
def uptoBulkEntries {H : Type} : List (Lit × DataW H) → Nat
  | [] => 0
  | x :: r => uptoBulkEntry x + uptoBulkEntries r
def uptoBulkEntry {H : Type} : Lit × DataW H → Nat
  | (.string bytes, d) => bytes.length + uptoBulk d + 1
  | (_, d) => uptoBulk d + 1
 end
def uptoSmall : (H : Type) → List (DataW H) → Bool := fun _ ds => decide (uptoBulkAll ds ≤ 1048576)
def OpenSpec.upto (s : _root_.Go.ChangeSpec) : _root_.Go.OpenSpec := { _root_.Go.OpenSpec.ofChange s with cond := some uptoSmall }

/-- 'fairlinklaw16.ElectionOrder', WHERE WHAT IT READS IS OF BULK AT MOST 1048576: true; the input reads as it did. -/
def electionOrderUptoRow : OpenClaim := { program := "ytckigonkcjceeaa", sum := "301f8d13b8579e7a4c638b634a9b09c2d18cf1eaaafc7aed41ea4de0281355c5", func := "fairlink/fairlinklaw16.ElectionOrder", spec := "electionOrder", unfollowed := true, recurses := true, plainKeys := false, apart := false, narrowed := true }
def ElectionOrderUptoSaid : Prop := electionOrderUptoRow.holds Try.pinned (OpenSpec.upto electionOrderSpec)

/-- 'fairlinklaw16.ElectionCuts', WHERE WHAT IT READS IS OF BULK AT MOST 1048576: true; the input reads as it did. -/
def electionCutsUptoRow : OpenClaim := { program := "ytckigonkcjceeaa", sum := "301f8d13b8579e7a4c638b634a9b09c2d18cf1eaaafc7aed41ea4de0281355c5", func := "fairlink/fairlinklaw16.ElectionCuts", spec := "electionCuts", unfollowed := true, recurses := true, plainKeys := false, apart := false, narrowed := true }
def ElectionCutsUptoSaid : Prop := electionCutsUptoRow.holds Try.pinned (OpenSpec.upto electionCutsSpec)

/-- 'fairlinklaw16.ElectionRuns', WHERE WHAT IT READS IS OF BULK AT MOST 1048576: true; the input reads as it did. -/
def electionRunsUptoRow : OpenClaim := { program := "ytckigonkcjceeaa", sum := "301f8d13b8579e7a4c638b634a9b09c2d18cf1eaaafc7aed41ea4de0281355c5", func := "fairlink/fairlinklaw16.ElectionRuns", spec := "electionRuns", unfollowed := true, recurses := true, plainKeys := false, apart := false, narrowed := true }
def ElectionRunsUptoSaid : Prop := electionRunsUptoRow.holds Try.pinned (OpenSpec.upto electionRunsSpec)

/-- 'fairlinklaw16.ElectionRounds', WHERE WHAT IT READS IS OF BULK AT MOST 1048576: true; the input reads as it did. -/
def electionRoundsUptoRow : OpenClaim := { program := "ytckigonkcjceeaa", sum := "301f8d13b8579e7a4c638b634a9b09c2d18cf1eaaafc7aed41ea4de0281355c5", func := "fairlink/fairlinklaw16.ElectionRounds", spec := "electionRounds", unfollowed := true, recurses := true, plainKeys := false, apart := false, narrowed := true }
def ElectionRoundsUptoSaid : Prop := electionRoundsUptoRow.holds Try.pinned (OpenSpec.upto electionRoundsSpec)

/-- 'fairlinklaw16.ElectionGhosts', WHERE WHAT IT READS IS OF BULK AT MOST 1048576: true; the input reads as it did. -/
def electionGhostsUptoRow : OpenClaim := { program := "ytckigonkcjceeaa", sum := "301f8d13b8579e7a4c638b634a9b09c2d18cf1eaaafc7aed41ea4de0281355c5", func := "fairlink/fairlinklaw16.ElectionGhosts", spec := "electionGhosts", unfollowed := true, recurses := true, plainKeys := false, apart := false, narrowed := true }
def ElectionGhostsUptoSaid : Prop := electionGhostsUptoRow.holds Try.pinned (OpenSpec.upto electionGhostsSpec)

/-- 'fairlinklaw16.ElectionTrees', WHERE WHAT IT READS IS OF BULK AT MOST 1048576: true; the input reads as it did. -/
def electionTreesUptoRow : OpenClaim := { program := "ytckigonkcjceeaa", sum := "301f8d13b8579e7a4c638b634a9b09c2d18cf1eaaafc7aed41ea4de0281355c5", func := "fairlink/fairlinklaw16.ElectionTrees", spec := "electionTrees", unfollowed := true, recurses := true, plainKeys := false, apart := false, narrowed := true }
def ElectionTreesUptoSaid : Prop := electionTreesUptoRow.holds Try.pinned (OpenSpec.upto electionTreesSpec)

/-- 'fairlinklaw16.ElectionLocal', WHERE WHAT IT READS IS OF BULK AT MOST 1048576: true; the input reads as it did. -/
def electionLocalUptoRow : OpenClaim := { program := "ytckigonkcjceeaa", sum := "301f8d13b8579e7a4c638b634a9b09c2d18cf1eaaafc7aed41ea4de0281355c5", func := "fairlink/fairlinklaw16.ElectionLocal", spec := "electionLocal", unfollowed := true, recurses := true, plainKeys := false, apart := false, narrowed := true }
def ElectionLocalUptoSaid : Prop := electionLocalUptoRow.holds Try.pinned (OpenSpec.upto electionLocalSpec)

/-- 'fairlinklaw16.ElectionStabilizes', WHERE WHAT IT READS IS OF BULK AT MOST 1048576: true; the input reads as it did. -/
def electionStabilizesUptoRow : OpenClaim := { program := "ytckigonkcjceeaa", sum := "301f8d13b8579e7a4c638b634a9b09c2d18cf1eaaafc7aed41ea4de0281355c5", func := "fairlink/fairlinklaw16.ElectionStabilizes", spec := "electionStabilizes", unfollowed := true, recurses := true, plainKeys := false, apart := false, narrowed := true }
def ElectionStabilizesUptoSaid : Prop := electionStabilizesUptoRow.holds Try.pinned (OpenSpec.upto electionStabilizesSpec)

end Rows
end Go.Proofs.Ytckigonkcjceeaa
