/-
  No cell of these rows narrows 'for every input' (looked for: loops, veiled, ifaces, maps, wideKeys, modest, calm, conditions, laid).
  DERIVED. THE GIVEN ROWS OF THIS SEAT. 8 by the template 'for every input the law returns true; each argument reads behind the call as it read before'; 0 by the template 'total and deterministic' (their statements: YtdhajibegkkeiaaTotals.lean).
  GIVEN WITH THE SEED: the statements are not yours to turn. If you find one false, say at which input.
  Laid BY PROGRAM, IN A SANDBOX (cutbox-rows.mjs): the forced cells as the released guide's own fill.sh prints them over the translation 3456d06bda47a9b9… (all of the seat's roots in one cut). By AI agents, Wed Nov 11 2026. No macro, syntax, notation, axiom, sorry.
-/
import Derived.Test.YtdhajibegkkeiaaChecked
import GoSem.Claim
import GoSem.ClaimJoined
import GoSem.ClaimMapViews
import Derived.JoinedTies
import Derived.KernelRfl
namespace Go.Proofs.Ytdhajibegkkeiaa
/- THE CELL 'sum', in the pinned program and in every row, IS THE sha256 OF THE DUMP (.gsa) THAT YtdhajibegkkeiaaProg.lean LOADS. Nothing in Lean hashes anything: it is a label: what it is worth is what the hold of that sum in a sandbox is worth. -/
noncomputable def Try.pinned : Pinned := { name := "ytdhajibegkkeiaa", sum := "3456d06bda47a9b94d9e998dae5442545bf54d7217ac0c1c92aae2bebba61db5", checked := Try.checked }
namespace Rows
def none {H : Type} : Left H := { results := [], args := [] }

/-- 'fairlinklaw42.SegmentCodes': WHATEVER THE INPUT: true; the input reads as it did. -/
def segmentCodesSpec : ChangeSpec := { name := "segmentCodes", fn := fun _ => fun
  | [d] => { results := [.lit (.bool true)], args := [d] }
  | _ => none }
def segmentCodesRow : OpenClaim := { program := "ytdhajibegkkeiaa", sum := "3456d06bda47a9b94d9e998dae5442545bf54d7217ac0c1c92aae2bebba61db5", func := "fairlink/fairlinklaw42.SegmentCodes", spec := "segmentCodes", apart := false }
def SegmentCodesSaid : Prop := segmentCodesRow.holds Try.pinned (OpenSpec.ofChange segmentCodesSpec)

/-- ITS FALSE NEIGHBOUR: 'it returns false'. Refute it at one input. -/
def segmentCodesWrong : ChangeSpec := { name := "segmentCodes", fn := fun _ => fun
  | [d] => { results := [.lit (.bool false)], args := [d] }
  | _ => none }
def SegmentCodesWrongFalsely : Prop := segmentCodesRow.holds Try.pinned (OpenSpec.ofChange segmentCodesWrong)

/-- 'fairlinklaw42.SegmentSplits': WHATEVER THE INPUT: true; the input reads as it did. -/
def segmentSplitsSpec : ChangeSpec := { name := "segmentSplits", fn := fun _ => fun
  | [d1, d2, d3, d4] => { results := [.lit (.bool true)], args := [d1, d2, d3, d4] }
  | _ => none }
def segmentSplitsRow : OpenClaim := { program := "ytdhajibegkkeiaa", sum := "3456d06bda47a9b94d9e998dae5442545bf54d7217ac0c1c92aae2bebba61db5", func := "fairlink/fairlinklaw42.SegmentSplits", spec := "segmentSplits", unfollowed := true, recurses := true, apart := false }
def SegmentSplitsSaid : Prop := segmentSplitsRow.holds Try.pinned (OpenSpec.ofChange segmentSplitsSpec)

/-- ITS FALSE NEIGHBOUR: 'it returns false'. Refute it at one input. -/
def segmentSplitsWrong : ChangeSpec := { name := "segmentSplits", fn := fun _ => fun
  | [d1, d2, d3, d4] => { results := [.lit (.bool false)], args := [d1, d2, d3, d4] }
  | _ => none }
def SegmentSplitsWrongFalsely : Prop := segmentSplitsRow.holds Try.pinned (OpenSpec.ofChange segmentSplitsWrong)

/-- 'fairlinklaw42.SegmentJoins': WHATEVER THE INPUT: true; the input reads as it did. -/
def segmentJoinsSpec : ChangeSpec := { name := "segmentJoins", fn := fun _ => fun
  | [d1, d2] => { results := [.lit (.bool true)], args := [d1, d2] }
  | _ => none }
def segmentJoinsRow : OpenClaim := { program := "ytdhajibegkkeiaa", sum := "3456d06bda47a9b94d9e998dae5442545bf54d7217ac0c1c92aae2bebba61db5", func := "fairlink/fairlinklaw42.SegmentJoins", spec := "segmentJoins", apart := false }
def SegmentJoinsSaid : Prop := segmentJoinsRow.holds Try.pinned (OpenSpec.ofChange segmentJoinsSpec)

/-- ITS FALSE NEIGHBOUR: 'it returns false'. Refute it at one input. -/
def segmentJoinsWrong : ChangeSpec := { name := "segmentJoins", fn := fun _ => fun
  | [d1, d2] => { results := [.lit (.bool false)], args := [d1, d2] }
  | _ => none }
def SegmentJoinsWrongFalsely : Prop := segmentJoinsRow.holds Try.pinned (OpenSpec.ofChange segmentJoinsWrong)

/-- 'fairlinklaw42.SegmentBack': WHATEVER THE INPUT: true; the input reads as it did. -/
def segmentBackSpec : ChangeSpec := { name := "segmentBack", fn := fun _ => fun
  | [d1, d2, d3, d4, d5] => { results := [.lit (.bool true)], args := [d1, d2, d3, d4, d5] }
  | _ => none }
def segmentBackRow : OpenClaim := { program := "ytdhajibegkkeiaa", sum := "3456d06bda47a9b94d9e998dae5442545bf54d7217ac0c1c92aae2bebba61db5", func := "fairlink/fairlinklaw42.SegmentBack", spec := "segmentBack", apart := false }
def SegmentBackSaid : Prop := segmentBackRow.holds Try.pinned (OpenSpec.ofChange segmentBackSpec)

/-- ITS FALSE NEIGHBOUR: 'it returns false'. Refute it at one input. -/
def segmentBackWrong : ChangeSpec := { name := "segmentBack", fn := fun _ => fun
  | [d1, d2, d3, d4, d5] => { results := [.lit (.bool false)], args := [d1, d2, d3, d4, d5] }
  | _ => none }
def SegmentBackWrongFalsely : Prop := segmentBackRow.holds Try.pinned (OpenSpec.ofChange segmentBackWrong)

/-- 'fairlinklaw42.SegmentSpoils': WHATEVER THE INPUT: true; the input reads as it did. -/
def segmentSpoilsSpec : ChangeSpec := { name := "segmentSpoils", fn := fun _ => fun
  | [d1, d2, d3] => { results := [.lit (.bool true)], args := [d1, d2, d3] }
  | _ => none }
def segmentSpoilsRow : OpenClaim := { program := "ytdhajibegkkeiaa", sum := "3456d06bda47a9b94d9e998dae5442545bf54d7217ac0c1c92aae2bebba61db5", func := "fairlink/fairlinklaw42.SegmentSpoils", spec := "segmentSpoils", apart := false }
def SegmentSpoilsSaid : Prop := segmentSpoilsRow.holds Try.pinned (OpenSpec.ofChange segmentSpoilsSpec)

/-- ITS FALSE NEIGHBOUR: 'it returns false'. Refute it at one input. -/
def segmentSpoilsWrong : ChangeSpec := { name := "segmentSpoils", fn := fun _ => fun
  | [d1, d2, d3] => { results := [.lit (.bool false)], args := [d1, d2, d3] }
  | _ => none }
def SegmentSpoilsWrongFalsely : Prop := segmentSpoilsRow.holds Try.pinned (OpenSpec.ofChange segmentSpoilsWrong)

/-- 'fairlinklaw42.SegmentCuts': WHATEVER THE INPUT: true; the input reads as it did. -/
def segmentCutsSpec : ChangeSpec := { name := "segmentCuts", fn := fun _ => fun
  | [d1, d2] => { results := [.lit (.bool true)], args := [d1, d2] }
  | _ => none }
def segmentCutsRow : OpenClaim := { program := "ytdhajibegkkeiaa", sum := "3456d06bda47a9b94d9e998dae5442545bf54d7217ac0c1c92aae2bebba61db5", func := "fairlink/fairlinklaw42.SegmentCuts", spec := "segmentCuts", apart := false }
def SegmentCutsSaid : Prop := segmentCutsRow.holds Try.pinned (OpenSpec.ofChange segmentCutsSpec)

/-- ITS FALSE NEIGHBOUR: 'it returns false'. Refute it at one input. -/
def segmentCutsWrong : ChangeSpec := { name := "segmentCuts", fn := fun _ => fun
  | [d1, d2] => { results := [.lit (.bool false)], args := [d1, d2] }
  | _ => none }
def SegmentCutsWrongFalsely : Prop := segmentCutsRow.holds Try.pinned (OpenSpec.ofChange segmentCutsWrong)

/-- 'fairlinklaw42.SegmentPieces': WHATEVER THE INPUT: true; the input reads as it did. -/
def segmentPiecesSpec : ChangeSpec := { name := "segmentPieces", fn := fun _ => fun
  | [d1, d2, d3] => { results := [.lit (.bool true)], args := [d1, d2, d3] }
  | _ => none }
def segmentPiecesRow : OpenClaim := { program := "ytdhajibegkkeiaa", sum := "3456d06bda47a9b94d9e998dae5442545bf54d7217ac0c1c92aae2bebba61db5", func := "fairlink/fairlinklaw42.SegmentPieces", spec := "segmentPieces", apart := false }
def SegmentPiecesSaid : Prop := segmentPiecesRow.holds Try.pinned (OpenSpec.ofChange segmentPiecesSpec)

/-- ITS FALSE NEIGHBOUR: 'it returns false'. Refute it at one input. -/
def segmentPiecesWrong : ChangeSpec := { name := "segmentPieces", fn := fun _ => fun
  | [d1, d2, d3] => { results := [.lit (.bool false)], args := [d1, d2, d3] }
  | _ => none }
def SegmentPiecesWrongFalsely : Prop := segmentPiecesRow.holds Try.pinned (OpenSpec.ofChange segmentPiecesWrong)

/-- 'fairlinklaw42.SegmentOwns': WHATEVER THE INPUT: true; the input reads as it did. -/
def segmentOwnsSpec : ChangeSpec := { name := "segmentOwns", fn := fun _ => fun
  | [d1, d2] => { results := [.lit (.bool true)], args := [d1, d2] }
  | _ => none }
def segmentOwnsRow : OpenClaim := { program := "ytdhajibegkkeiaa", sum := "3456d06bda47a9b94d9e998dae5442545bf54d7217ac0c1c92aae2bebba61db5", func := "fairlink/fairlinklaw42.SegmentOwns", spec := "segmentOwns", apart := false }
def SegmentOwnsSaid : Prop := segmentOwnsRow.holds Try.pinned (OpenSpec.ofChange segmentOwnsSpec)

/-- ITS FALSE NEIGHBOUR: 'it returns false'. Refute it at one input. -/
def segmentOwnsWrong : ChangeSpec := { name := "segmentOwns", fn := fun _ => fun
  | [d1, d2] => { results := [.lit (.bool false)], args := [d1, d2] }
  | _ => none }
def SegmentOwnsWrongFalsely : Prop := segmentOwnsRow.holds Try.pinned (OpenSpec.ofChange segmentOwnsWrong)

/- THE SECOND FORM. 'bulk': how many values and letters a reading holds, each counted each time it is reached (what is shared counts as often as it is met; a slice's spare places count too). A statement '..UptoSaid' is the law's where the arguments, and the package variables that the reading takes, are together of bulk at most 1048576: NARROWER than '..Said'. Prove '..Said' where nothing that the law and all that it calls make is longer than what came in: it says more and counts as full. Else prove '..UptoSaid'. A law counts once. -/
mutual
def uptoBulk {H : Type} : DataW H → Nat
  | .lit (.string bytes) => bytes.length + 1
  | .lit _ => 1
  | .nil => 1
  | .ptr d => uptoBulk d + 1
  | .slice elems spare => uptoBulkAll elems + uptoBulkAll spare + 1
  | .agg parts => uptoBulkAll parts + 1
  | .iface _ d => uptoBulk d + 1
  | .map entries => uptoBulkEntries entries + 1
  | .held _ => 1
def uptoBulkAll {H : Type} : List (DataW H) → Nat
  | [] => 0
  | d :: r => uptoBulk d + uptoBulkAll r
def uptoBulkEntries {H : Type} : List (Lit × DataW H) → Nat
  | [] => 0
  | x :: r => uptoBulkEntry x + uptoBulkEntries r
def uptoBulkEntry {H : Type} : Lit × DataW H → Nat
  | (.string bytes, d) => bytes.length + uptoBulk d + 1
  | (_, d) => uptoBulk d + 1
 end
def uptoSmall : (H : Type) → List (DataW H) → Bool := fun _ ds => decide (uptoBulkAll ds ≤ 1048576)
def OpenSpec.upto (s : _root_.Go.ChangeSpec) : _root_.Go.OpenSpec := { _root_.Go.OpenSpec.ofChange s with cond := some uptoSmall }

/-- 'fairlinklaw42.SegmentCodes', WHERE WHAT IT READS IS OF BULK AT MOST 1048576: true; the input reads as it did. -/
def segmentCodesUptoRow : OpenClaim := { program := "ytdhajibegkkeiaa", sum := "3456d06bda47a9b94d9e998dae5442545bf54d7217ac0c1c92aae2bebba61db5", func := "fairlink/fairlinklaw42.SegmentCodes", spec := "segmentCodes", apart := false, narrowed := true }
def SegmentCodesUptoSaid : Prop := segmentCodesUptoRow.holds Try.pinned (OpenSpec.upto segmentCodesSpec)

/-- 'fairlinklaw42.SegmentSplits', WHERE WHAT IT READS IS OF BULK AT MOST 1048576: true; the input reads as it did. -/
def segmentSplitsUptoRow : OpenClaim := { program := "ytdhajibegkkeiaa", sum := "3456d06bda47a9b94d9e998dae5442545bf54d7217ac0c1c92aae2bebba61db5", func := "fairlink/fairlinklaw42.SegmentSplits", spec := "segmentSplits", unfollowed := true, recurses := true, apart := false, narrowed := true }
def SegmentSplitsUptoSaid : Prop := segmentSplitsUptoRow.holds Try.pinned (OpenSpec.upto segmentSplitsSpec)

/-- 'fairlinklaw42.SegmentJoins', WHERE WHAT IT READS IS OF BULK AT MOST 1048576: true; the input reads as it did. -/
def segmentJoinsUptoRow : OpenClaim := { program := "ytdhajibegkkeiaa", sum := "3456d06bda47a9b94d9e998dae5442545bf54d7217ac0c1c92aae2bebba61db5", func := "fairlink/fairlinklaw42.SegmentJoins", spec := "segmentJoins", apart := false, narrowed := true }
def SegmentJoinsUptoSaid : Prop := segmentJoinsUptoRow.holds Try.pinned (OpenSpec.upto segmentJoinsSpec)

/-- 'fairlinklaw42.SegmentBack', WHERE WHAT IT READS IS OF BULK AT MOST 1048576: true; the input reads as it did. -/
def segmentBackUptoRow : OpenClaim := { program := "ytdhajibegkkeiaa", sum := "3456d06bda47a9b94d9e998dae5442545bf54d7217ac0c1c92aae2bebba61db5", func := "fairlink/fairlinklaw42.SegmentBack", spec := "segmentBack", apart := false, narrowed := true }
def SegmentBackUptoSaid : Prop := segmentBackUptoRow.holds Try.pinned (OpenSpec.upto segmentBackSpec)

/-- 'fairlinklaw42.SegmentSpoils', WHERE WHAT IT READS IS OF BULK AT MOST 1048576: true; the input reads as it did. -/
def segmentSpoilsUptoRow : OpenClaim := { program := "ytdhajibegkkeiaa", sum := "3456d06bda47a9b94d9e998dae5442545bf54d7217ac0c1c92aae2bebba61db5", func := "fairlink/fairlinklaw42.SegmentSpoils", spec := "segmentSpoils", apart := false, narrowed := true }
def SegmentSpoilsUptoSaid : Prop := segmentSpoilsUptoRow.holds Try.pinned (OpenSpec.upto segmentSpoilsSpec)

/-- 'fairlinklaw42.SegmentCuts', WHERE WHAT IT READS IS OF BULK AT MOST 1048576: true; the input reads as it did. -/
def segmentCutsUptoRow : OpenClaim := { program := "ytdhajibegkkeiaa", sum := "3456d06bda47a9b94d9e998dae5442545bf54d7217ac0c1c92aae2bebba61db5", func := "fairlink/fairlinklaw42.SegmentCuts", spec := "segmentCuts", apart := false, narrowed := true }
def SegmentCutsUptoSaid : Prop := segmentCutsUptoRow.holds Try.pinned (OpenSpec.upto segmentCutsSpec)

/-- 'fairlinklaw42.SegmentPieces', WHERE WHAT IT READS IS OF BULK AT MOST 1048576: true; the input reads as it did. -/
def segmentPiecesUptoRow : OpenClaim := { program := "ytdhajibegkkeiaa", sum := "3456d06bda47a9b94d9e998dae5442545bf54d7217ac0c1c92aae2bebba61db5", func := "fairlink/fairlinklaw42.SegmentPieces", spec := "segmentPieces", apart := false, narrowed := true }
def SegmentPiecesUptoSaid : Prop := segmentPiecesUptoRow.holds Try.pinned (OpenSpec.upto segmentPiecesSpec)

/-- 'fairlinklaw42.SegmentOwns', WHERE WHAT IT READS IS OF BULK AT MOST 1048576: true; the input reads as it did. -/
def segmentOwnsUptoRow : OpenClaim := { program := "ytdhajibegkkeiaa", sum := "3456d06bda47a9b94d9e998dae5442545bf54d7217ac0c1c92aae2bebba61db5", func := "fairlink/fairlinklaw42.SegmentOwns", spec := "segmentOwns", apart := false, narrowed := true }
def SegmentOwnsUptoSaid : Prop := segmentOwnsUptoRow.holds Try.pinned (OpenSpec.upto segmentOwnsSpec)

end Rows
end Go.Proofs.Ytdhajibegkkeiaa
