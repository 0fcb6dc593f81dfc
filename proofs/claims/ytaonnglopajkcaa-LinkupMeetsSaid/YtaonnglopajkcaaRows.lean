/-
  No cell of these rows narrows 'for every input' (looked for: loops, veiled, ifaces, maps, wideKeys, modest, calm, conditions, laid).
  DERIVED. THE GIVEN ROWS OF THIS SEAT. 8 by the template 'for every input the law returns true; each argument reads behind the call as it read before'; 0 by the template 'total and deterministic' (their statements: YtaonnglopajkcaaTotals.lean).
  GIVEN WITH THE SEED: the statements are not yours to turn. If you find one false, say at which input.
  Laid BY PROGRAM, IN A SANDBOX (cutbox-rows.mjs): the forced cells as the released guide's own fill.sh prints them over the translation bd37833052c4440c… (all of the seat's roots in one cut). By AI agents, Wed Nov 11 2026. No macro, syntax, notation, axiom, sorry.
-/
import Derived.Test.YtaonnglopajkcaaChecked
import GoSem.Claim
import GoSem.ClaimJoined
import GoSem.ClaimMapViews
import Derived.JoinedTies
import Derived.KernelRfl
namespace Go.Proofs.Ytaonnglopajkcaa
/- THE CELL 'sum', in the pinned program and in every row, IS THE sha256 OF THE DUMP (.gsa) THAT YtaonnglopajkcaaProg.lean LOADS. Nothing in Lean hashes anything: it is a label: what it is worth is what the hold of that sum in a sandbox is worth. -/
noncomputable def Try.pinned : Pinned := { name := "ytaonnglopajkcaa", sum := "bd37833052c4440c155da490fdb420db9fca583b7c82cb70eb0317c63905bd48", checked := Try.checked }
namespace Rows
def none {H : Type} : Left H := { results := [], args := [] }

/-- 'fairlinklaw08.LinkupTruth': WHATEVER THE INPUT: true; the input reads as it did. -/
def linkupTruthSpec : ChangeSpec := { name := "linkupTruth", fn := fun _ => fun
  | [d1, d2] => { results := [.lit (.bool true)], args := [d1, d2] }
  | _ => none }
def linkupTruthRow : OpenClaim := { program := "ytaonnglopajkcaa", sum := "bd37833052c4440c155da490fdb420db9fca583b7c82cb70eb0317c63905bd48", func := "fairlink/fairlinklaw08.LinkupTruth", spec := "linkupTruth", apart := false }
def LinkupTruthSaid : Prop := linkupTruthRow.holds Try.pinned (OpenSpec.ofChange linkupTruthSpec)

/-- ITS FALSE NEIGHBOUR: 'it returns false'. Refute it at one input. -/
def linkupTruthWrong : ChangeSpec := { name := "linkupTruth", fn := fun _ => fun
  | [d1, d2] => { results := [.lit (.bool false)], args := [d1, d2] }
  | _ => none }
def LinkupTruthWrongFalsely : Prop := linkupTruthRow.holds Try.pinned (OpenSpec.ofChange linkupTruthWrong)

/-- 'fairlinklaw08.LinkupBounds': WHATEVER THE INPUT: true; the input reads as it did. -/
def linkupBoundsSpec : ChangeSpec := { name := "linkupBounds", fn := fun _ => fun
  | [d1, d2] => { results := [.lit (.bool true)], args := [d1, d2] }
  | _ => none }
def linkupBoundsRow : OpenClaim := { program := "ytaonnglopajkcaa", sum := "bd37833052c4440c155da490fdb420db9fca583b7c82cb70eb0317c63905bd48", func := "fairlink/fairlinklaw08.LinkupBounds", spec := "linkupBounds", apart := false }
def LinkupBoundsSaid : Prop := linkupBoundsRow.holds Try.pinned (OpenSpec.ofChange linkupBoundsSpec)

/-- ITS FALSE NEIGHBOUR: 'it returns false'. Refute it at one input. -/
def linkupBoundsWrong : ChangeSpec := { name := "linkupBounds", fn := fun _ => fun
  | [d1, d2] => { results := [.lit (.bool false)], args := [d1, d2] }
  | _ => none }
def LinkupBoundsWrongFalsely : Prop := linkupBoundsRow.holds Try.pinned (OpenSpec.ofChange linkupBoundsWrong)

/-- 'fairlinklaw08.LinkupMeets': WHATEVER THE INPUT: true; the input reads as it did. -/
def linkupMeetsSpec : ChangeSpec := { name := "linkupMeets", fn := fun _ => fun
  | [d1, d2, d3] => { results := [.lit (.bool true)], args := [d1, d2, d3] }
  | _ => none }
def linkupMeetsRow : OpenClaim := { program := "ytaonnglopajkcaa", sum := "bd37833052c4440c155da490fdb420db9fca583b7c82cb70eb0317c63905bd48", func := "fairlink/fairlinklaw08.LinkupMeets", spec := "linkupMeets", apart := false }
def LinkupMeetsSaid : Prop := linkupMeetsRow.holds Try.pinned (OpenSpec.ofChange linkupMeetsSpec)

/-- ITS FALSE NEIGHBOUR: 'it returns false'. Refute it at one input. -/
def linkupMeetsWrong : ChangeSpec := { name := "linkupMeets", fn := fun _ => fun
  | [d1, d2, d3] => { results := [.lit (.bool false)], args := [d1, d2, d3] }
  | _ => none }
def LinkupMeetsWrongFalsely : Prop := linkupMeetsRow.holds Try.pinned (OpenSpec.ofChange linkupMeetsWrong)

/-- 'fairlinklaw08.LinkupStale': WHATEVER THE INPUT: true; the input reads as it did. -/
def linkupStaleSpec : ChangeSpec := { name := "linkupStale", fn := fun _ => fun
  | [d] => { results := [.lit (.bool true)], args := [d] }
  | _ => none }
def linkupStaleRow : OpenClaim := { program := "ytaonnglopajkcaa", sum := "bd37833052c4440c155da490fdb420db9fca583b7c82cb70eb0317c63905bd48", func := "fairlink/fairlinklaw08.LinkupStale", spec := "linkupStale", apart := false }
def LinkupStaleSaid : Prop := linkupStaleRow.holds Try.pinned (OpenSpec.ofChange linkupStaleSpec)

/-- ITS FALSE NEIGHBOUR: 'it returns false'. Refute it at one input. -/
def linkupStaleWrong : ChangeSpec := { name := "linkupStale", fn := fun _ => fun
  | [d] => { results := [.lit (.bool false)], args := [d] }
  | _ => none }
def LinkupStaleWrongFalsely : Prop := linkupStaleRow.holds Try.pinned (OpenSpec.ofChange linkupStaleWrong)

/-- 'fairlinklaw08.LinkupSilence': WHATEVER THE INPUT: true; the input reads as it did. -/
def linkupSilenceSpec : ChangeSpec := { name := "linkupSilence", fn := fun _ => fun
  | [d1, d2] => { results := [.lit (.bool true)], args := [d1, d2] }
  | _ => none }
def linkupSilenceRow : OpenClaim := { program := "ytaonnglopajkcaa", sum := "bd37833052c4440c155da490fdb420db9fca583b7c82cb70eb0317c63905bd48", func := "fairlink/fairlinklaw08.LinkupSilence", spec := "linkupSilence", apart := false }
def LinkupSilenceSaid : Prop := linkupSilenceRow.holds Try.pinned (OpenSpec.ofChange linkupSilenceSpec)

/-- ITS FALSE NEIGHBOUR: 'it returns false'. Refute it at one input. -/
def linkupSilenceWrong : ChangeSpec := { name := "linkupSilence", fn := fun _ => fun
  | [d1, d2] => { results := [.lit (.bool false)], args := [d1, d2] }
  | _ => none }
def LinkupSilenceWrongFalsely : Prop := linkupSilenceRow.holds Try.pinned (OpenSpec.ofChange linkupSilenceWrong)

/-- 'fairlinklaw08.LinkupCounts': WHATEVER THE INPUT: true; the input reads as it did. -/
def linkupCountsSpec : ChangeSpec := { name := "linkupCounts", fn := fun _ => fun
  | [d1, d2] => { results := [.lit (.bool true)], args := [d1, d2] }
  | _ => none }
def linkupCountsRow : OpenClaim := { program := "ytaonnglopajkcaa", sum := "bd37833052c4440c155da490fdb420db9fca583b7c82cb70eb0317c63905bd48", func := "fairlink/fairlinklaw08.LinkupCounts", spec := "linkupCounts", apart := false }
def LinkupCountsSaid : Prop := linkupCountsRow.holds Try.pinned (OpenSpec.ofChange linkupCountsSpec)

/-- ITS FALSE NEIGHBOUR: 'it returns false'. Refute it at one input. -/
def linkupCountsWrong : ChangeSpec := { name := "linkupCounts", fn := fun _ => fun
  | [d1, d2] => { results := [.lit (.bool false)], args := [d1, d2] }
  | _ => none }
def LinkupCountsWrongFalsely : Prop := linkupCountsRow.holds Try.pinned (OpenSpec.ofChange linkupCountsWrong)

/-- 'fairlinklaw08.LinkupPlays': WHATEVER THE INPUT: true; the input reads as it did. -/
def linkupPlaysSpec : ChangeSpec := { name := "linkupPlays", fn := fun _ => fun
  | [d1, d2, d3] => { results := [.lit (.bool true)], args := [d1, d2, d3] }
  | _ => none }
def linkupPlaysRow : OpenClaim := { program := "ytaonnglopajkcaa", sum := "bd37833052c4440c155da490fdb420db9fca583b7c82cb70eb0317c63905bd48", func := "fairlink/fairlinklaw08.LinkupPlays", spec := "linkupPlays", apart := false }
def LinkupPlaysSaid : Prop := linkupPlaysRow.holds Try.pinned (OpenSpec.ofChange linkupPlaysSpec)

/-- ITS FALSE NEIGHBOUR: 'it returns false'. Refute it at one input. -/
def linkupPlaysWrong : ChangeSpec := { name := "linkupPlays", fn := fun _ => fun
  | [d1, d2, d3] => { results := [.lit (.bool false)], args := [d1, d2, d3] }
  | _ => none }
def LinkupPlaysWrongFalsely : Prop := linkupPlaysRow.holds Try.pinned (OpenSpec.ofChange linkupPlaysWrong)

/-- 'fairlinklaw08.LinkupApart': WHATEVER THE INPUT: true; the input reads as it did. -/
def linkupApartSpec : ChangeSpec := { name := "linkupApart", fn := fun _ => fun
  | [d] => { results := [.lit (.bool true)], args := [d] }
  | _ => none }
def linkupApartRow : OpenClaim := { program := "ytaonnglopajkcaa", sum := "bd37833052c4440c155da490fdb420db9fca583b7c82cb70eb0317c63905bd48", func := "fairlink/fairlinklaw08.LinkupApart", spec := "linkupApart", apart := false }
def LinkupApartSaid : Prop := linkupApartRow.holds Try.pinned (OpenSpec.ofChange linkupApartSpec)

/-- ITS FALSE NEIGHBOUR: 'it returns false'. Refute it at one input. -/
def linkupApartWrong : ChangeSpec := { name := "linkupApart", fn := fun _ => fun
  | [d] => { results := [.lit (.bool false)], args := [d] }
  | _ => none }
def LinkupApartWrongFalsely : Prop := linkupApartRow.holds Try.pinned (OpenSpec.ofChange linkupApartWrong)

/- THE SECOND FORM. 'bulk': how many values and letters a reading holds, each counted each time it is reached (what is shared counts as often as it is met; a slice's spare places count too). A statement '..UptoSaid' is the law's where the arguments, and the package variables that the reading takes, are together of bulk at most 1048576: NARROWER than '..Said'. Prove '..Said' where nothing that the law and all that it calls make is longer than what came in: it says more and counts as full. Else prove '..UptoSaid'. A law counts once. -/
mutual
def uptoBulk {H : Type} : DataW H → Nat
  | .lit (.string bytes) => bytes.length + 1
  | .lit _ => 1
  | .nil => 1
  | .ptr d => uptoBulk d + 1
  | .slice elems spare => uptoBulkAll elems + uptoBulkAll spare + 1
  | .agg parts => uptoBulkAll parts + 1
  | .iface _ d => uptoBulk d + 1
  | .map entries => uptoBulkEntries entries + 1
  | .held _ => 1
def uptoBulkAll {H : Type} : List (DataW H) → Nat
  | [] => 0
  | d :: r => uptoBulk d + uptoBulkAll r
def uptoBulkEntries {H : Type} : List (Lit × DataW H) → Nat
  | [] => 0
  | x :: r => uptoBulkEntry x + uptoBulkEntries r
def uptoBulkEntry {H : Type} : Lit × DataW H → Nat
  | (.string bytes, d) => bytes.length + uptoBulk d + 1
  | (_, d) => uptoBulk d + 1
 end
def uptoSmall : (H : Type) → List (DataW H) → Bool := fun _ ds => decide (uptoBulkAll ds ≤ 1048576)
def OpenSpec.upto (s : _root_.Go.ChangeSpec) : _root_.Go.OpenSpec := { _root_.Go.OpenSpec.ofChange s with cond := some uptoSmall }

/-- 'fairlinklaw08.LinkupTruth', WHERE WHAT IT READS IS OF BULK AT MOST 1048576: true; the input reads as it did. -/
def linkupTruthUptoRow : OpenClaim := { program := "ytaonnglopajkcaa", sum := "bd37833052c4440c155da490fdb420db9fca583b7c82cb70eb0317c63905bd48", func := "fairlink/fairlinklaw08.LinkupTruth", spec := "linkupTruth", apart := false, narrowed := true }
def LinkupTruthUptoSaid : Prop := linkupTruthUptoRow.holds Try.pinned (OpenSpec.upto linkupTruthSpec)

/-- 'fairlinklaw08.LinkupBounds', WHERE WHAT IT READS IS OF BULK AT MOST 1048576: true; the input reads as it did. -/
def linkupBoundsUptoRow : OpenClaim := { program := "ytaonnglopajkcaa", sum := "bd37833052c4440c155da490fdb420db9fca583b7c82cb70eb0317c63905bd48", func := "fairlink/fairlinklaw08.LinkupBounds", spec := "linkupBounds", apart := false, narrowed := true }
def LinkupBoundsUptoSaid : Prop := linkupBoundsUptoRow.holds Try.pinned (OpenSpec.upto linkupBoundsSpec)

/-- 'fairlinklaw08.LinkupMeets', WHERE WHAT IT READS IS OF BULK AT MOST 1048576: true; the input reads as it did. -/
def linkupMeetsUptoRow : OpenClaim := { program := "ytaonnglopajkcaa", sum := "bd37833052c4440c155da490fdb420db9fca583b7c82cb70eb0317c63905bd48", func := "fairlink/fairlinklaw08.LinkupMeets", spec := "linkupMeets", apart := false, narrowed := true }
def LinkupMeetsUptoSaid : Prop := linkupMeetsUptoRow.holds Try.pinned (OpenSpec.upto linkupMeetsSpec)

/-- 'fairlinklaw08.LinkupStale', WHERE WHAT IT READS IS OF BULK AT MOST 1048576: true; the input reads as it did. -/
def linkupStaleUptoRow : OpenClaim := { program := "ytaonnglopajkcaa", sum := "bd37833052c4440c155da490fdb420db9fca583b7c82cb70eb0317c63905bd48", func := "fairlink/fairlinklaw08.LinkupStale", spec := "linkupStale", apart := false, narrowed := true }
def LinkupStaleUptoSaid : Prop := linkupStaleUptoRow.holds Try.pinned (OpenSpec.upto linkupStaleSpec)

/-- 'fairlinklaw08.LinkupSilence', WHERE WHAT IT READS IS OF BULK AT MOST 1048576: true; the input reads as it did. -/
def linkupSilenceUptoRow : OpenClaim := { program := "ytaonnglopajkcaa", sum := "bd37833052c4440c155da490fdb420db9fca583b7c82cb70eb0317c63905bd48", func := "fairlink/fairlinklaw08.LinkupSilence", spec := "linkupSilence", apart := false, narrowed := true }
def LinkupSilenceUptoSaid : Prop := linkupSilenceUptoRow.holds Try.pinned (OpenSpec.upto linkupSilenceSpec)

/-- 'fairlinklaw08.LinkupCounts', WHERE WHAT IT READS IS OF BULK AT MOST 1048576: true; the input reads as it did. -/
def linkupCountsUptoRow : OpenClaim := { program := "ytaonnglopajkcaa", sum := "bd37833052c4440c155da490fdb420db9fca583b7c82cb70eb0317c63905bd48", func := "fairlink/fairlinklaw08.LinkupCounts", spec := "linkupCounts", apart := false, narrowed := true }
def LinkupCountsUptoSaid : Prop := linkupCountsUptoRow.holds Try.pinned (OpenSpec.upto linkupCountsSpec)

/-- 'fairlinklaw08.LinkupPlays', WHERE WHAT IT READS IS OF BULK AT MOST 1048576: true; the input reads as it did. -/
def linkupPlaysUptoRow : OpenClaim := { program := "ytaonnglopajkcaa", sum := "bd37833052c4440c155da490fdb420db9fca583b7c82cb70eb0317c63905bd48", func := "fairlink/fairlinklaw08.LinkupPlays", spec := "linkupPlays", apart := false, narrowed := true }
def LinkupPlaysUptoSaid : Prop := linkupPlaysUptoRow.holds Try.pinned (OpenSpec.upto linkupPlaysSpec)

/-- 'fairlinklaw08.LinkupApart', WHERE WHAT IT READS IS OF BULK AT MOST 1048576: true; the input reads as it did. -/
def linkupApartUptoRow : OpenClaim := { program := "ytaonnglopajkcaa", sum := "bd37833052c4440c155da490fdb420db9fca583b7c82cb70eb0317c63905bd48", func := "fairlink/fairlinklaw08.LinkupApart", spec := "linkupApart", apart := false, narrowed := true }
def LinkupApartUptoSaid : Prop := linkupApartUptoRow.holds Try.pinned (OpenSpec.upto linkupApartSpec)

end Rows
end Go.Proofs.Ytaonnglopajkcaa
