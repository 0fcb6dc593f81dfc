/-
  No cell of these rows narrows 'for every input' (looked for: loops, veiled, ifaces, maps, wideKeys, modest, calm, conditions, laid).
  DERIVED. THE GIVEN ROWS OF THIS SEAT. 6 by the template 'for every input the law returns true; each argument reads behind the call as it read before'; 0 by the template 'total and deterministic' (their statements: YtfildngcghehlaaTotals.lean).
  GIVEN WITH THE SEED: the statements are not yours to turn. If you find one false, say at which input.
  Laid BY PROGRAM, IN A SANDBOX (cutbox-rows.mjs): the forced cells as the released guide's own fill.sh prints them over the translation 355aa857a3cdac15… (all of the seat's roots in one cut). By AI agents, Wed Nov 11 2026. No macro, syntax, notation, axiom, sorry.
-/
import Derived.Test.YtfildngcghehlaaChecked
import GoSem.Claim
import GoSem.ClaimJoined
import GoSem.ClaimMapViews
import Derived.JoinedTies
import Derived.KernelRfl
namespace Go.Proofs.Ytfildngcghehlaa
/- THE CELL 'sum', in the pinned program and in every row, IS THE sha256 OF THE DUMP (.gsa) THAT YtfildngcghehlaaProg.lean LOADS. Nothing in Lean hashes anything: it is a label: what it is worth is what the hold of that sum in a sandbox is worth. -/
noncomputable def Try.pinned : Pinned := { name := "ytfildngcghehlaa", sum := "355aa857a3cdac1556866f3402470a87d5adfcef0d73c6f354b042342b734243", checked := Try.checked }
namespace Rows
def none {H : Type} : Left H := { results := [], args := [] }

/-- 'fairlinklaw13.ClockShows': WHATEVER THE INPUT: true; the input reads as it did. -/
def clockShowsSpec : ChangeSpec := { name := "clockShows", fn := fun _ => fun
  | [d1, d2] => { results := [.lit (.bool true)], args := [d1, d2] }
  | _ => none }
def clockShowsRow : OpenClaim := { program := "ytfildngcghehlaa", sum := "355aa857a3cdac1556866f3402470a87d5adfcef0d73c6f354b042342b734243", func := "fairlink/fairlinklaw13.ClockShows", spec := "clockShows", apart := false }
def ClockShowsSaid : Prop := clockShowsRow.holds Try.pinned (OpenSpec.ofChange clockShowsSpec)

/-- ITS FALSE NEIGHBOUR: 'it returns false'. Refute it at one input. -/
def clockShowsWrong : ChangeSpec := { name := "clockShows", fn := fun _ => fun
  | [d1, d2] => { results := [.lit (.bool false)], args := [d1, d2] }
  | _ => none }
def ClockShowsWrongFalsely : Prop := clockShowsRow.holds Try.pinned (OpenSpec.ofChange clockShowsWrong)

/-- 'fairlinklaw13.ClockAdvances': WHATEVER THE INPUT: true; the input reads as it did. -/
def clockAdvancesSpec : ChangeSpec := { name := "clockAdvances", fn := fun _ => fun
  | [d1, d2] => { results := [.lit (.bool true)], args := [d1, d2] }
  | _ => none }
def clockAdvancesRow : OpenClaim := { program := "ytfildngcghehlaa", sum := "355aa857a3cdac1556866f3402470a87d5adfcef0d73c6f354b042342b734243", func := "fairlink/fairlinklaw13.ClockAdvances", spec := "clockAdvances", apart := false }
def ClockAdvancesSaid : Prop := clockAdvancesRow.holds Try.pinned (OpenSpec.ofChange clockAdvancesSpec)

/-- ITS FALSE NEIGHBOUR: 'it returns false'. Refute it at one input. -/
def clockAdvancesWrong : ChangeSpec := { name := "clockAdvances", fn := fun _ => fun
  | [d1, d2] => { results := [.lit (.bool false)], args := [d1, d2] }
  | _ => none }
def ClockAdvancesWrongFalsely : Prop := clockAdvancesRow.holds Try.pinned (OpenSpec.ofChange clockAdvancesWrong)

/-- 'fairlinklaw13.ClockInverts': WHATEVER THE INPUT: true; the input reads as it did. -/
def clockInvertsSpec : ChangeSpec := { name := "clockInverts", fn := fun _ => fun
  | [d1, d2] => { results := [.lit (.bool true)], args := [d1, d2] }
  | _ => none }
def clockInvertsRow : OpenClaim := { program := "ytfildngcghehlaa", sum := "355aa857a3cdac1556866f3402470a87d5adfcef0d73c6f354b042342b734243", func := "fairlink/fairlinklaw13.ClockInverts", spec := "clockInverts", apart := false }
def ClockInvertsSaid : Prop := clockInvertsRow.holds Try.pinned (OpenSpec.ofChange clockInvertsSpec)

/-- ITS FALSE NEIGHBOUR: 'it returns false'. Refute it at one input. -/
def clockInvertsWrong : ChangeSpec := { name := "clockInverts", fn := fun _ => fun
  | [d1, d2] => { results := [.lit (.bool false)], args := [d1, d2] }
  | _ => none }
def ClockInvertsWrongFalsely : Prop := clockInvertsRow.holds Try.pinned (OpenSpec.ofChange clockInvertsWrong)

/-- 'fairlinklaw13.ClockWithin': WHATEVER THE INPUT: true; the input reads as it did. -/
def clockWithinSpec : ChangeSpec := { name := "clockWithin", fn := fun _ => fun
  | [d1, d2, d3] => { results := [.lit (.bool true)], args := [d1, d2, d3] }
  | _ => none }
def clockWithinRow : OpenClaim := { program := "ytfildngcghehlaa", sum := "355aa857a3cdac1556866f3402470a87d5adfcef0d73c6f354b042342b734243", func := "fairlink/fairlinklaw13.ClockWithin", spec := "clockWithin", apart := false }
def ClockWithinSaid : Prop := clockWithinRow.holds Try.pinned (OpenSpec.ofChange clockWithinSpec)

/-- ITS FALSE NEIGHBOUR: 'it returns false'. Refute it at one input. -/
def clockWithinWrong : ChangeSpec := { name := "clockWithin", fn := fun _ => fun
  | [d1, d2, d3] => { results := [.lit (.bool false)], args := [d1, d2, d3] }
  | _ => none }
def ClockWithinWrongFalsely : Prop := clockWithinRow.holds Try.pinned (OpenSpec.ofChange clockWithinWrong)

/-- 'fairlinklaw13.ClockBounds': WHATEVER THE INPUT: true; the input reads as it did. -/
def clockBoundsSpec : ChangeSpec := { name := "clockBounds", fn := fun _ => fun
  | [d1, d2] => { results := [.lit (.bool true)], args := [d1, d2] }
  | _ => none }
def clockBoundsRow : OpenClaim := { program := "ytfildngcghehlaa", sum := "355aa857a3cdac1556866f3402470a87d5adfcef0d73c6f354b042342b734243", func := "fairlink/fairlinklaw13.ClockBounds", spec := "clockBounds", apart := false }
def ClockBoundsSaid : Prop := clockBoundsRow.holds Try.pinned (OpenSpec.ofChange clockBoundsSpec)

/-- ITS FALSE NEIGHBOUR: 'it returns false'. Refute it at one input. -/
def clockBoundsWrong : ChangeSpec := { name := "clockBounds", fn := fun _ => fun
  | [d1, d2] => { results := [.lit (.bool false)], args := [d1, d2] }
  | _ => none }
def ClockBoundsWrongFalsely : Prop := clockBoundsRow.holds Try.pinned (OpenSpec.ofChange clockBoundsWrong)

/-- 'fairlinklaw13.ClockHolds': WHATEVER THE INPUT: true; the input reads as it did. -/
def clockHoldsSpec : ChangeSpec := { name := "clockHolds", fn := fun _ => fun
  | [d1, d2, d3, d4] => { results := [.lit (.bool true)], args := [d1, d2, d3, d4] }
  | _ => none }
def clockHoldsRow : OpenClaim := { program := "ytfildngcghehlaa", sum := "355aa857a3cdac1556866f3402470a87d5adfcef0d73c6f354b042342b734243", func := "fairlink/fairlinklaw13.ClockHolds", spec := "clockHolds", apart := false }
def ClockHoldsSaid : Prop := clockHoldsRow.holds Try.pinned (OpenSpec.ofChange clockHoldsSpec)

/-- ITS FALSE NEIGHBOUR: 'it returns false'. Refute it at one input. -/
def clockHoldsWrong : ChangeSpec := { name := "clockHolds", fn := fun _ => fun
  | [d1, d2, d3, d4] => { results := [.lit (.bool false)], args := [d1, d2, d3, d4] }
  | _ => none }
def ClockHoldsWrongFalsely : Prop := clockHoldsRow.holds Try.pinned (OpenSpec.ofChange clockHoldsWrong)

/- THE SECOND FORM. 'bulk': how many values and letters a reading holds, each counted each time it is reached (what is shared counts as often as it is met; a slice's spare places count too). A statement '..UptoSaid' is the law's where the arguments, and the package variables that the reading takes, are together of bulk at most 1048576: NARROWER than '..Said'. Prove '..Said' where nothing that the law and all that it calls make is longer than what came in: it says more and counts as full. Else prove '..UptoSaid'. A law counts once. -/
mutual
def uptoBulk {H : Type} : DataW H → Nat
  | .lit (.string bytes) => bytes.length + 1
  | .lit _ => 1
  | .nil => 1
  | .ptr d => uptoBulk d + 1
  | .slice elems spare => uptoBulkAll elems + uptoBulkAll spare + 1
  | .agg parts => uptoBulkAll parts + 1
  | .iface _ d => uptoBulk d + 1
  | .map entries => uptoBulkEntries entries + 1
  | .held _ => 1
def uptoBulkAll {H : Type} : List (DataW H) → Nat
  | [] => 0
  | d :: r => uptoBulk d + uptoBulkAll r
def uptoBulkEntries {H : Type} : List (Lit × DataW H) → Nat
  | [] => 0
  | x :: r => uptoBulkEntry x + uptoBulkEntries r
def uptoBulkEntry {H : Type} : Lit × DataW H → Nat
  | (.string bytes, d) => bytes.length + uptoBulk d + 1
  | (_, d) => uptoBulk d + 1
 end
def uptoSmall : (H : Type) → List (DataW H) → Bool := fun _ ds => decide (uptoBulkAll ds ≤ 1048576)
def OpenSpec.upto (s : _root_.Go.ChangeSpec) : _root_.Go.OpenSpec := { _root_.Go.OpenSpec.ofChange s with cond := some uptoSmall }

/-- 'fairlinklaw13.ClockShows', WHERE WHAT IT READS IS OF BULK AT MOST 1048576: true; the input reads as it did. -/
def clockShowsUptoRow : OpenClaim := { program := "ytfildngcghehlaa", sum := "355aa857a3cdac1556866f3402470a87d5adfcef0d73c6f354b042342b734243", func := "fairlink/fairlinklaw13.ClockShows", spec := "clockShows", apart := false, narrowed := true }
def ClockShowsUptoSaid : Prop := clockShowsUptoRow.holds Try.pinned (OpenSpec.upto clockShowsSpec)

/-- 'fairlinklaw13.ClockAdvances', WHERE WHAT IT READS IS OF BULK AT MOST 1048576: true; the input reads as it did. -/
def clockAdvancesUptoRow : OpenClaim := { program := "ytfildngcghehlaa", sum := "355aa857a3cdac1556866f3402470a87d5adfcef0d73c6f354b042342b734243", func := "fairlink/fairlinklaw13.ClockAdvances", spec := "clockAdvances", apart := false, narrowed := true }
def ClockAdvancesUptoSaid : Prop := clockAdvancesUptoRow.holds Try.pinned (OpenSpec.upto clockAdvancesSpec)

/-- 'fairlinklaw13.ClockInverts', WHERE WHAT IT READS IS OF BULK AT MOST 1048576: true; the input reads as it did. -/
def clockInvertsUptoRow : OpenClaim := { program := "ytfildngcghehlaa", sum := "355aa857a3cdac1556866f3402470a87d5adfcef0d73c6f354b042342b734243", func := "fairlink/fairlinklaw13.ClockInverts", spec := "clockInverts", apart := false, narrowed := true }
def ClockInvertsUptoSaid : Prop := clockInvertsUptoRow.holds Try.pinned (OpenSpec.upto clockInvertsSpec)

/-- 'fairlinklaw13.ClockWithin', WHERE WHAT IT READS IS OF BULK AT MOST 1048576: true; the input reads as it did. -/
def clockWithinUptoRow : OpenClaim := { program := "ytfildngcghehlaa", sum := "355aa857a3cdac1556866f3402470a87d5adfcef0d73c6f354b042342b734243", func := "fairlink/fairlinklaw13.ClockWithin", spec := "clockWithin", apart := false, narrowed := true }
def ClockWithinUptoSaid : Prop := clockWithinUptoRow.holds Try.pinned (OpenSpec.upto clockWithinSpec)

/-- 'fairlinklaw13.ClockBounds', WHERE WHAT IT READS IS OF BULK AT MOST 1048576: true; the input reads as it did. -/
def clockBoundsUptoRow : OpenClaim := { program := "ytfildngcghehlaa", sum := "355aa857a3cdac1556866f3402470a87d5adfcef0d73c6f354b042342b734243", func := "fairlink/fairlinklaw13.ClockBounds", spec := "clockBounds", apart := false, narrowed := true }
def ClockBoundsUptoSaid : Prop := clockBoundsUptoRow.holds Try.pinned (OpenSpec.upto clockBoundsSpec)

/-- 'fairlinklaw13.ClockHolds', WHERE WHAT IT READS IS OF BULK AT MOST 1048576: true; the input reads as it did. -/
def clockHoldsUptoRow : OpenClaim := { program := "ytfildngcghehlaa", sum := "355aa857a3cdac1556866f3402470a87d5adfcef0d73c6f354b042342b734243", func := "fairlink/fairlinklaw13.ClockHolds", spec := "clockHolds", apart := false, narrowed := true }
def ClockHoldsUptoSaid : Prop := clockHoldsUptoRow.holds Try.pinned (OpenSpec.upto clockHoldsSpec)

end Rows
end Go.Proofs.Ytfildngcghehlaa
