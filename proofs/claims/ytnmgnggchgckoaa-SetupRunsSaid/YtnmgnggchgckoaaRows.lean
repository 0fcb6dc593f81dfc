/-
  No cell of these rows narrows 'for every input' (looked for: loops, veiled, ifaces, maps, wideKeys, modest, calm, conditions, laid).
  DERIVED. THE GIVEN ROWS OF THIS SEAT. 7 by the template 'for every input the law returns true; each argument reads behind the call as it read before'; 0 by the template 'total and deterministic' (their statements: YtnmgnggchgckoaaTotals.lean).
  GIVEN WITH THE SEED: the statements are not yours to turn. If you find one false, say at which input.
  Laid BY PROGRAM, IN A SANDBOX (cutbox-rows.mjs): the forced cells as the released guide's own fill.sh prints them over the translation e324c812c03551c0… (all of the seat's roots in one cut). By AI agents, Wed Nov 11 2026. No macro, syntax, notation, axiom, sorry.
-/
import Derived.Test.YtnmgnggchgckoaaChecked
import GoSem.Claim
import GoSem.ClaimJoined
import GoSem.ClaimMapViews
import Derived.JoinedTies
import Derived.KernelRfl
namespace Go.Proofs.Ytnmgnggchgckoaa
/- THE CELL 'sum', in the pinned program and in every row, IS THE sha256 OF THE DUMP (.gsa) THAT YtnmgnggchgckoaaProg.lean LOADS. Nothing in Lean hashes anything: it is a label: what it is worth is what the hold of that sum in a sandbox is worth. -/
noncomputable def Try.pinned : Pinned := { name := "ytnmgnggchgckoaa", sum := "e324c812c03551c030a07ff8430b4995a095d3036e476dcac7397420d98d6b41", checked := Try.checked }
namespace Rows
def none {H : Type} : Left H := { results := [], args := [] }

/-- 'fairlinklaw41.SetupNew': WHATEVER THE INPUT: true; the input reads as it did. -/
def setupNewSpec : ChangeSpec := { name := "setupNew", fn := fun _ => fun
  | [d1, d2, d3] => { results := [.lit (.bool true)], args := [d1, d2, d3] }
  | _ => none }
def setupNewRow : OpenClaim := { program := "ytnmgnggchgckoaa", sum := "e324c812c03551c030a07ff8430b4995a095d3036e476dcac7397420d98d6b41", func := "fairlink/fairlinklaw41.SetupNew", spec := "setupNew", unfollowed := true, recurses := true, apart := false }
def SetupNewSaid : Prop := setupNewRow.holds Try.pinned (OpenSpec.ofChange setupNewSpec)

/-- ITS FALSE NEIGHBOUR: 'it returns false'. Refute it at one input. -/
def setupNewWrong : ChangeSpec := { name := "setupNew", fn := fun _ => fun
  | [d1, d2, d3] => { results := [.lit (.bool false)], args := [d1, d2, d3] }
  | _ => none }
def SetupNewWrongFalsely : Prop := setupNewRow.holds Try.pinned (OpenSpec.ofChange setupNewWrong)

/-- 'fairlinklaw41.SetupPlain': WHATEVER THE INPUT: true; the input reads as it did. -/
def setupPlainSpec : ChangeSpec := { name := "setupPlain", fn := fun _ => fun
  | [d1, d2] => { results := [.lit (.bool true)], args := [d1, d2] }
  | _ => none }
def setupPlainRow : OpenClaim := { program := "ytnmgnggchgckoaa", sum := "e324c812c03551c030a07ff8430b4995a095d3036e476dcac7397420d98d6b41", func := "fairlink/fairlinklaw41.SetupPlain", spec := "setupPlain", unfollowed := true, recurses := true, apart := false }
def SetupPlainSaid : Prop := setupPlainRow.holds Try.pinned (OpenSpec.ofChange setupPlainSpec)

/-- ITS FALSE NEIGHBOUR: 'it returns false'. Refute it at one input. -/
def setupPlainWrong : ChangeSpec := { name := "setupPlain", fn := fun _ => fun
  | [d1, d2] => { results := [.lit (.bool false)], args := [d1, d2] }
  | _ => none }
def SetupPlainWrongFalsely : Prop := setupPlainRow.holds Try.pinned (OpenSpec.ofChange setupPlainWrong)

/-- 'fairlinklaw41.SetupNil': WHATEVER THE INPUT: true; the input reads as it did. -/
def setupNilSpec : ChangeSpec := { name := "setupNil", fn := fun _ => fun
  | [d1, d2] => { results := [.lit (.bool true)], args := [d1, d2] }
  | _ => none }
def setupNilRow : OpenClaim := { program := "ytnmgnggchgckoaa", sum := "e324c812c03551c030a07ff8430b4995a095d3036e476dcac7397420d98d6b41", func := "fairlink/fairlinklaw41.SetupNil", spec := "setupNil", unfollowed := true, recurses := true, apart := false }
def SetupNilSaid : Prop := setupNilRow.holds Try.pinned (OpenSpec.ofChange setupNilSpec)

/-- ITS FALSE NEIGHBOUR: 'it returns false'. Refute it at one input. -/
def setupNilWrong : ChangeSpec := { name := "setupNil", fn := fun _ => fun
  | [d1, d2] => { results := [.lit (.bool false)], args := [d1, d2] }
  | _ => none }
def SetupNilWrongFalsely : Prop := setupNilRow.holds Try.pinned (OpenSpec.ofChange setupNilWrong)

/-- 'fairlinklaw41.SetupOthers': WHATEVER THE INPUT: true; the input reads as it did. -/
def setupOthersSpec : ChangeSpec := { name := "setupOthers", fn := fun _ => fun
  | [d1, d2, d3, d4] => { results := [.lit (.bool true)], args := [d1, d2, d3, d4] }
  | _ => none }
def setupOthersRow : OpenClaim := { program := "ytnmgnggchgckoaa", sum := "e324c812c03551c030a07ff8430b4995a095d3036e476dcac7397420d98d6b41", func := "fairlink/fairlinklaw41.SetupOthers", spec := "setupOthers", unfollowed := true, recurses := true, apart := false }
def SetupOthersSaid : Prop := setupOthersRow.holds Try.pinned (OpenSpec.ofChange setupOthersSpec)

/-- ITS FALSE NEIGHBOUR: 'it returns false'. Refute it at one input. -/
def setupOthersWrong : ChangeSpec := { name := "setupOthers", fn := fun _ => fun
  | [d1, d2, d3, d4] => { results := [.lit (.bool false)], args := [d1, d2, d3, d4] }
  | _ => none }
def SetupOthersWrongFalsely : Prop := setupOthersRow.holds Try.pinned (OpenSpec.ofChange setupOthersWrong)

/-- 'fairlinklaw41.SetupRuns': WHATEVER THE INPUT: true; the input reads as it did. -/
def setupRunsSpec : ChangeSpec := { name := "setupRuns", fn := fun _ => fun
  | [d1, d2, d3] => { results := [.lit (.bool true)], args := [d1, d2, d3] }
  | _ => none }
def setupRunsRow : OpenClaim := { program := "ytnmgnggchgckoaa", sum := "e324c812c03551c030a07ff8430b4995a095d3036e476dcac7397420d98d6b41", func := "fairlink/fairlinklaw41.SetupRuns", spec := "setupRuns", unfollowed := true, recurses := true, apart := false }
def SetupRunsSaid : Prop := setupRunsRow.holds Try.pinned (OpenSpec.ofChange setupRunsSpec)

/-- ITS FALSE NEIGHBOUR: 'it returns false'. Refute it at one input. -/
def setupRunsWrong : ChangeSpec := { name := "setupRuns", fn := fun _ => fun
  | [d1, d2, d3] => { results := [.lit (.bool false)], args := [d1, d2, d3] }
  | _ => none }
def SetupRunsWrongFalsely : Prop := setupRunsRow.holds Try.pinned (OpenSpec.ofChange setupRunsWrong)

/-- 'fairlinklaw41.SetupPrefix': WHATEVER THE INPUT: true; the input reads as it did. -/
def setupPrefixSpec : ChangeSpec := { name := "setupPrefix", fn := fun _ => fun
  | [d1, d2, d3] => { results := [.lit (.bool true)], args := [d1, d2, d3] }
  | _ => none }
def setupPrefixRow : OpenClaim := { program := "ytnmgnggchgckoaa", sum := "e324c812c03551c030a07ff8430b4995a095d3036e476dcac7397420d98d6b41", func := "fairlink/fairlinklaw41.SetupPrefix", spec := "setupPrefix", unfollowed := true, recurses := true, apart := false }
def SetupPrefixSaid : Prop := setupPrefixRow.holds Try.pinned (OpenSpec.ofChange setupPrefixSpec)

/-- ITS FALSE NEIGHBOUR: 'it returns false'. Refute it at one input. -/
def setupPrefixWrong : ChangeSpec := { name := "setupPrefix", fn := fun _ => fun
  | [d1, d2, d3] => { results := [.lit (.bool false)], args := [d1, d2, d3] }
  | _ => none }
def SetupPrefixWrongFalsely : Prop := setupPrefixRow.holds Try.pinned (OpenSpec.ofChange setupPrefixWrong)

/-- 'fairlinklaw41.SetupEnds': WHATEVER THE INPUT: true; the input reads as it did. -/
def setupEndsSpec : ChangeSpec := { name := "setupEnds", fn := fun _ => fun
  | [d1, d2, d3] => { results := [.lit (.bool true)], args := [d1, d2, d3] }
  | _ => none }
def setupEndsRow : OpenClaim := { program := "ytnmgnggchgckoaa", sum := "e324c812c03551c030a07ff8430b4995a095d3036e476dcac7397420d98d6b41", func := "fairlink/fairlinklaw41.SetupEnds", spec := "setupEnds", unfollowed := true, recurses := true, apart := false }
def SetupEndsSaid : Prop := setupEndsRow.holds Try.pinned (OpenSpec.ofChange setupEndsSpec)

/-- ITS FALSE NEIGHBOUR: 'it returns false'. Refute it at one input. -/
def setupEndsWrong : ChangeSpec := { name := "setupEnds", fn := fun _ => fun
  | [d1, d2, d3] => { results := [.lit (.bool false)], args := [d1, d2, d3] }
  | _ => none }
def SetupEndsWrongFalsely : Prop := setupEndsRow.holds Try.pinned (OpenSpec.ofChange setupEndsWrong)

/- THE SECOND FORM. 'bulk': how many values and letters a reading holds, each counted each time it is reached (what is shared counts as often as it is met; a slice's spare places count too). A statement '..UptoSaid' is the law's where the arguments, and the package variables that the reading takes, are together of bulk at most 1048576: NARROWER than '..Said'. Prove '..Said' where nothing that the law and all that it calls make is longer than what came in: it says more and counts as full. Else prove '..UptoSaid'. A law counts once. -/
mutual
def uptoBulk {H : Type} : DataW H → Nat
  | .lit (.string bytes) => bytes.length + 1
  | .lit _ => 1
  | .nil => 1
  | .ptr d => uptoBulk d + 1
  | .slice elems spare => uptoBulkAll elems + uptoBulkAll spare + 1
  | .agg parts => uptoBulkAll parts + 1
  | .iface _ d => uptoBulk d + 1
  | .map entries => uptoBulkEntries entries + 1
  | .held _ => 1
def uptoBulkAll {H : Type} : List (DataW H) → Nat
  | [] => 0
  | d :: r => uptoBulk d + uptoBulkAll r
def uptoBulkEntries {H : Type} : List (Lit × DataW H) → Nat
  | [] => 0
  | x :: r => uptoBulkEntry x + uptoBulkEntries r
def uptoBulkEntry {H : Type} : Lit × DataW H → Nat
  | (.string bytes, d) => bytes.length + uptoBulk d + 1
  | (_, d) => uptoBulk d + 1
 end
def uptoSmall : (H : Type) → List (DataW H) → Bool := fun _ ds => decide (uptoBulkAll ds ≤ 1048576)
def OpenSpec.upto (s : _root_.Go.ChangeSpec) : _root_.Go.OpenSpec := { _root_.Go.OpenSpec.ofChange s with cond := some uptoSmall }

/-- 'fairlinklaw41.SetupNew', WHERE WHAT IT READS IS OF BULK AT MOST 1048576: true; the input reads as it did. -/
def setupNewUptoRow : OpenClaim := { program := "ytnmgnggchgckoaa", sum := "e324c812c03551c030a07ff8430b4995a095d3036e476dcac7397420d98d6b41", func := "fairlink/fairlinklaw41.SetupNew", spec := "setupNew", unfollowed := true, recurses := true, apart := false, narrowed := true }
def SetupNewUptoSaid : Prop := setupNewUptoRow.holds Try.pinned (OpenSpec.upto setupNewSpec)

/-- 'fairlinklaw41.SetupPlain', WHERE WHAT IT READS IS OF BULK AT MOST 1048576: true; the input reads as it did. -/
def setupPlainUptoRow : OpenClaim := { program := "ytnmgnggchgckoaa", sum := "e324c812c03551c030a07ff8430b4995a095d3036e476dcac7397420d98d6b41", func := "fairlink/fairlinklaw41.SetupPlain", spec := "setupPlain", unfollowed := true, recurses := true, apart := false, narrowed := true }
def SetupPlainUptoSaid : Prop := setupPlainUptoRow.holds Try.pinned (OpenSpec.upto setupPlainSpec)

/-- 'fairlinklaw41.SetupNil', WHERE WHAT IT READS IS OF BULK AT MOST 1048576: true; the input reads as it did. -/
def setupNilUptoRow : OpenClaim := { program := "ytnmgnggchgckoaa", sum := "e324c812c03551c030a07ff8430b4995a095d3036e476dcac7397420d98d6b41", func := "fairlink/fairlinklaw41.SetupNil", spec := "setupNil", unfollowed := true, recurses := true, apart := false, narrowed := true }
def SetupNilUptoSaid : Prop := setupNilUptoRow.holds Try.pinned (OpenSpec.upto setupNilSpec)

/-- 'fairlinklaw41.SetupOthers', WHERE WHAT IT READS IS OF BULK AT MOST 1048576: true; the input reads as it did. -/
def setupOthersUptoRow : OpenClaim := { program := "ytnmgnggchgckoaa", sum := "e324c812c03551c030a07ff8430b4995a095d3036e476dcac7397420d98d6b41", func := "fairlink/fairlinklaw41.SetupOthers", spec := "setupOthers", unfollowed := true, recurses := true, apart := false, narrowed := true }
def SetupOthersUptoSaid : Prop := setupOthersUptoRow.holds Try.pinned (OpenSpec.upto setupOthersSpec)

/-- 'fairlinklaw41.SetupRuns', WHERE WHAT IT READS IS OF BULK AT MOST 1048576: true; the input reads as it did. -/
def setupRunsUptoRow : OpenClaim := { program := "ytnmgnggchgckoaa", sum := "e324c812c03551c030a07ff8430b4995a095d3036e476dcac7397420d98d6b41", func := "fairlink/fairlinklaw41.SetupRuns", spec := "setupRuns", unfollowed := true, recurses := true, apart := false, narrowed := true }
def SetupRunsUptoSaid : Prop := setupRunsUptoRow.holds Try.pinned (OpenSpec.upto setupRunsSpec)

/-- 'fairlinklaw41.SetupPrefix', WHERE WHAT IT READS IS OF BULK AT MOST 1048576: true; the input reads as it did. -/
def setupPrefixUptoRow : OpenClaim := { program := "ytnmgnggchgckoaa", sum := "e324c812c03551c030a07ff8430b4995a095d3036e476dcac7397420d98d6b41", func := "fairlink/fairlinklaw41.SetupPrefix", spec := "setupPrefix", unfollowed := true, recurses := true, apart := false, narrowed := true }
def SetupPrefixUptoSaid : Prop := setupPrefixUptoRow.holds Try.pinned (OpenSpec.upto setupPrefixSpec)

/-- 'fairlinklaw41.SetupEnds', WHERE WHAT IT READS IS OF BULK AT MOST 1048576: true; the input reads as it did. -/
def setupEndsUptoRow : OpenClaim := { program := "ytnmgnggchgckoaa", sum := "e324c812c03551c030a07ff8430b4995a095d3036e476dcac7397420d98d6b41", func := "fairlink/fairlinklaw41.SetupEnds", spec := "setupEnds", unfollowed := true, recurses := true, apart := false, narrowed := true }
def SetupEndsUptoSaid : Prop := setupEndsUptoRow.holds Try.pinned (OpenSpec.upto setupEndsSpec)

end Rows
end Go.Proofs.Ytnmgnggchgckoaa
