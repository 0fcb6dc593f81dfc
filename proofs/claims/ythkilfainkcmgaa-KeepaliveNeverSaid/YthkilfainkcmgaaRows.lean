/-
  No cell of these rows narrows 'for every input' (looked for: loops, veiled, ifaces, maps, wideKeys, modest, calm, conditions, laid).
  DERIVED. THE GIVEN ROWS OF THIS SEAT. 7 by the template 'for every input the law returns true; each argument reads behind the call as it read before'; 0 by the template 'total and deterministic' (their statements: YthkilfainkcmgaaTotals.lean).
  GIVEN WITH THE SEED: the statements are not yours to turn. If you find one false, say at which input.
  Laid BY PROGRAM, IN A SANDBOX (cutbox-rows.mjs): the forced cells as the released guide's own fill.sh prints them over the translation fc594dc8ac192b26… (all of the seat's roots in one cut). By AI agents, Wed Nov 11 2026. No macro, syntax, notation, axiom, sorry.
-/
import Derived.Test.YthkilfainkcmgaaChecked
import GoSem.Claim
import GoSem.ClaimJoined
import GoSem.ClaimMapViews
import Derived.JoinedTies
import Derived.KernelRfl
namespace Go.Proofs.Ythkilfainkcmgaa
/- THE CELL 'sum', in the pinned program and in every row, IS THE sha256 OF THE DUMP (.gsa) THAT YthkilfainkcmgaaProg.lean LOADS. Nothing in Lean hashes anything: it is a label: what it is worth is what the hold of that sum in a sandbox is worth. -/
noncomputable def Try.pinned : Pinned := { name := "ythkilfainkcmgaa", sum := "fc594dc8ac192b26dbfc0fe86b43353291f1aede745665b783c76e45f22001d0", checked := Try.checked }
namespace Rows
def none {H : Type} : Left H := { results := [], args := [] }

/-- 'fairlinklaw49.KeepaliveRuns': WHATEVER THE INPUT: true; the input reads as it did. -/
def keepaliveRunsSpec : ChangeSpec := { name := "keepaliveRuns", fn := fun _ => fun
  | [d1, d2, d3] => { results := [.lit (.bool true)], args := [d1, d2, d3] }
  | _ => none }
def keepaliveRunsRow : OpenClaim := { program := "ythkilfainkcmgaa", sum := "fc594dc8ac192b26dbfc0fe86b43353291f1aede745665b783c76e45f22001d0", func := "fairlink/fairlinklaw49.KeepaliveRuns", spec := "keepaliveRuns", unfollowed := true, recurses := true, apart := false }
def KeepaliveRunsSaid : Prop := keepaliveRunsRow.holds Try.pinned (OpenSpec.ofChange keepaliveRunsSpec)

/-- ITS FALSE NEIGHBOUR: 'it returns false'. Refute it at one input. -/
def keepaliveRunsWrong : ChangeSpec := { name := "keepaliveRuns", fn := fun _ => fun
  | [d1, d2, d3] => { results := [.lit (.bool false)], args := [d1, d2, d3] }
  | _ => none }
def KeepaliveRunsWrongFalsely : Prop := keepaliveRunsRow.holds Try.pinned (OpenSpec.ofChange keepaliveRunsWrong)

/-- 'fairlinklaw49.KeepaliveSends': WHATEVER THE INPUT: true; the input reads as it did. -/
def keepaliveSendsSpec : ChangeSpec := { name := "keepaliveSends", fn := fun _ => fun
  | [d1, d2, d3] => { results := [.lit (.bool true)], args := [d1, d2, d3] }
  | _ => none }
def keepaliveSendsRow : OpenClaim := { program := "ythkilfainkcmgaa", sum := "fc594dc8ac192b26dbfc0fe86b43353291f1aede745665b783c76e45f22001d0", func := "fairlink/fairlinklaw49.KeepaliveSends", spec := "keepaliveSends", unfollowed := true, recurses := true, apart := false }
def KeepaliveSendsSaid : Prop := keepaliveSendsRow.holds Try.pinned (OpenSpec.ofChange keepaliveSendsSpec)

/-- ITS FALSE NEIGHBOUR: 'it returns false'. Refute it at one input. -/
def keepaliveSendsWrong : ChangeSpec := { name := "keepaliveSends", fn := fun _ => fun
  | [d1, d2, d3] => { results := [.lit (.bool false)], args := [d1, d2, d3] }
  | _ => none }
def KeepaliveSendsWrongFalsely : Prop := keepaliveSendsRow.holds Try.pinned (OpenSpec.ofChange keepaliveSendsWrong)

/-- 'fairlinklaw49.KeepaliveAlarms': WHATEVER THE INPUT: true; the input reads as it did. -/
def keepaliveAlarmsSpec : ChangeSpec := { name := "keepaliveAlarms", fn := fun _ => fun
  | [d1, d2] => { results := [.lit (.bool true)], args := [d1, d2] }
  | _ => none }
def keepaliveAlarmsRow : OpenClaim := { program := "ythkilfainkcmgaa", sum := "fc594dc8ac192b26dbfc0fe86b43353291f1aede745665b783c76e45f22001d0", func := "fairlink/fairlinklaw49.KeepaliveAlarms", spec := "keepaliveAlarms", unfollowed := true, recurses := true, apart := false }
def KeepaliveAlarmsSaid : Prop := keepaliveAlarmsRow.holds Try.pinned (OpenSpec.ofChange keepaliveAlarmsSpec)

/-- ITS FALSE NEIGHBOUR: 'it returns false'. Refute it at one input. -/
def keepaliveAlarmsWrong : ChangeSpec := { name := "keepaliveAlarms", fn := fun _ => fun
  | [d1, d2] => { results := [.lit (.bool false)], args := [d1, d2] }
  | _ => none }
def KeepaliveAlarmsWrongFalsely : Prop := keepaliveAlarmsRow.holds Try.pinned (OpenSpec.ofChange keepaliveAlarmsWrong)

/-- 'fairlinklaw49.KeepaliveSafe': WHATEVER THE INPUT: true; the input reads as it did. -/
def keepaliveSafeSpec : ChangeSpec := { name := "keepaliveSafe", fn := fun _ => fun
  | [d1, d2, d3, d4, d5, d6, d7] => { results := [.lit (.bool true)], args := [d1, d2, d3, d4, d5, d6, d7] }
  | _ => none }
def keepaliveSafeRow : OpenClaim := { program := "ythkilfainkcmgaa", sum := "fc594dc8ac192b26dbfc0fe86b43353291f1aede745665b783c76e45f22001d0", func := "fairlink/fairlinklaw49.KeepaliveSafe", spec := "keepaliveSafe", unfollowed := true, recurses := true, apart := false }
def KeepaliveSafeSaid : Prop := keepaliveSafeRow.holds Try.pinned (OpenSpec.ofChange keepaliveSafeSpec)

/-- ITS FALSE NEIGHBOUR: 'it returns false'. Refute it at one input. -/
def keepaliveSafeWrong : ChangeSpec := { name := "keepaliveSafe", fn := fun _ => fun
  | [d1, d2, d3, d4, d5, d6, d7] => { results := [.lit (.bool false)], args := [d1, d2, d3, d4, d5, d6, d7] }
  | _ => none }
def KeepaliveSafeWrongFalsely : Prop := keepaliveSafeRow.holds Try.pinned (OpenSpec.ofChange keepaliveSafeWrong)

/-- 'fairlinklaw49.KeepaliveLatest': WHATEVER THE INPUT: true; the input reads as it did. -/
def keepaliveLatestSpec : ChangeSpec := { name := "keepaliveLatest", fn := fun _ => fun
  | [d1, d2] => { results := [.lit (.bool true)], args := [d1, d2] }
  | _ => none }
def keepaliveLatestRow : OpenClaim := { program := "ythkilfainkcmgaa", sum := "fc594dc8ac192b26dbfc0fe86b43353291f1aede745665b783c76e45f22001d0", func := "fairlink/fairlinklaw49.KeepaliveLatest", spec := "keepaliveLatest", unfollowed := true, recurses := true, apart := false }
def KeepaliveLatestSaid : Prop := keepaliveLatestRow.holds Try.pinned (OpenSpec.ofChange keepaliveLatestSpec)

/-- ITS FALSE NEIGHBOUR: 'it returns false'. Refute it at one input. -/
def keepaliveLatestWrong : ChangeSpec := { name := "keepaliveLatest", fn := fun _ => fun
  | [d1, d2] => { results := [.lit (.bool false)], args := [d1, d2] }
  | _ => none }
def KeepaliveLatestWrongFalsely : Prop := keepaliveLatestRow.holds Try.pinned (OpenSpec.ofChange keepaliveLatestWrong)

/-- 'fairlinklaw49.KeepaliveNever': WHATEVER THE INPUT: true; the input reads as it did. -/
def keepaliveNeverSpec : ChangeSpec := { name := "keepaliveNever", fn := fun _ => fun
  | [d1, d2, d3, d4, d5, d6, d7] => { results := [.lit (.bool true)], args := [d1, d2, d3, d4, d5, d6, d7] }
  | _ => none }
def keepaliveNeverRow : OpenClaim := { program := "ythkilfainkcmgaa", sum := "fc594dc8ac192b26dbfc0fe86b43353291f1aede745665b783c76e45f22001d0", func := "fairlink/fairlinklaw49.KeepaliveNever", spec := "keepaliveNever", unfollowed := true, recurses := true, apart := false }
def KeepaliveNeverSaid : Prop := keepaliveNeverRow.holds Try.pinned (OpenSpec.ofChange keepaliveNeverSpec)

/-- ITS FALSE NEIGHBOUR: 'it returns false'. Refute it at one input. -/
def keepaliveNeverWrong : ChangeSpec := { name := "keepaliveNever", fn := fun _ => fun
  | [d1, d2, d3, d4, d5, d6, d7] => { results := [.lit (.bool false)], args := [d1, d2, d3, d4, d5, d6, d7] }
  | _ => none }
def KeepaliveNeverWrongFalsely : Prop := keepaliveNeverRow.holds Try.pinned (OpenSpec.ofChange keepaliveNeverWrong)

/-- 'fairlinklaw49.KeepaliveLate': WHATEVER THE INPUT: true; the input reads as it did. -/
def keepaliveLateSpec : ChangeSpec := { name := "keepaliveLate", fn := fun _ => fun
  | [d1, d2, d3, d4] => { results := [.lit (.bool true)], args := [d1, d2, d3, d4] }
  | _ => none }
def keepaliveLateRow : OpenClaim := { program := "ythkilfainkcmgaa", sum := "fc594dc8ac192b26dbfc0fe86b43353291f1aede745665b783c76e45f22001d0", func := "fairlink/fairlinklaw49.KeepaliveLate", spec := "keepaliveLate", unfollowed := true, recurses := true, apart := false }
def KeepaliveLateSaid : Prop := keepaliveLateRow.holds Try.pinned (OpenSpec.ofChange keepaliveLateSpec)

/-- ITS FALSE NEIGHBOUR: 'it returns false'. Refute it at one input. -/
def keepaliveLateWrong : ChangeSpec := { name := "keepaliveLate", fn := fun _ => fun
  | [d1, d2, d3, d4] => { results := [.lit (.bool false)], args := [d1, d2, d3, d4] }
  | _ => none }
def KeepaliveLateWrongFalsely : Prop := keepaliveLateRow.holds Try.pinned (OpenSpec.ofChange keepaliveLateWrong)

/- THE SECOND FORM. 'bulk': how many values and letters a reading holds, each counted each time it is reached (what is shared counts as often as it is met; a slice's spare places count too). A statement '..UptoSaid' is the law's where the arguments, and the package variables that the reading takes, are together of bulk at most 1048576: NARROWER than '..Said'. Prove '..Said' where nothing that the law and all that it calls make is longer than what came in: it says more and counts as full. Else prove '..UptoSaid'. A law counts once. -/
mutual
def uptoBulk {H : Type} : DataW H → Nat
  | .lit (.string bytes) => bytes.length + 1
  | .lit _ => 1
  | .nil => 1
  | .ptr d => uptoBulk d + 1
  | .slice elems spare => uptoBulkAll elems + uptoBulkAll spare + 1
  | .agg parts => uptoBulkAll parts + 1
  | .iface _ d => uptoBulk d + 1
  | .map entries => uptoBulkEntries entries + 1
  | .held _ => 1
def uptoBulkAll {H : Type} : List (DataW H) → Nat
  | [] => 0
  | d :: r => uptoBulk d + uptoBulkAll r
def uptoBulkEntries {H : Type} : List (Lit × DataW H) → Nat
  | [] => 0
  | x :: r => uptoBulkEntry x + uptoBulkEntries r
def uptoBulkEntry {H : Type} : Lit × DataW H → Nat
  | (.string bytes, d) => bytes.length + uptoBulk d + 1
  | (_, d) => uptoBulk d + 1
 end
def uptoSmall : (H : Type) → List (DataW H) → Bool := fun _ ds => decide (uptoBulkAll ds ≤ 1048576)
def OpenSpec.upto (s : _root_.Go.ChangeSpec) : _root_.Go.OpenSpec := { _root_.Go.OpenSpec.ofChange s with cond := some uptoSmall }

/-- 'fairlinklaw49.KeepaliveRuns', WHERE WHAT IT READS IS OF BULK AT MOST 1048576: true; the input reads as it did. -/
def keepaliveRunsUptoRow : OpenClaim := { program := "ythkilfainkcmgaa", sum := "fc594dc8ac192b26dbfc0fe86b43353291f1aede745665b783c76e45f22001d0", func := "fairlink/fairlinklaw49.KeepaliveRuns", spec := "keepaliveRuns", unfollowed := true, recurses := true, apart := false, narrowed := true }
def KeepaliveRunsUptoSaid : Prop := keepaliveRunsUptoRow.holds Try.pinned (OpenSpec.upto keepaliveRunsSpec)

/-- 'fairlinklaw49.KeepaliveSends', WHERE WHAT IT READS IS OF BULK AT MOST 1048576: true; the input reads as it did. -/
def keepaliveSendsUptoRow : OpenClaim := { program := "ythkilfainkcmgaa", sum := "fc594dc8ac192b26dbfc0fe86b43353291f1aede745665b783c76e45f22001d0", func := "fairlink/fairlinklaw49.KeepaliveSends", spec := "keepaliveSends", unfollowed := true, recurses := true, apart := false, narrowed := true }
def KeepaliveSendsUptoSaid : Prop := keepaliveSendsUptoRow.holds Try.pinned (OpenSpec.upto keepaliveSendsSpec)

/-- 'fairlinklaw49.KeepaliveAlarms', WHERE WHAT IT READS IS OF BULK AT MOST 1048576: true; the input reads as it did. -/
def keepaliveAlarmsUptoRow : OpenClaim := { program := "ythkilfainkcmgaa", sum := "fc594dc8ac192b26dbfc0fe86b43353291f1aede745665b783c76e45f22001d0", func := "fairlink/fairlinklaw49.KeepaliveAlarms", spec := "keepaliveAlarms", unfollowed := true, recurses := true, apart := false, narrowed := true }
def KeepaliveAlarmsUptoSaid : Prop := keepaliveAlarmsUptoRow.holds Try.pinned (OpenSpec.upto keepaliveAlarmsSpec)

/-- 'fairlinklaw49.KeepaliveSafe', WHERE WHAT IT READS IS OF BULK AT MOST 1048576: true; the input reads as it did. -/
def keepaliveSafeUptoRow : OpenClaim := { program := "ythkilfainkcmgaa", sum := "fc594dc8ac192b26dbfc0fe86b43353291f1aede745665b783c76e45f22001d0", func := "fairlink/fairlinklaw49.KeepaliveSafe", spec := "keepaliveSafe", unfollowed := true, recurses := true, apart := false, narrowed := true }
def KeepaliveSafeUptoSaid : Prop := keepaliveSafeUptoRow.holds Try.pinned (OpenSpec.upto keepaliveSafeSpec)

/-- 'fairlinklaw49.KeepaliveLatest', WHERE WHAT IT READS IS OF BULK AT MOST 1048576: true; the input reads as it did. -/
def keepaliveLatestUptoRow : OpenClaim := { program := "ythkilfainkcmgaa", sum := "fc594dc8ac192b26dbfc0fe86b43353291f1aede745665b783c76e45f22001d0", func := "fairlink/fairlinklaw49.KeepaliveLatest", spec := "keepaliveLatest", unfollowed := true, recurses := true, apart := false, narrowed := true }
def KeepaliveLatestUptoSaid : Prop := keepaliveLatestUptoRow.holds Try.pinned (OpenSpec.upto keepaliveLatestSpec)

/-- 'fairlinklaw49.KeepaliveNever', WHERE WHAT IT READS IS OF BULK AT MOST 1048576: true; the input reads as it did. -/
def keepaliveNeverUptoRow : OpenClaim := { program := "ythkilfainkcmgaa", sum := "fc594dc8ac192b26dbfc0fe86b43353291f1aede745665b783c76e45f22001d0", func := "fairlink/fairlinklaw49.KeepaliveNever", spec := "keepaliveNever", unfollowed := true, recurses := true, apart := false, narrowed := true }
def KeepaliveNeverUptoSaid : Prop := keepaliveNeverUptoRow.holds Try.pinned (OpenSpec.upto keepaliveNeverSpec)

/-- 'fairlinklaw49.KeepaliveLate', WHERE WHAT IT READS IS OF BULK AT MOST 1048576: true; the input reads as it did. -/
def keepaliveLateUptoRow : OpenClaim := { program := "ythkilfainkcmgaa", sum := "fc594dc8ac192b26dbfc0fe86b43353291f1aede745665b783c76e45f22001d0", func := "fairlink/fairlinklaw49.KeepaliveLate", spec := "keepaliveLate", unfollowed := true, recurses := true, apart := false, narrowed := true }
def KeepaliveLateUptoSaid : Prop := keepaliveLateUptoRow.holds Try.pinned (OpenSpec.upto keepaliveLateSpec)

end Rows
end Go.Proofs.Ythkilfainkcmgaa
