/-
  NARROWER THAN 'FOR EVERY INPUT', by the rows' own cells (each row's printed sentence says how): LinecodeSymbols: laid · LinecodeTable: laid · LinecodeInvalid: laid · LinecodeCodes: laid · LinecodeDecodes: laid · LinecodeJoins: laid · LinecodeFlips: laid · LinecodeBalanced: laid · LinecodeMeasures: laid.
  DERIVED. THE GIVEN ROWS OF THIS SEAT. 9 by the template 'for every input the law returns true; each argument reads behind the call as it read before'; 0 by the template 'total and deterministic' (their statements: YtkpnggnanacaaaaDoorTotals.lean).
  GIVEN WITH THE SEED: the statements are not yours to turn. If you find one false, say at which input.
  Laid BY PROGRAM, IN A SANDBOX (cutbox-rows.mjs): the forced cells as the released guide's own fill.sh prints them over the translation 0bd2307891651f1a… (all of the seat's roots in one cut). By AI agents, Wed Nov 11 2026. No macro, syntax, notation, axiom, sorry.
-/
import Derived.Test.YtkpnggnanacaaaaDoorChecked
import GoSem.Claim
import GoSem.ClaimJoined
import GoSem.ClaimMapViews
import Derived.JoinedTies
import Derived.KernelRfl
namespace Go.Proofs.YtkpnggnanacaaaaDoor
/- THE CELL 'sum', in the pinned program and in every row, IS THE sha256 OF THE DUMP (.gsa) THAT YtkpnggnanacaaaaDoorProg.lean LOADS. Nothing in Lean hashes anything: it is a label: what it is worth is what the hold of that sum in a sandbox is worth. -/
noncomputable def Tryd.pinned : Pinned := { name := "ytkpnggnanacaaaadoor", sum := "0bd2307891651f1ae5aff2b21f5f9903dc66369ec8f39f9cfbef4291743a6df8", checked := Tryd.checked }
namespace Rows
def none {H : Type} : Left H := { results := [], args := [] }

/- WHAT THE LISTED PACKAGE-LEVEL VARIABLES READ AS WHEN THE CALL BEGINS. Each datum BY PROGRAM (the guide's laid-datum.mjs) off the statement by which the dump's own 'gosem.cut.vars' lays the variable. In a bare row this is a premise. The card (YtkpnggnanacaaaaDoorCards.lean) ties it to the program's text. -/
def laid_fairlink_linecode_valid {H : Type} : DataW H := .agg [.lit (.int .u8 7), .lit (.int .u8 11), .lit (.int .u8 13), .lit (.int .u8 14), .lit (.int .u8 19), .lit (.int .u8 21), .lit (.int .u8 22), .lit (.int .u8 25), .lit (.int .u8 26), .lit (.int .u8 28), .lit (.int .u8 35), .lit (.int .u8 37), .lit (.int .u8 38), .lit (.int .u8 41), .lit (.int .u8 42), .lit (.int .u8 44), .lit (.int .u8 49), .lit (.int .u8 50), .lit (.int .u8 52), .lit (.int .u8 56)]

/-- 'fairlinklaw03.LinecodeSymbols': WHATEVER THE INPUT: true; the input reads as it did. -/
def linecodeSymbolsSpec : ChangeSpec := { name := "linecodeSymbols", fn := fun _ => fun
  | [d1, d2] => { results := [.lit (.bool true)], args := [d1, d2] }
  | _ => none }
def linecodeSymbolsRow : OpenClaim := { program := "ytkpnggnanacaaaadoor", sum := "0bd2307891651f1ae5aff2b21f5f9903dc66369ec8f39f9cfbef4291743a6df8", func := "fairlink/fairlinklaw03.LinecodeSymbols", spec := "linecodeSymbols", named := ["fairlink/linecode.valid"], apart := false, laid := [("fairlink/linecode.valid", laid_fairlink_linecode_valid)] }
def LinecodeSymbolsSaid : Prop := linecodeSymbolsRow.holds Tryd.pinned (OpenSpec.ofChange linecodeSymbolsSpec)

/-- ITS FALSE NEIGHBOUR: 'it returns false'. Refute it at one input. -/
def linecodeSymbolsWrong : ChangeSpec := { name := "linecodeSymbols", fn := fun _ => fun
  | [d1, d2] => { results := [.lit (.bool false)], args := [d1, d2] }
  | _ => none }
def LinecodeSymbolsWrongFalsely : Prop := linecodeSymbolsRow.holds Tryd.pinned (OpenSpec.ofChange linecodeSymbolsWrong)

/-- 'fairlinklaw03.LinecodeTable': WHATEVER THE INPUT: true; the input reads as it did. -/
def linecodeTableSpec : ChangeSpec := { name := "linecodeTable", fn := fun _ => fun
  | [d] => { results := [.lit (.bool true)], args := [d] }
  | _ => none }
def linecodeTableRow : OpenClaim := { program := "ytkpnggnanacaaaadoor", sum := "0bd2307891651f1ae5aff2b21f5f9903dc66369ec8f39f9cfbef4291743a6df8", func := "fairlink/fairlinklaw03.LinecodeTable", spec := "linecodeTable", named := ["fairlink/linecode.valid"], apart := false, laid := [("fairlink/linecode.valid", laid_fairlink_linecode_valid)] }
def LinecodeTableSaid : Prop := linecodeTableRow.holds Tryd.pinned (OpenSpec.ofChange linecodeTableSpec)

/-- ITS FALSE NEIGHBOUR: 'it returns false'. Refute it at one input. -/
def linecodeTableWrong : ChangeSpec := { name := "linecodeTable", fn := fun _ => fun
  | [d] => { results := [.lit (.bool false)], args := [d] }
  | _ => none }
def LinecodeTableWrongFalsely : Prop := linecodeTableRow.holds Tryd.pinned (OpenSpec.ofChange linecodeTableWrong)

/-- 'fairlinklaw03.LinecodeInvalid': WHATEVER THE INPUT: true; the input reads as it did. -/
def linecodeInvalidSpec : ChangeSpec := { name := "linecodeInvalid", fn := fun _ => fun
  | [d1, d2] => { results := [.lit (.bool true)], args := [d1, d2] }
  | _ => none }
def linecodeInvalidRow : OpenClaim := { program := "ytkpnggnanacaaaadoor", sum := "0bd2307891651f1ae5aff2b21f5f9903dc66369ec8f39f9cfbef4291743a6df8", func := "fairlink/fairlinklaw03.LinecodeInvalid", spec := "linecodeInvalid", named := ["fairlink/linecode.valid"], apart := false, laid := [("fairlink/linecode.valid", laid_fairlink_linecode_valid)] }
def LinecodeInvalidSaid : Prop := linecodeInvalidRow.holds Tryd.pinned (OpenSpec.ofChange linecodeInvalidSpec)

/-- ITS FALSE NEIGHBOUR: 'it returns false'. Refute it at one input. -/
def linecodeInvalidWrong : ChangeSpec := { name := "linecodeInvalid", fn := fun _ => fun
  | [d1, d2] => { results := [.lit (.bool false)], args := [d1, d2] }
  | _ => none }
def LinecodeInvalidWrongFalsely : Prop := linecodeInvalidRow.holds Tryd.pinned (OpenSpec.ofChange linecodeInvalidWrong)

/-- 'fairlinklaw03.LinecodeCodes': WHATEVER THE INPUT: true; the input reads as it did. -/
def linecodeCodesSpec : ChangeSpec := { name := "linecodeCodes", fn := fun _ => fun
  | [d] => { results := [.lit (.bool true)], args := [d] }
  | _ => none }
def linecodeCodesRow : OpenClaim := { program := "ytkpnggnanacaaaadoor", sum := "0bd2307891651f1ae5aff2b21f5f9903dc66369ec8f39f9cfbef4291743a6df8", func := "fairlink/fairlinklaw03.LinecodeCodes", spec := "linecodeCodes", named := ["fairlink/linecode.valid"], apart := false, laid := [("fairlink/linecode.valid", laid_fairlink_linecode_valid)] }
def LinecodeCodesSaid : Prop := linecodeCodesRow.holds Tryd.pinned (OpenSpec.ofChange linecodeCodesSpec)

/-- ITS FALSE NEIGHBOUR: 'it returns false'. Refute it at one input. -/
def linecodeCodesWrong : ChangeSpec := { name := "linecodeCodes", fn := fun _ => fun
  | [d] => { results := [.lit (.bool false)], args := [d] }
  | _ => none }
def LinecodeCodesWrongFalsely : Prop := linecodeCodesRow.holds Tryd.pinned (OpenSpec.ofChange linecodeCodesWrong)

/-- 'fairlinklaw03.LinecodeDecodes': WHATEVER THE INPUT: true; the input reads as it did. -/
def linecodeDecodesSpec : ChangeSpec := { name := "linecodeDecodes", fn := fun _ => fun
  | [d] => { results := [.lit (.bool true)], args := [d] }
  | _ => none }
def linecodeDecodesRow : OpenClaim := { program := "ytkpnggnanacaaaadoor", sum := "0bd2307891651f1ae5aff2b21f5f9903dc66369ec8f39f9cfbef4291743a6df8", func := "fairlink/fairlinklaw03.LinecodeDecodes", spec := "linecodeDecodes", named := ["fairlink/linecode.valid"], apart := false, laid := [("fairlink/linecode.valid", laid_fairlink_linecode_valid)] }
def LinecodeDecodesSaid : Prop := linecodeDecodesRow.holds Tryd.pinned (OpenSpec.ofChange linecodeDecodesSpec)

/-- ITS FALSE NEIGHBOUR: 'it returns false'. Refute it at one input. -/
def linecodeDecodesWrong : ChangeSpec := { name := "linecodeDecodes", fn := fun _ => fun
  | [d] => { results := [.lit (.bool false)], args := [d] }
  | _ => none }
def LinecodeDecodesWrongFalsely : Prop := linecodeDecodesRow.holds Tryd.pinned (OpenSpec.ofChange linecodeDecodesWrong)

/-- 'fairlinklaw03.LinecodeJoins': WHATEVER THE INPUT: true; the input reads as it did. -/
def linecodeJoinsSpec : ChangeSpec := { name := "linecodeJoins", fn := fun _ => fun
  | [d1, d2] => { results := [.lit (.bool true)], args := [d1, d2] }
  | _ => none }
def linecodeJoinsRow : OpenClaim := { program := "ytkpnggnanacaaaadoor", sum := "0bd2307891651f1ae5aff2b21f5f9903dc66369ec8f39f9cfbef4291743a6df8", func := "fairlink/fairlinklaw03.LinecodeJoins", spec := "linecodeJoins", named := ["fairlink/linecode.valid"], apart := false, laid := [("fairlink/linecode.valid", laid_fairlink_linecode_valid)] }
def LinecodeJoinsSaid : Prop := linecodeJoinsRow.holds Tryd.pinned (OpenSpec.ofChange linecodeJoinsSpec)

/-- ITS FALSE NEIGHBOUR: 'it returns false'. Refute it at one input. -/
def linecodeJoinsWrong : ChangeSpec := { name := "linecodeJoins", fn := fun _ => fun
  | [d1, d2] => { results := [.lit (.bool false)], args := [d1, d2] }
  | _ => none }
def LinecodeJoinsWrongFalsely : Prop := linecodeJoinsRow.holds Tryd.pinned (OpenSpec.ofChange linecodeJoinsWrong)

/-- 'fairlinklaw03.LinecodeFlips': WHATEVER THE INPUT: true; the input reads as it did. -/
def linecodeFlipsSpec : ChangeSpec := { name := "linecodeFlips", fn := fun _ => fun
  | [d1, d2] => { results := [.lit (.bool true)], args := [d1, d2] }
  | _ => none }
def linecodeFlipsRow : OpenClaim := { program := "ytkpnggnanacaaaadoor", sum := "0bd2307891651f1ae5aff2b21f5f9903dc66369ec8f39f9cfbef4291743a6df8", func := "fairlink/fairlinklaw03.LinecodeFlips", spec := "linecodeFlips", named := ["fairlink/linecode.valid"], apart := false, laid := [("fairlink/linecode.valid", laid_fairlink_linecode_valid)] }
def LinecodeFlipsSaid : Prop := linecodeFlipsRow.holds Tryd.pinned (OpenSpec.ofChange linecodeFlipsSpec)

/-- ITS FALSE NEIGHBOUR: 'it returns false'. Refute it at one input. -/
def linecodeFlipsWrong : ChangeSpec := { name := "linecodeFlips", fn := fun _ => fun
  | [d1, d2] => { results := [.lit (.bool false)], args := [d1, d2] }
  | _ => none }
def LinecodeFlipsWrongFalsely : Prop := linecodeFlipsRow.holds Tryd.pinned (OpenSpec.ofChange linecodeFlipsWrong)

/-- 'fairlinklaw03.LinecodeBalanced': WHATEVER THE INPUT: true; the input reads as it did. -/
def linecodeBalancedSpec : ChangeSpec := { name := "linecodeBalanced", fn := fun _ => fun
  | [d] => { results := [.lit (.bool true)], args := [d] }
  | _ => none }
def linecodeBalancedRow : OpenClaim := { program := "ytkpnggnanacaaaadoor", sum := "0bd2307891651f1ae5aff2b21f5f9903dc66369ec8f39f9cfbef4291743a6df8", func := "fairlink/fairlinklaw03.LinecodeBalanced", spec := "linecodeBalanced", named := ["fairlink/linecode.valid"], apart := false, laid := [("fairlink/linecode.valid", laid_fairlink_linecode_valid)] }
def LinecodeBalancedSaid : Prop := linecodeBalancedRow.holds Tryd.pinned (OpenSpec.ofChange linecodeBalancedSpec)

/-- ITS FALSE NEIGHBOUR: 'it returns false'. Refute it at one input. -/
def linecodeBalancedWrong : ChangeSpec := { name := "linecodeBalanced", fn := fun _ => fun
  | [d] => { results := [.lit (.bool false)], args := [d] }
  | _ => none }
def LinecodeBalancedWrongFalsely : Prop := linecodeBalancedRow.holds Tryd.pinned (OpenSpec.ofChange linecodeBalancedWrong)

/-- 'fairlinklaw03.LinecodeMeasures': WHATEVER THE INPUT: true; the input reads as it did. -/
def linecodeMeasuresSpec : ChangeSpec := { name := "linecodeMeasures", fn := fun _ => fun
  | [d] => { results := [.lit (.bool true)], args := [d] }
  | _ => none }
def linecodeMeasuresRow : OpenClaim := { program := "ytkpnggnanacaaaadoor", sum := "0bd2307891651f1ae5aff2b21f5f9903dc66369ec8f39f9cfbef4291743a6df8", func := "fairlink/fairlinklaw03.LinecodeMeasures", spec := "linecodeMeasures", named := ["fairlink/linecode.valid"], apart := false, laid := [("fairlink/linecode.valid", laid_fairlink_linecode_valid)] }
def LinecodeMeasuresSaid : Prop := linecodeMeasuresRow.holds Tryd.pinned (OpenSpec.ofChange linecodeMeasuresSpec)

/-- ITS FALSE NEIGHBOUR: 'it returns false'. Refute it at one input. -/
def linecodeMeasuresWrong : ChangeSpec := { name := "linecodeMeasures", fn := fun _ => fun
  | [d] => { results := [.lit (.bool false)], args := [d] }
  | _ => none }
def LinecodeMeasuresWrongFalsely : Prop := linecodeMeasuresRow.holds Tryd.pinned (OpenSpec.ofChange linecodeMeasuresWrong)

/- THE SECOND FORM. 'bulk': how many values and letters a reading holds, each counted each time it is reached (what is shared counts as often as it is met; a slice's spare places count too). A statement '..UptoSaid' is the law's where the arguments, and the package variables that the reading takes, are together of bulk at most 1048576: NARROWER than '..Said'. Prove '..Said' where nothing that the law and all that it calls make is longer than what came in: it says more and counts as full. Else prove '..UptoSaid'. A law counts once. -/
mutual
def uptoBulk {H : Type} : DataW H → Nat
  | .lit (.string bytes) => bytes.length + 1
  | .lit _ => 1
  | .nil => 1
  | .ptr d => uptoBulk d + 1
  | .slice elems spare => uptoBulkAll elems + uptoBulkAll spare + 1
  | .agg parts => uptoBulkAll parts + 1
  | .iface _ d => uptoBulk d + 1
  | .map entries => uptoBulkEntries entries + 1
  | .held _ => 1
def uptoBulkAll {H : Type} : List (DataW H) → Nat
  | [] => 0
  | d :: r => uptoBulk d + uptoBulkAll r
def uptoBulkEntries {H : Type} : List (Lit × DataW H) → Nat
  | [] => 0
  | x :: r => uptoBulkEntry x + uptoBulkEntries r
def uptoBulkEntry {H : Type} : Lit × DataW H → Nat
  | (.string bytes, d) => bytes.length + uptoBulk d + 1
  | (_, d) => uptoBulk d + 1
 end
def uptoSmall : (H : Type) → List (DataW H) → Bool := fun _ ds => decide (uptoBulkAll ds ≤ 1048576)
def OpenSpec.upto (s : _root_.Go.ChangeSpec) : _root_.Go.OpenSpec := { _root_.Go.OpenSpec.ofChange s with cond := some uptoSmall }

/-- 'fairlinklaw03.LinecodeSymbols', WHERE WHAT IT READS IS OF BULK AT MOST 1048576: true; the input reads as it did. -/
def linecodeSymbolsUptoRow : OpenClaim := { program := "ytkpnggnanacaaaadoor", sum := "0bd2307891651f1ae5aff2b21f5f9903dc66369ec8f39f9cfbef4291743a6df8", func := "fairlink/fairlinklaw03.LinecodeSymbols", spec := "linecodeSymbols", named := ["fairlink/linecode.valid"], apart := false, laid := [("fairlink/linecode.valid", laid_fairlink_linecode_valid)], narrowed := true }
def LinecodeSymbolsUptoSaid : Prop := linecodeSymbolsUptoRow.holds Tryd.pinned (OpenSpec.upto linecodeSymbolsSpec)

/-- 'fairlinklaw03.LinecodeTable', WHERE WHAT IT READS IS OF BULK AT MOST 1048576: true; the input reads as it did. -/
def linecodeTableUptoRow : OpenClaim := { program := "ytkpnggnanacaaaadoor", sum := "0bd2307891651f1ae5aff2b21f5f9903dc66369ec8f39f9cfbef4291743a6df8", func := "fairlink/fairlinklaw03.LinecodeTable", spec := "linecodeTable", named := ["fairlink/linecode.valid"], apart := false, laid := [("fairlink/linecode.valid", laid_fairlink_linecode_valid)], narrowed := true }
def LinecodeTableUptoSaid : Prop := linecodeTableUptoRow.holds Tryd.pinned (OpenSpec.upto linecodeTableSpec)

/-- 'fairlinklaw03.LinecodeInvalid', WHERE WHAT IT READS IS OF BULK AT MOST 1048576: true; the input reads as it did. -/
def linecodeInvalidUptoRow : OpenClaim := { program := "ytkpnggnanacaaaadoor", sum := "0bd2307891651f1ae5aff2b21f5f9903dc66369ec8f39f9cfbef4291743a6df8", func := "fairlink/fairlinklaw03.LinecodeInvalid", spec := "linecodeInvalid", named := ["fairlink/linecode.valid"], apart := false, laid := [("fairlink/linecode.valid", laid_fairlink_linecode_valid)], narrowed := true }
def LinecodeInvalidUptoSaid : Prop := linecodeInvalidUptoRow.holds Tryd.pinned (OpenSpec.upto linecodeInvalidSpec)

/-- 'fairlinklaw03.LinecodeCodes', WHERE WHAT IT READS IS OF BULK AT MOST 1048576: true; the input reads as it did. -/
def linecodeCodesUptoRow : OpenClaim := { program := "ytkpnggnanacaaaadoor", sum := "0bd2307891651f1ae5aff2b21f5f9903dc66369ec8f39f9cfbef4291743a6df8", func := "fairlink/fairlinklaw03.LinecodeCodes", spec := "linecodeCodes", named := ["fairlink/linecode.valid"], apart := false, laid := [("fairlink/linecode.valid", laid_fairlink_linecode_valid)], narrowed := true }
def LinecodeCodesUptoSaid : Prop := linecodeCodesUptoRow.holds Tryd.pinned (OpenSpec.upto linecodeCodesSpec)

/-- 'fairlinklaw03.LinecodeDecodes', WHERE WHAT IT READS IS OF BULK AT MOST 1048576: true; the input reads as it did. -/
def linecodeDecodesUptoRow : OpenClaim := { program := "ytkpnggnanacaaaadoor", sum := "0bd2307891651f1ae5aff2b21f5f9903dc66369ec8f39f9cfbef4291743a6df8", func := "fairlink/fairlinklaw03.LinecodeDecodes", spec := "linecodeDecodes", named := ["fairlink/linecode.valid"], apart := false, laid := [("fairlink/linecode.valid", laid_fairlink_linecode_valid)], narrowed := true }
def LinecodeDecodesUptoSaid : Prop := linecodeDecodesUptoRow.holds Tryd.pinned (OpenSpec.upto linecodeDecodesSpec)

/-- 'fairlinklaw03.LinecodeJoins', WHERE WHAT IT READS IS OF BULK AT MOST 1048576: true; the input reads as it did. -/
def linecodeJoinsUptoRow : OpenClaim := { program := "ytkpnggnanacaaaadoor", sum := "0bd2307891651f1ae5aff2b21f5f9903dc66369ec8f39f9cfbef4291743a6df8", func := "fairlink/fairlinklaw03.LinecodeJoins", spec := "linecodeJoins", named := ["fairlink/linecode.valid"], apart := false, laid := [("fairlink/linecode.valid", laid_fairlink_linecode_valid)], narrowed := true }
def LinecodeJoinsUptoSaid : Prop := linecodeJoinsUptoRow.holds Tryd.pinned (OpenSpec.upto linecodeJoinsSpec)

/-- 'fairlinklaw03.LinecodeFlips', WHERE WHAT IT READS IS OF BULK AT MOST 1048576: true; the input reads as it did. -/
def linecodeFlipsUptoRow : OpenClaim := { program := "ytkpnggnanacaaaadoor", sum := "0bd2307891651f1ae5aff2b21f5f9903dc66369ec8f39f9cfbef4291743a6df8", func := "fairlink/fairlinklaw03.LinecodeFlips", spec := "linecodeFlips", named := ["fairlink/linecode.valid"], apart := false, laid := [("fairlink/linecode.valid", laid_fairlink_linecode_valid)], narrowed := true }
def LinecodeFlipsUptoSaid : Prop := linecodeFlipsUptoRow.holds Tryd.pinned (OpenSpec.upto linecodeFlipsSpec)

/-- 'fairlinklaw03.LinecodeBalanced', WHERE WHAT IT READS IS OF BULK AT MOST 1048576: true; the input reads as it did. -/
def linecodeBalancedUptoRow : OpenClaim := { program := "ytkpnggnanacaaaadoor", sum := "0bd2307891651f1ae5aff2b21f5f9903dc66369ec8f39f9cfbef4291743a6df8", func := "fairlink/fairlinklaw03.LinecodeBalanced", spec := "linecodeBalanced", named := ["fairlink/linecode.valid"], apart := false, laid := [("fairlink/linecode.valid", laid_fairlink_linecode_valid)], narrowed := true }
def LinecodeBalancedUptoSaid : Prop := linecodeBalancedUptoRow.holds Tryd.pinned (OpenSpec.upto linecodeBalancedSpec)

/-- 'fairlinklaw03.LinecodeMeasures', WHERE WHAT IT READS IS OF BULK AT MOST 1048576: true; the input reads as it did. -/
def linecodeMeasuresUptoRow : OpenClaim := { program := "ytkpnggnanacaaaadoor", sum := "0bd2307891651f1ae5aff2b21f5f9903dc66369ec8f39f9cfbef4291743a6df8", func := "fairlink/fairlinklaw03.LinecodeMeasures", spec := "linecodeMeasures", named := ["fairlink/linecode.valid"], apart := false, laid := [("fairlink/linecode.valid", laid_fairlink_linecode_valid)], narrowed := true }
def LinecodeMeasuresUptoSaid : Prop := linecodeMeasuresUptoRow.holds Tryd.pinned (OpenSpec.upto linecodeMeasuresSpec)

end Rows
end Go.Proofs.YtkpnggnanacaaaaDoor
