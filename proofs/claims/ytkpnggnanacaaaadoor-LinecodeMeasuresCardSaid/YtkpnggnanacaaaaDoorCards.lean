/-
  DERIVED. GIVEN WITH THE SEED: THE CARDS: each row of YtkpnggnanacaaaaDoorRows.lean that lists a variable, with what it lists TIED to the program's text (the seventh form; the later family's looks); each row that meets fmt, with fmt's text TOLD by the authors' own Lean function (tested against real Go, not proved from fmt's source: count such statements apart). THE CARD IS WHAT COUNTS. Prove the row's statement (the work); the ties are given (YtkpnggnanacaaaaDoorTie.lean); close each card by the builder's one call (the guide's Derived/Test/ToyasCard.lean, 'card_holds'). Laid BY PROGRAM, IN A SANDBOX (cutbox-door.mjs). By AI agents, Wed Nov 11 2026. No macro, syntax, notation, axiom, sorry.
-/
import Derived.Test.YtkpnggnanacaaaaDoorRows
import GoSem.ClaimSeven
namespace Go.Proofs.YtkpnggnanacaaaaDoor
namespace Rows

/-- THE TIED CARD OF 'fairlinklaw03.LinecodeSymbols'. -/
def linecodeSymbolsCard : Claim7 := { stood := { row := linecodeSymbolsRow, standIns := [], harness := (true, "7cc4ea28322cfc8a0f65808c5bd2ecb66d65293b64fcebd5d7f4ee5ec40dc641"), looks := false }, kinds := [], alts := [], laidByText := true, laidKinds := [.data], laidTests := true, laidLooks := .later }
def LinecodeSymbolsCardSaid : Prop := Claim7.holds Tryd.pinned (.plain (OpenSpec.ofChange linecodeSymbolsSpec)) linecodeSymbolsCard

/-- THE TIED CARD OF 'fairlinklaw03.LinecodeTable'. -/
def linecodeTableCard : Claim7 := { stood := { row := linecodeTableRow, standIns := [], harness := (true, "7cc4ea28322cfc8a0f65808c5bd2ecb66d65293b64fcebd5d7f4ee5ec40dc641"), looks := false }, kinds := [], alts := [], laidByText := true, laidKinds := [.data], laidTests := true, laidLooks := .later }
def LinecodeTableCardSaid : Prop := Claim7.holds Tryd.pinned (.plain (OpenSpec.ofChange linecodeTableSpec)) linecodeTableCard

/-- THE TIED CARD OF 'fairlinklaw03.LinecodeInvalid'. -/
def linecodeInvalidCard : Claim7 := { stood := { row := linecodeInvalidRow, standIns := [], harness := (true, "7cc4ea28322cfc8a0f65808c5bd2ecb66d65293b64fcebd5d7f4ee5ec40dc641"), looks := false }, kinds := [], alts := [], laidByText := true, laidKinds := [.data], laidTests := true, laidLooks := .later }
def LinecodeInvalidCardSaid : Prop := Claim7.holds Tryd.pinned (.plain (OpenSpec.ofChange linecodeInvalidSpec)) linecodeInvalidCard

/-- THE TIED CARD OF 'fairlinklaw03.LinecodeCodes'. -/
def linecodeCodesCard : Claim7 := { stood := { row := linecodeCodesRow, standIns := [], harness := (true, "7cc4ea28322cfc8a0f65808c5bd2ecb66d65293b64fcebd5d7f4ee5ec40dc641"), looks := false }, kinds := [], alts := [], laidByText := true, laidKinds := [.data], laidTests := true, laidLooks := .later }
def LinecodeCodesCardSaid : Prop := Claim7.holds Tryd.pinned (.plain (OpenSpec.ofChange linecodeCodesSpec)) linecodeCodesCard

/-- THE TIED CARD OF 'fairlinklaw03.LinecodeDecodes'. -/
def linecodeDecodesCard : Claim7 := { stood := { row := linecodeDecodesRow, standIns := [], harness := (true, "7cc4ea28322cfc8a0f65808c5bd2ecb66d65293b64fcebd5d7f4ee5ec40dc641"), looks := false }, kinds := [], alts := [], laidByText := true, laidKinds := [.data], laidTests := true, laidLooks := .later }
def LinecodeDecodesCardSaid : Prop := Claim7.holds Tryd.pinned (.plain (OpenSpec.ofChange linecodeDecodesSpec)) linecodeDecodesCard

/-- THE TIED CARD OF 'fairlinklaw03.LinecodeJoins'. -/
def linecodeJoinsCard : Claim7 := { stood := { row := linecodeJoinsRow, standIns := [], harness := (true, "7cc4ea28322cfc8a0f65808c5bd2ecb66d65293b64fcebd5d7f4ee5ec40dc641"), looks := false }, kinds := [], alts := [], laidByText := true, laidKinds := [.data], laidTests := true, laidLooks := .later }
def LinecodeJoinsCardSaid : Prop := Claim7.holds Tryd.pinned (.plain (OpenSpec.ofChange linecodeJoinsSpec)) linecodeJoinsCard

/-- THE TIED CARD OF 'fairlinklaw03.LinecodeFlips'. -/
def linecodeFlipsCard : Claim7 := { stood := { row := linecodeFlipsRow, standIns := [], harness := (true, "7cc4ea28322cfc8a0f65808c5bd2ecb66d65293b64fcebd5d7f4ee5ec40dc641"), looks := false }, kinds := [], alts := [], laidByText := true, laidKinds := [.data], laidTests := true, laidLooks := .later }
def LinecodeFlipsCardSaid : Prop := Claim7.holds Tryd.pinned (.plain (OpenSpec.ofChange linecodeFlipsSpec)) linecodeFlipsCard

/-- THE TIED CARD OF 'fairlinklaw03.LinecodeBalanced'. -/
def linecodeBalancedCard : Claim7 := { stood := { row := linecodeBalancedRow, standIns := [], harness := (true, "7cc4ea28322cfc8a0f65808c5bd2ecb66d65293b64fcebd5d7f4ee5ec40dc641"), looks := false }, kinds := [], alts := [], laidByText := true, laidKinds := [.data], laidTests := true, laidLooks := .later }
def LinecodeBalancedCardSaid : Prop := Claim7.holds Tryd.pinned (.plain (OpenSpec.ofChange linecodeBalancedSpec)) linecodeBalancedCard

/-- THE TIED CARD OF 'fairlinklaw03.LinecodeMeasures'. -/
def linecodeMeasuresCard : Claim7 := { stood := { row := linecodeMeasuresRow, standIns := [], harness := (true, "7cc4ea28322cfc8a0f65808c5bd2ecb66d65293b64fcebd5d7f4ee5ec40dc641"), looks := false }, kinds := [], alts := [], laidByText := true, laidKinds := [.data], laidTests := true, laidLooks := .later }
def LinecodeMeasuresCardSaid : Prop := Claim7.holds Tryd.pinned (.plain (OpenSpec.ofChange linecodeMeasuresSpec)) linecodeMeasuresCard

/-- THE SECOND FORM's CARD OF 'fairlinklaw03.LinecodeSymbols'. -/
def linecodeSymbolsUptoCard : Claim7 := { stood := { row := linecodeSymbolsUptoRow, standIns := [], harness := (true, "7cc4ea28322cfc8a0f65808c5bd2ecb66d65293b64fcebd5d7f4ee5ec40dc641"), looks := false }, kinds := [], alts := [], laidByText := true, laidKinds := [.data], laidTests := true, laidLooks := .later }
def LinecodeSymbolsUptoCardSaid : Prop := Claim7.holds Tryd.pinned (.plain (OpenSpec.upto linecodeSymbolsSpec)) linecodeSymbolsUptoCard

/-- THE SECOND FORM's CARD OF 'fairlinklaw03.LinecodeTable'. -/
def linecodeTableUptoCard : Claim7 := { stood := { row := linecodeTableUptoRow, standIns := [], harness := (true, "7cc4ea28322cfc8a0f65808c5bd2ecb66d65293b64fcebd5d7f4ee5ec40dc641"), looks := false }, kinds := [], alts := [], laidByText := true, laidKinds := [.data], laidTests := true, laidLooks := .later }
def LinecodeTableUptoCardSaid : Prop := Claim7.holds Tryd.pinned (.plain (OpenSpec.upto linecodeTableSpec)) linecodeTableUptoCard

/-- THE SECOND FORM's CARD OF 'fairlinklaw03.LinecodeInvalid'. -/
def linecodeInvalidUptoCard : Claim7 := { stood := { row := linecodeInvalidUptoRow, standIns := [], harness := (true, "7cc4ea28322cfc8a0f65808c5bd2ecb66d65293b64fcebd5d7f4ee5ec40dc641"), looks := false }, kinds := [], alts := [], laidByText := true, laidKinds := [.data], laidTests := true, laidLooks := .later }
def LinecodeInvalidUptoCardSaid : Prop := Claim7.holds Tryd.pinned (.plain (OpenSpec.upto linecodeInvalidSpec)) linecodeInvalidUptoCard

/-- THE SECOND FORM's CARD OF 'fairlinklaw03.LinecodeCodes'. -/
def linecodeCodesUptoCard : Claim7 := { stood := { row := linecodeCodesUptoRow, standIns := [], harness := (true, "7cc4ea28322cfc8a0f65808c5bd2ecb66d65293b64fcebd5d7f4ee5ec40dc641"), looks := false }, kinds := [], alts := [], laidByText := true, laidKinds := [.data], laidTests := true, laidLooks := .later }
def LinecodeCodesUptoCardSaid : Prop := Claim7.holds Tryd.pinned (.plain (OpenSpec.upto linecodeCodesSpec)) linecodeCodesUptoCard

/-- THE SECOND FORM's CARD OF 'fairlinklaw03.LinecodeDecodes'. -/
def linecodeDecodesUptoCard : Claim7 := { stood := { row := linecodeDecodesUptoRow, standIns := [], harness := (true, "7cc4ea28322cfc8a0f65808c5bd2ecb66d65293b64fcebd5d7f4ee5ec40dc641"), looks := false }, kinds := [], alts := [], laidByText := true, laidKinds := [.data], laidTests := true, laidLooks := .later }
def LinecodeDecodesUptoCardSaid : Prop := Claim7.holds Tryd.pinned (.plain (OpenSpec.upto linecodeDecodesSpec)) linecodeDecodesUptoCard

/-- THE SECOND FORM's CARD OF 'fairlinklaw03.LinecodeJoins'. -/
def linecodeJoinsUptoCard : Claim7 := { stood := { row := linecodeJoinsUptoRow, standIns := [], harness := (true, "7cc4ea28322cfc8a0f65808c5bd2ecb66d65293b64fcebd5d7f4ee5ec40dc641"), looks := false }, kinds := [], alts := [], laidByText := true, laidKinds := [.data], laidTests := true, laidLooks := .later }
def LinecodeJoinsUptoCardSaid : Prop := Claim7.holds Tryd.pinned (.plain (OpenSpec.upto linecodeJoinsSpec)) linecodeJoinsUptoCard

/-- THE SECOND FORM's CARD OF 'fairlinklaw03.LinecodeFlips'. -/
def linecodeFlipsUptoCard : Claim7 := { stood := { row := linecodeFlipsUptoRow, standIns := [], harness := (true, "7cc4ea28322cfc8a0f65808c5bd2ecb66d65293b64fcebd5d7f4ee5ec40dc641"), looks := false }, kinds := [], alts := [], laidByText := true, laidKinds := [.data], laidTests := true, laidLooks := .later }
def LinecodeFlipsUptoCardSaid : Prop := Claim7.holds Tryd.pinned (.plain (OpenSpec.upto linecodeFlipsSpec)) linecodeFlipsUptoCard

/-- THE SECOND FORM's CARD OF 'fairlinklaw03.LinecodeBalanced'. -/
def linecodeBalancedUptoCard : Claim7 := { stood := { row := linecodeBalancedUptoRow, standIns := [], harness := (true, "7cc4ea28322cfc8a0f65808c5bd2ecb66d65293b64fcebd5d7f4ee5ec40dc641"), looks := false }, kinds := [], alts := [], laidByText := true, laidKinds := [.data], laidTests := true, laidLooks := .later }
def LinecodeBalancedUptoCardSaid : Prop := Claim7.holds Tryd.pinned (.plain (OpenSpec.upto linecodeBalancedSpec)) linecodeBalancedUptoCard

/-- THE SECOND FORM's CARD OF 'fairlinklaw03.LinecodeMeasures'. -/
def linecodeMeasuresUptoCard : Claim7 := { stood := { row := linecodeMeasuresUptoRow, standIns := [], harness := (true, "7cc4ea28322cfc8a0f65808c5bd2ecb66d65293b64fcebd5d7f4ee5ec40dc641"), looks := false }, kinds := [], alts := [], laidByText := true, laidKinds := [.data], laidTests := true, laidLooks := .later }
def LinecodeMeasuresUptoCardSaid : Prop := Claim7.holds Tryd.pinned (.plain (OpenSpec.upto linecodeMeasuresSpec)) linecodeMeasuresUptoCard
end Rows
end Go.Proofs.YtkpnggnanacaaaaDoor
