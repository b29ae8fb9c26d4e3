/-
  DERIVED. GIVEN WITH THE SEED: THE CARDS: each row of YtdchnllflodmkaaDoorRows.lean that lists a variable, with what it lists TIED to the program's text (the seventh form; the later family's looks); each row that meets fmt, with fmt's text TOLD by the authors' own Lean function (tested against real Go, not proved from fmt's source: count such statements apart). THE CARD IS WHAT COUNTS. Prove the row's statement (the work); the ties are given (YtdchnllflodmkaaDoorTie.lean); close each card by the builder's one call (the guide's Derived/Test/ToyasCard.lean, 'card_holds'). Laid BY PROGRAM, IN A SANDBOX (cutbox-door.mjs). By AI agents, Wed Nov 11 2026. No macro, syntax, notation, axiom, sorry.
-/
import Derived.Test.YtdchnllflodmkaaDoorRows
import GoSem.ClaimSeven
namespace Go.Proofs.YtdchnllflodmkaaDoor
namespace Rows

/-- THE TIED CARD OF 'chandlerlaw4.TextGood'. -/
def textGoodCard : Claim7 := { stood := { row := textGoodRow, standIns := [], harness := (true, "0e2af04410af5f6337b8bcfb0ecd8fab3f96a4a07039ed796912f4f23759dc01"), looks := false }, kinds := [], alts := [], laidByText := true, laidKinds := [.data, .pinned], laidTests := true, laidLooks := .later }
def TextGoodCardSaid : Prop := Claim7.holds Tryd.pinned (.plain (OpenSpec.ofChange textGoodSpec)) textGoodCard

/-- THE TIED CARD OF 'chandlerlaw4.TextParts'. -/
def textPartsCard : Claim7 := { stood := { row := textPartsRow, standIns := [], harness := (true, "0e2af04410af5f6337b8bcfb0ecd8fab3f96a4a07039ed796912f4f23759dc01"), looks := false }, kinds := [], alts := [], laidByText := true, laidKinds := [.data, .pinned], laidTests := true, laidLooks := .later }
def TextPartsCardSaid : Prop := Claim7.holds Tryd.pinned (.plain (OpenSpec.ofChange textPartsSpec)) textPartsCard

/-- THE TIED CARD OF 'chandlerlaw4.TextNames'. -/
def textNamesCard : Claim7 := { stood := { row := textNamesRow, standIns := [], harness := (true, "0e2af04410af5f6337b8bcfb0ecd8fab3f96a4a07039ed796912f4f23759dc01"), looks := false }, kinds := [], alts := [], laidByText := true, laidKinds := [.data, .pinned], laidTests := true, laidLooks := .later }
def TextNamesCardSaid : Prop := Claim7.holds Tryd.pinned (.plain (OpenSpec.ofChange textNamesSpec)) textNamesCard

/-- THE TIED CARD OF 'chandlerlaw4.TextCounts'. -/
def textCountsCard : Claim7 := { stood := { row := textCountsRow, standIns := [], harness := (true, "0e2af04410af5f6337b8bcfb0ecd8fab3f96a4a07039ed796912f4f23759dc01"), looks := false }, kinds := [], alts := [], laidByText := true, laidKinds := [.data, .pinned], laidTests := true, laidLooks := .later }
def TextCountsCardSaid : Prop := Claim7.holds Tryd.pinned (.plain (OpenSpec.ofChange textCountsSpec)) textCountsCard

/-- THE TIED CARD OF 'chandlerlaw4.TextWords'. -/
def textWordsCard : Claim7 := { stood := { row := textWordsRow, standIns := [], harness := (true, "0e2af04410af5f6337b8bcfb0ecd8fab3f96a4a07039ed796912f4f23759dc01"), looks := false }, kinds := [], alts := [], laidByText := true, laidKinds := [.data, .pinned], laidTests := true, laidLooks := .later }
def TextWordsCardSaid : Prop := Claim7.holds Tryd.pinned (.plain (OpenSpec.ofChange textWordsSpec)) textWordsCard

/-- THE TIED CARD OF 'chandlerlaw4.TextSpread'. -/
def textSpreadCard : Claim7 := { stood := { row := textSpreadRow, standIns := [], harness := (true, "0e2af04410af5f6337b8bcfb0ecd8fab3f96a4a07039ed796912f4f23759dc01"), looks := false }, kinds := [], alts := [], laidByText := true, laidKinds := [.data, .pinned], laidTests := true, laidLooks := .later }
def TextSpreadCardSaid : Prop := Claim7.holds Tryd.pinned (.plain (OpenSpec.ofChange textSpreadSpec)) textSpreadCard

/-- THE TIED CARD OF 'chandlerlaw4.TextLines'. -/
def textLinesCard : Claim7 := { stood := { row := textLinesRow, standIns := [], harness := (true, "0e2af04410af5f6337b8bcfb0ecd8fab3f96a4a07039ed796912f4f23759dc01"), looks := false }, kinds := [], alts := [], laidByText := true, laidKinds := [.data, .pinned], laidTests := true, laidLooks := .later }
def TextLinesCardSaid : Prop := Claim7.holds Tryd.pinned (.plain (OpenSpec.ofChange textLinesSpec)) textLinesCard

/-- THE TIED CARD OF 'chandlerlaw4.TextLong'. -/
def textLongCard : Claim7 := { stood := { row := textLongRow, standIns := [], harness := (true, "0e2af04410af5f6337b8bcfb0ecd8fab3f96a4a07039ed796912f4f23759dc01"), looks := false }, kinds := [], alts := [], laidByText := true, laidKinds := [.data, .pinned], laidTests := true, laidLooks := .later }
def TextLongCardSaid : Prop := Claim7.holds Tryd.pinned (.plain (OpenSpec.ofChange textLongSpec)) textLongCard

/-- THE TIED CARD OF 'chandlerlaw4.TextBack'. -/
def textBackCard : Claim7 := { stood := { row := textBackRow, standIns := [], harness := (true, "0e2af04410af5f6337b8bcfb0ecd8fab3f96a4a07039ed796912f4f23759dc01"), looks := false }, kinds := [], alts := [], laidByText := true, laidKinds := [.data, .pinned], laidTests := true, laidLooks := .later }
def TextBackCardSaid : Prop := Claim7.holds Tryd.pinned (.plain (OpenSpec.ofChange textBackSpec)) textBackCard

/-- THE SECOND FORM's CARD OF 'chandlerlaw4.TextGood'. -/
def textGoodUptoCard : Claim7 := { stood := { row := textGoodUptoRow, standIns := [], harness := (true, "0e2af04410af5f6337b8bcfb0ecd8fab3f96a4a07039ed796912f4f23759dc01"), looks := false }, kinds := [], alts := [], laidByText := true, laidKinds := [.data, .pinned], laidTests := true, laidLooks := .later }
def TextGoodUptoCardSaid : Prop := Claim7.holds Tryd.pinned (.plain (OpenSpec.upto textGoodSpec)) textGoodUptoCard

/-- THE SECOND FORM's CARD OF 'chandlerlaw4.TextParts'. -/
def textPartsUptoCard : Claim7 := { stood := { row := textPartsUptoRow, standIns := [], harness := (true, "0e2af04410af5f6337b8bcfb0ecd8fab3f96a4a07039ed796912f4f23759dc01"), looks := false }, kinds := [], alts := [], laidByText := true, laidKinds := [.data, .pinned], laidTests := true, laidLooks := .later }
def TextPartsUptoCardSaid : Prop := Claim7.holds Tryd.pinned (.plain (OpenSpec.upto textPartsSpec)) textPartsUptoCard

/-- THE SECOND FORM's CARD OF 'chandlerlaw4.TextNames'. -/
def textNamesUptoCard : Claim7 := { stood := { row := textNamesUptoRow, standIns := [], harness := (true, "0e2af04410af5f6337b8bcfb0ecd8fab3f96a4a07039ed796912f4f23759dc01"), looks := false }, kinds := [], alts := [], laidByText := true, laidKinds := [.data, .pinned], laidTests := true, laidLooks := .later }
def TextNamesUptoCardSaid : Prop := Claim7.holds Tryd.pinned (.plain (OpenSpec.upto textNamesSpec)) textNamesUptoCard

/-- THE SECOND FORM's CARD OF 'chandlerlaw4.TextCounts'. -/
def textCountsUptoCard : Claim7 := { stood := { row := textCountsUptoRow, standIns := [], harness := (true, "0e2af04410af5f6337b8bcfb0ecd8fab3f96a4a07039ed796912f4f23759dc01"), looks := false }, kinds := [], alts := [], laidByText := true, laidKinds := [.data, .pinned], laidTests := true, laidLooks := .later }
def TextCountsUptoCardSaid : Prop := Claim7.holds Tryd.pinned (.plain (OpenSpec.upto textCountsSpec)) textCountsUptoCard

/-- THE SECOND FORM's CARD OF 'chandlerlaw4.TextWords'. -/
def textWordsUptoCard : Claim7 := { stood := { row := textWordsUptoRow, standIns := [], harness := (true, "0e2af04410af5f6337b8bcfb0ecd8fab3f96a4a07039ed796912f4f23759dc01"), looks := false }, kinds := [], alts := [], laidByText := true, laidKinds := [.data, .pinned], laidTests := true, laidLooks := .later }
def TextWordsUptoCardSaid : Prop := Claim7.holds Tryd.pinned (.plain (OpenSpec.upto textWordsSpec)) textWordsUptoCard

/-- THE SECOND FORM's CARD OF 'chandlerlaw4.TextSpread'. -/
def textSpreadUptoCard : Claim7 := { stood := { row := textSpreadUptoRow, standIns := [], harness := (true, "0e2af04410af5f6337b8bcfb0ecd8fab3f96a4a07039ed796912f4f23759dc01"), looks := false }, kinds := [], alts := [], laidByText := true, laidKinds := [.data, .pinned], laidTests := true, laidLooks := .later }
def TextSpreadUptoCardSaid : Prop := Claim7.holds Tryd.pinned (.plain (OpenSpec.upto textSpreadSpec)) textSpreadUptoCard

/-- THE SECOND FORM's CARD OF 'chandlerlaw4.TextLines'. -/
def textLinesUptoCard : Claim7 := { stood := { row := textLinesUptoRow, standIns := [], harness := (true, "0e2af04410af5f6337b8bcfb0ecd8fab3f96a4a07039ed796912f4f23759dc01"), looks := false }, kinds := [], alts := [], laidByText := true, laidKinds := [.data, .pinned], laidTests := true, laidLooks := .later }
def TextLinesUptoCardSaid : Prop := Claim7.holds Tryd.pinned (.plain (OpenSpec.upto textLinesSpec)) textLinesUptoCard

/-- THE SECOND FORM's CARD OF 'chandlerlaw4.TextLong'. -/
def textLongUptoCard : Claim7 := { stood := { row := textLongUptoRow, standIns := [], harness := (true, "0e2af04410af5f6337b8bcfb0ecd8fab3f96a4a07039ed796912f4f23759dc01"), looks := false }, kinds := [], alts := [], laidByText := true, laidKinds := [.data, .pinned], laidTests := true, laidLooks := .later }
def TextLongUptoCardSaid : Prop := Claim7.holds Tryd.pinned (.plain (OpenSpec.upto textLongSpec)) textLongUptoCard

/-- THE SECOND FORM's CARD OF 'chandlerlaw4.TextBack'. -/
def textBackUptoCard : Claim7 := { stood := { row := textBackUptoRow, standIns := [], harness := (true, "0e2af04410af5f6337b8bcfb0ecd8fab3f96a4a07039ed796912f4f23759dc01"), looks := false }, kinds := [], alts := [], laidByText := true, laidKinds := [.data, .pinned], laidTests := true, laidLooks := .later }
def TextBackUptoCardSaid : Prop := Claim7.holds Tryd.pinned (.plain (OpenSpec.upto textBackSpec)) textBackUptoCard
end Rows
end Go.Proofs.YtdchnllflodmkaaDoor
