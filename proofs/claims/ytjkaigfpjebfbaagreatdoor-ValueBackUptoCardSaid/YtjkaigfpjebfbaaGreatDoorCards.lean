/-
  DERIVED. GIVEN WITH THE SEED: THE CARDS: each row of YtjkaigfpjebfbaaGreatDoorRows.lean that lists a variable, with what it lists TIED to the program's text (the seventh form; the later family's looks); each row that meets fmt, with fmt's text TOLD by the authors' own Lean function (tested against real Go, not proved from fmt's source: count such statements apart). THE CARD IS WHAT COUNTS. Prove the row's statement (the work); the ties are given (YtjkaigfpjebfbaaGreatDoorTie.lean); close each card by the builder's one call (the guide's Derived/Test/ToyasCard.lean, 'card_holds'). Laid BY PROGRAM, IN A SANDBOX (cutbox-door.mjs). By AI agents, Wed Nov 11 2026. No macro, syntax, notation, axiom, sorry.
-/
import Derived.Test.YtjkaigfpjebfbaaGreatDoorRows
import GoSem.ClaimSeven
namespace Go.Proofs.YtjkaigfpjebfbaaGreatDoor
namespace Rows

/-- THE TIED CARD OF 'chandlerlaw8.ValueWrites'. -/
def valueWritesCard : Claim7 := { stood := { row := valueWritesRow, standIns := [], harness := (true, "c35676f7c0fd97c8ec8ad7f65c743c4d37fcd289fd15eac8bdc99d30cd063d5c"), looks := true }, kinds := [], alts := [], laidByText := true, laidKinds := [.data, .data, .data], laidTests := true, laidLooks := .later }
def ValueWritesCardSaid : Prop := Claim7.holds Tryz.pinned (.plain (OpenSpec.ofChange valueWritesSpec)) valueWritesCard

/-- THE TIED CARD OF 'chandlerlaw8.ValueBack'. -/
def valueBackCard : Claim7 := { stood := { row := valueBackRow, standIns := [], harness := (true, "c35676f7c0fd97c8ec8ad7f65c743c4d37fcd289fd15eac8bdc99d30cd063d5c"), looks := true }, kinds := [], alts := [], laidByText := true, laidKinds := [.data, .data, .data], laidTests := true, laidLooks := .later }
def ValueBackCardSaid : Prop := Claim7.holds Tryz.pinned (.plain (OpenSpec.ofChange valueBackSpec)) valueBackCard

/-- THE SECOND FORM's CARD OF 'chandlerlaw8.ValueWrites'. -/
def valueWritesUptoCard : Claim7 := { stood := { row := valueWritesUptoRow, standIns := [], harness := (true, "c35676f7c0fd97c8ec8ad7f65c743c4d37fcd289fd15eac8bdc99d30cd063d5c"), looks := true }, kinds := [], alts := [], laidByText := true, laidKinds := [.data, .data, .data], laidTests := true, laidLooks := .later }
def ValueWritesUptoCardSaid : Prop := Claim7.holds Tryz.pinned (.plain (OpenSpec.upto valueWritesSpec)) valueWritesUptoCard

/-- THE SECOND FORM's CARD OF 'chandlerlaw8.ValueBack'. -/
def valueBackUptoCard : Claim7 := { stood := { row := valueBackUptoRow, standIns := [], harness := (true, "c35676f7c0fd97c8ec8ad7f65c743c4d37fcd289fd15eac8bdc99d30cd063d5c"), looks := true }, kinds := [], alts := [], laidByText := true, laidKinds := [.data, .data, .data], laidTests := true, laidLooks := .later }
def ValueBackUptoCardSaid : Prop := Claim7.holds Tryz.pinned (.plain (OpenSpec.upto valueBackSpec)) valueBackUptoCard
end Rows
end Go.Proofs.YtjkaigfpjebfbaaGreatDoor
