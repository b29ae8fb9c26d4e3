/-
  DERIVED. GIVEN WITH THE SEED: THE CARDS: each row of YtjkaigfpjebfbaaDoorRows.lean that lists a variable, with what it lists TIED to the program's text (the seventh form; the later family's looks); each row that meets fmt, with fmt's text TOLD by the authors' own Lean function (tested against real Go, not proved from fmt's source: count such statements apart). THE CARD IS WHAT COUNTS. Prove the row's statement (the work); the ties are given (YtjkaigfpjebfbaaDoorTie.lean); close each card by the builder's one call (the guide's Derived/Test/ToyasCard.lean, 'card_holds'). Laid BY PROGRAM, IN A SANDBOX (cutbox-door.mjs). By AI agents, Wed Nov 11 2026. No macro, syntax, notation, axiom, sorry.
-/
import Derived.Test.YtjkaigfpjebfbaaDoorRows
import GoSem.ClaimSeven
namespace Go.Proofs.YtjkaigfpjebfbaaDoor
namespace Rows

/-- THE TIED CARD OF 'chandlerlaw5.StanzaParses'. -/
def stanzaParsesCard : Claim7 := { stood := { row := stanzaParsesRow, standIns := [], harness := (true, "a8676f3884b3204940383a862ad95b31702c243696a23e3ca359deb080c0c50f"), looks := false }, kinds := [], alts := [], laidByText := true, laidKinds := [.data, .pinned], laidTests := true, laidLooks := .later }
def StanzaParsesCardSaid : Prop := Claim7.holds Tryd.pinned (.plain (OpenSpec.ofChange stanzaParsesSpec)) stanzaParsesCard

/-- THE TIED CARD OF 'chandlerlaw5.StanzaGets'. -/
def stanzaGetsCard : Claim7 := { stood := { row := stanzaGetsRow, standIns := [], harness := (true, "a8676f3884b3204940383a862ad95b31702c243696a23e3ca359deb080c0c50f"), looks := false }, kinds := [], alts := [], laidByText := true, laidKinds := [.data, .pinned], laidTests := true, laidLooks := .later }
def StanzaGetsCardSaid : Prop := Claim7.holds Tryd.pinned (.plain (OpenSpec.ofChange stanzaGetsSpec)) stanzaGetsCard

/-- THE TIED CARD OF 'chandlerlaw5.StanzaMany'. -/
def stanzaManyCard : Claim7 := { stood := { row := stanzaManyRow, standIns := [], harness := (true, "a8676f3884b3204940383a862ad95b31702c243696a23e3ca359deb080c0c50f"), looks := false }, kinds := [], alts := [], laidByText := true, laidKinds := [.data, .pinned], laidTests := true, laidLooks := .later }
def StanzaManyCardSaid : Prop := Claim7.holds Tryd.pinned (.plain (OpenSpec.ofChange stanzaManySpec)) stanzaManyCard

/-- THE TIED CARD OF 'chandlerlaw5.StanzaRemarks'. -/
def stanzaRemarksCard : Claim7 := { stood := { row := stanzaRemarksRow, standIns := [], harness := (true, "a8676f3884b3204940383a862ad95b31702c243696a23e3ca359deb080c0c50f"), looks := false }, kinds := [], alts := [], laidByText := true, laidKinds := [.data, .pinned], laidTests := true, laidLooks := .later }
def StanzaRemarksCardSaid : Prop := Claim7.holds Tryd.pinned (.plain (OpenSpec.ofChange stanzaRemarksSpec)) stanzaRemarksCard

/-- THE TIED CARD OF 'chandlerlaw5.StanzaPrints'. -/
def stanzaPrintsCard : Claim7 := { stood := { row := stanzaPrintsRow, standIns := [], harness := (true, "a8676f3884b3204940383a862ad95b31702c243696a23e3ca359deb080c0c50f"), looks := false }, kinds := [], alts := [], laidByText := true, laidKinds := [.data, .pinned], laidTests := true, laidLooks := .later }
def StanzaPrintsCardSaid : Prop := Claim7.holds Tryd.pinned (.plain (OpenSpec.ofChange stanzaPrintsSpec)) stanzaPrintsCard

/-- THE TIED CARD OF 'chandlerlaw5.StanzaBack'. -/
def stanzaBackCard : Claim7 := { stood := { row := stanzaBackRow, standIns := [], harness := (true, "a8676f3884b3204940383a862ad95b31702c243696a23e3ca359deb080c0c50f"), looks := false }, kinds := [], alts := [], laidByText := true, laidKinds := [.data, .pinned], laidTests := true, laidLooks := .later }
def StanzaBackCardSaid : Prop := Claim7.holds Tryd.pinned (.plain (OpenSpec.ofChange stanzaBackSpec)) stanzaBackCard

/-- THE TIED CARD OF 'chandlerlaw5.StanzaParsed'. -/
def stanzaParsedCard : Claim7 := { stood := { row := stanzaParsedRow, standIns := [], harness := (true, "a8676f3884b3204940383a862ad95b31702c243696a23e3ca359deb080c0c50f"), looks := false }, kinds := [], alts := [], laidByText := true, laidKinds := [.data, .pinned], laidTests := true, laidLooks := .later }
def StanzaParsedCardSaid : Prop := Claim7.holds Tryd.pinned (.plain (OpenSpec.ofChange stanzaParsedSpec)) stanzaParsedCard

/-- THE TIED CARD OF 'chandlerlaw5.StanzaJoins'. -/
def stanzaJoinsCard : Claim7 := { stood := { row := stanzaJoinsRow, standIns := [], harness := (true, "a8676f3884b3204940383a862ad95b31702c243696a23e3ca359deb080c0c50f"), looks := false }, kinds := [], alts := [], laidByText := true, laidKinds := [.data, .pinned], laidTests := true, laidLooks := .later }
def StanzaJoinsCardSaid : Prop := Claim7.holds Tryd.pinned (.plain (OpenSpec.ofChange stanzaJoinsSpec)) stanzaJoinsCard

/-- THE SECOND FORM's CARD OF 'chandlerlaw5.StanzaParses'. -/
def stanzaParsesUptoCard : Claim7 := { stood := { row := stanzaParsesUptoRow, standIns := [], harness := (true, "a8676f3884b3204940383a862ad95b31702c243696a23e3ca359deb080c0c50f"), looks := false }, kinds := [], alts := [], laidByText := true, laidKinds := [.data, .pinned], laidTests := true, laidLooks := .later }
def StanzaParsesUptoCardSaid : Prop := Claim7.holds Tryd.pinned (.plain (OpenSpec.upto stanzaParsesSpec)) stanzaParsesUptoCard

/-- THE SECOND FORM's CARD OF 'chandlerlaw5.StanzaGets'. -/
def stanzaGetsUptoCard : Claim7 := { stood := { row := stanzaGetsUptoRow, standIns := [], harness := (true, "a8676f3884b3204940383a862ad95b31702c243696a23e3ca359deb080c0c50f"), looks := false }, kinds := [], alts := [], laidByText := true, laidKinds := [.data, .pinned], laidTests := true, laidLooks := .later }
def StanzaGetsUptoCardSaid : Prop := Claim7.holds Tryd.pinned (.plain (OpenSpec.upto stanzaGetsSpec)) stanzaGetsUptoCard

/-- THE SECOND FORM's CARD OF 'chandlerlaw5.StanzaMany'. -/
def stanzaManyUptoCard : Claim7 := { stood := { row := stanzaManyUptoRow, standIns := [], harness := (true, "a8676f3884b3204940383a862ad95b31702c243696a23e3ca359deb080c0c50f"), looks := false }, kinds := [], alts := [], laidByText := true, laidKinds := [.data, .pinned], laidTests := true, laidLooks := .later }
def StanzaManyUptoCardSaid : Prop := Claim7.holds Tryd.pinned (.plain (OpenSpec.upto stanzaManySpec)) stanzaManyUptoCard

/-- THE SECOND FORM's CARD OF 'chandlerlaw5.StanzaRemarks'. -/
def stanzaRemarksUptoCard : Claim7 := { stood := { row := stanzaRemarksUptoRow, standIns := [], harness := (true, "a8676f3884b3204940383a862ad95b31702c243696a23e3ca359deb080c0c50f"), looks := false }, kinds := [], alts := [], laidByText := true, laidKinds := [.data, .pinned], laidTests := true, laidLooks := .later }
def StanzaRemarksUptoCardSaid : Prop := Claim7.holds Tryd.pinned (.plain (OpenSpec.upto stanzaRemarksSpec)) stanzaRemarksUptoCard

/-- THE SECOND FORM's CARD OF 'chandlerlaw5.StanzaPrints'. -/
def stanzaPrintsUptoCard : Claim7 := { stood := { row := stanzaPrintsUptoRow, standIns := [], harness := (true, "a8676f3884b3204940383a862ad95b31702c243696a23e3ca359deb080c0c50f"), looks := false }, kinds := [], alts := [], laidByText := true, laidKinds := [.data, .pinned], laidTests := true, laidLooks := .later }
def StanzaPrintsUptoCardSaid : Prop := Claim7.holds Tryd.pinned (.plain (OpenSpec.upto stanzaPrintsSpec)) stanzaPrintsUptoCard

/-- THE SECOND FORM's CARD OF 'chandlerlaw5.StanzaBack'. -/
def stanzaBackUptoCard : Claim7 := { stood := { row := stanzaBackUptoRow, standIns := [], harness := (true, "a8676f3884b3204940383a862ad95b31702c243696a23e3ca359deb080c0c50f"), looks := false }, kinds := [], alts := [], laidByText := true, laidKinds := [.data, .pinned], laidTests := true, laidLooks := .later }
def StanzaBackUptoCardSaid : Prop := Claim7.holds Tryd.pinned (.plain (OpenSpec.upto stanzaBackSpec)) stanzaBackUptoCard

/-- THE SECOND FORM's CARD OF 'chandlerlaw5.StanzaParsed'. -/
def stanzaParsedUptoCard : Claim7 := { stood := { row := stanzaParsedUptoRow, standIns := [], harness := (true, "a8676f3884b3204940383a862ad95b31702c243696a23e3ca359deb080c0c50f"), looks := false }, kinds := [], alts := [], laidByText := true, laidKinds := [.data, .pinned], laidTests := true, laidLooks := .later }
def StanzaParsedUptoCardSaid : Prop := Claim7.holds Tryd.pinned (.plain (OpenSpec.upto stanzaParsedSpec)) stanzaParsedUptoCard

/-- THE SECOND FORM's CARD OF 'chandlerlaw5.StanzaJoins'. -/
def stanzaJoinsUptoCard : Claim7 := { stood := { row := stanzaJoinsUptoRow, standIns := [], harness := (true, "a8676f3884b3204940383a862ad95b31702c243696a23e3ca359deb080c0c50f"), looks := false }, kinds := [], alts := [], laidByText := true, laidKinds := [.data, .pinned], laidTests := true, laidLooks := .later }
def StanzaJoinsUptoCardSaid : Prop := Claim7.holds Tryd.pinned (.plain (OpenSpec.upto stanzaJoinsSpec)) stanzaJoinsUptoCard
end Rows
end Go.Proofs.YtjkaigfpjebfbaaDoor
