/-
  DERIVED. GIVEN WITH THE SEED: THE CARDS: each row of YtpgkbdkkcladcaaDoorRows.lean that lists a variable, with what it lists TIED to the program's text (the seventh form; the later family's looks); each row that meets fmt, with fmt's text TOLD by the authors' own Lean function (tested against real Go, not proved from fmt's source: count such statements apart). THE CARD IS WHAT COUNTS. Prove the row's statement (the work); the ties are given (YtpgkbdkkcladcaaDoorTie.lean); close each card by the builder's one call (the guide's Derived/Test/ToyasCard.lean, 'card_holds'). Laid BY PROGRAM, IN A SANDBOX (cutbox-door.mjs). By AI agents, Wed Nov 11 2026. No macro, syntax, notation, axiom, sorry.
-/
import Derived.Test.YtpgkbdkkcladcaaDoorRows
import GoSem.ClaimSeven
namespace Go.Proofs.YtpgkbdkkcladcaaDoor
namespace Rows

/-- THE TIED CARD OF 'stackyardlaw20.TextBacks'. -/
def textBacksCard : Claim7 := { stood := { row := textBacksRow, standIns := [], harness := (true, "9ae64c0c9a223b1e15b8e2147475e28556d4f33085cbf19de4aa3ade2fa582fe"), looks := true }, kinds := [], alts := [], laidByText := true, laidKinds := [.data, .pinned], laidTests := true, laidLooks := .later }
def TextBacksCardSaid : Prop := Claim7.holds Tryd.pinned (.plain (OpenSpec.ofChange textBacksSpec)) textBacksCard

/-- THE TIED CARD OF 'stackyardlaw20.TextFull'. -/
def textFullCard : Claim7 := { stood := { row := textFullRow, standIns := [], harness := (true, "9ae64c0c9a223b1e15b8e2147475e28556d4f33085cbf19de4aa3ade2fa582fe"), looks := true }, kinds := [], alts := [], laidByText := true, laidKinds := [.data, .pinned], laidTests := true, laidLooks := .later }
def TextFullCardSaid : Prop := Claim7.holds Tryd.pinned (.plain (OpenSpec.ofChange textFullSpec)) textFullCard

/-- THE TIED CARD OF 'stackyardlaw20.TextCuts'. -/
def textCutsCard : Claim7 := { stood := { row := textCutsRow, standIns := [], harness := (true, "9ae64c0c9a223b1e15b8e2147475e28556d4f33085cbf19de4aa3ade2fa582fe"), looks := true }, kinds := [], alts := [], laidByText := true, laidKinds := [.data, .pinned], laidTests := true, laidLooks := .later }
def TextCutsCardSaid : Prop := Claim7.holds Tryd.pinned (.plain (OpenSpec.ofChange textCutsSpec)) textCutsCard

/-- THE TIED CARD OF 'stackyardlaw20.TextLines'. -/
def textLinesCard : Claim7 := { stood := { row := textLinesRow, standIns := [], harness := (true, "9ae64c0c9a223b1e15b8e2147475e28556d4f33085cbf19de4aa3ade2fa582fe"), looks := true }, kinds := [], alts := [], laidByText := true, laidKinds := [.data, .pinned], laidTests := true, laidLooks := .later }
def TextLinesCardSaid : Prop := Claim7.holds Tryd.pinned (.plain (OpenSpec.ofChange textLinesSpec)) textLinesCard

/-- THE TIED CARD OF 'stackyardlaw20.TextRights'. -/
def textRightsCard : Claim7 := { stood := { row := textRightsRow, standIns := [], harness := (true, "9ae64c0c9a223b1e15b8e2147475e28556d4f33085cbf19de4aa3ade2fa582fe"), looks := true }, kinds := [], alts := [], laidByText := true, laidKinds := [.data, .pinned], laidTests := true, laidLooks := .later }
def TextRightsCardSaid : Prop := Claim7.holds Tryd.pinned (.plain (OpenSpec.ofChange textRightsSpec)) textRightsCard

/-- THE TIED CARD OF 'stackyardlaw21.DeskBacks'. -/
def deskBacksCard : Claim7 := { stood := { row := deskBacksRow, standIns := [], harness := (true, "9ae64c0c9a223b1e15b8e2147475e28556d4f33085cbf19de4aa3ade2fa582fe"), looks := true }, kinds := [], alts := [], laidByText := true, laidKinds := [.data, .pinned], laidTests := true, laidLooks := .later }
def DeskBacksCardSaid : Prop := Claim7.holds Tryd.pinned (.plain (OpenSpec.ofChange deskBacksSpec)) deskBacksCard

/-- THE TIED CARD OF 'stackyardlaw21.DeskNones'. -/
def deskNonesCard : Claim7 := { stood := { row := deskNonesRow, standIns := [], harness := (true, "9ae64c0c9a223b1e15b8e2147475e28556d4f33085cbf19de4aa3ade2fa582fe"), looks := true }, kinds := [], alts := [], laidByText := true, laidKinds := [.data, .pinned], laidTests := true, laidLooks := .later }
def DeskNonesCardSaid : Prop := Claim7.holds Tryd.pinned (.plain (OpenSpec.ofChange deskNonesSpec)) deskNonesCard

/-- THE TIED CARD OF 'stackyardlaw21.DeskFull'. -/
def deskFullCard : Claim7 := { stood := { row := deskFullRow, standIns := [], harness := (true, "9ae64c0c9a223b1e15b8e2147475e28556d4f33085cbf19de4aa3ade2fa582fe"), looks := true }, kinds := [], alts := [], laidByText := true, laidKinds := [.data, .pinned], laidTests := true, laidLooks := .later }
def DeskFullCardSaid : Prop := Claim7.holds Tryd.pinned (.plain (OpenSpec.ofChange deskFullSpec)) deskFullCard

/-- THE TIED CARD OF 'stackyardlaw21.DeskApart'. -/
def deskApartCard : Claim7 := { stood := { row := deskApartRow, standIns := [], harness := (true, "9ae64c0c9a223b1e15b8e2147475e28556d4f33085cbf19de4aa3ade2fa582fe"), looks := true }, kinds := [], alts := [], laidByText := true, laidKinds := [.data, .pinned], laidTests := true, laidLooks := .later }
def DeskApartCardSaid : Prop := Claim7.holds Tryd.pinned (.plain (OpenSpec.ofChange deskApartSpec)) deskApartCard

/-- THE TIED CARD OF 'stackyardlaw21.DeskFresh'. -/
def deskFreshCard : Claim7 := { stood := { row := deskFreshRow, standIns := [], harness := (true, "9ae64c0c9a223b1e15b8e2147475e28556d4f33085cbf19de4aa3ade2fa582fe"), looks := true }, kinds := [], alts := [], laidByText := true, laidKinds := [.data, .pinned], laidTests := true, laidLooks := .later }
def DeskFreshCardSaid : Prop := Claim7.holds Tryd.pinned (.plain (OpenSpec.ofChange deskFreshSpec)) deskFreshCard

/-- THE TIED CARD OF 'stackyardlaw20.TextInserts'. -/
def textInsertsCard : Claim7 := { stood := { row := textInsertsRow, standIns := [], harness := (true, "9ae64c0c9a223b1e15b8e2147475e28556d4f33085cbf19de4aa3ade2fa582fe"), looks := true }, kinds := [], alts := [], laidByText := true, laidKinds := [.data, .pinned], laidTests := true, laidLooks := .later }
def TextInsertsCardSaid : Prop := Claim7.holds Tryd.pinned (.plain (OpenSpec.ofChange textInsertsSpec)) textInsertsCard

/-- THE TIED CARD OF 'stackyardlaw20.TextJoins'. -/
def textJoinsCard : Claim7 := { stood := { row := textJoinsRow, standIns := [], harness := (true, "9ae64c0c9a223b1e15b8e2147475e28556d4f33085cbf19de4aa3ade2fa582fe"), looks := true }, kinds := [], alts := [], laidByText := true, laidKinds := [.data, .pinned], laidTests := true, laidLooks := .later }
def TextJoinsCardSaid : Prop := Claim7.holds Tryd.pinned (.plain (OpenSpec.ofChange textJoinsSpec)) textJoinsCard

/-- THE TIED CARD OF 'stackyardlaw21.DeskActs'. -/
def deskActsCard : Claim7 := { stood := { row := deskActsRow, standIns := [], harness := (true, "9ae64c0c9a223b1e15b8e2147475e28556d4f33085cbf19de4aa3ade2fa582fe"), looks := true }, kinds := [], alts := [], laidByText := true, laidKinds := [.data, .pinned], laidTests := true, laidLooks := .later }
def DeskActsCardSaid : Prop := Claim7.holds Tryd.pinned (.plain (OpenSpec.ofChange deskActsSpec)) deskActsCard

/-- THE SECOND FORM's CARD OF 'stackyardlaw20.TextBacks'. -/
def textBacksUptoCard : Claim7 := { stood := { row := textBacksUptoRow, standIns := [], harness := (true, "9ae64c0c9a223b1e15b8e2147475e28556d4f33085cbf19de4aa3ade2fa582fe"), looks := true }, kinds := [], alts := [], laidByText := true, laidKinds := [.data, .pinned], laidTests := true, laidLooks := .later }
def TextBacksUptoCardSaid : Prop := Claim7.holds Tryd.pinned (.plain (OpenSpec.upto textBacksSpec)) textBacksUptoCard

/-- THE SECOND FORM's CARD OF 'stackyardlaw20.TextFull'. -/
def textFullUptoCard : Claim7 := { stood := { row := textFullUptoRow, standIns := [], harness := (true, "9ae64c0c9a223b1e15b8e2147475e28556d4f33085cbf19de4aa3ade2fa582fe"), looks := true }, kinds := [], alts := [], laidByText := true, laidKinds := [.data, .pinned], laidTests := true, laidLooks := .later }
def TextFullUptoCardSaid : Prop := Claim7.holds Tryd.pinned (.plain (OpenSpec.upto textFullSpec)) textFullUptoCard

/-- THE SECOND FORM's CARD OF 'stackyardlaw20.TextCuts'. -/
def textCutsUptoCard : Claim7 := { stood := { row := textCutsUptoRow, standIns := [], harness := (true, "9ae64c0c9a223b1e15b8e2147475e28556d4f33085cbf19de4aa3ade2fa582fe"), looks := true }, kinds := [], alts := [], laidByText := true, laidKinds := [.data, .pinned], laidTests := true, laidLooks := .later }
def TextCutsUptoCardSaid : Prop := Claim7.holds Tryd.pinned (.plain (OpenSpec.upto textCutsSpec)) textCutsUptoCard

/-- THE SECOND FORM's CARD OF 'stackyardlaw20.TextLines'. -/
def textLinesUptoCard : Claim7 := { stood := { row := textLinesUptoRow, standIns := [], harness := (true, "9ae64c0c9a223b1e15b8e2147475e28556d4f33085cbf19de4aa3ade2fa582fe"), looks := true }, kinds := [], alts := [], laidByText := true, laidKinds := [.data, .pinned], laidTests := true, laidLooks := .later }
def TextLinesUptoCardSaid : Prop := Claim7.holds Tryd.pinned (.plain (OpenSpec.upto textLinesSpec)) textLinesUptoCard

/-- THE SECOND FORM's CARD OF 'stackyardlaw20.TextRights'. -/
def textRightsUptoCard : Claim7 := { stood := { row := textRightsUptoRow, standIns := [], harness := (true, "9ae64c0c9a223b1e15b8e2147475e28556d4f33085cbf19de4aa3ade2fa582fe"), looks := true }, kinds := [], alts := [], laidByText := true, laidKinds := [.data, .pinned], laidTests := true, laidLooks := .later }
def TextRightsUptoCardSaid : Prop := Claim7.holds Tryd.pinned (.plain (OpenSpec.upto textRightsSpec)) textRightsUptoCard

/-- THE SECOND FORM's CARD OF 'stackyardlaw21.DeskBacks'. -/
def deskBacksUptoCard : Claim7 := { stood := { row := deskBacksUptoRow, standIns := [], harness := (true, "9ae64c0c9a223b1e15b8e2147475e28556d4f33085cbf19de4aa3ade2fa582fe"), looks := true }, kinds := [], alts := [], laidByText := true, laidKinds := [.data, .pinned], laidTests := true, laidLooks := .later }
def DeskBacksUptoCardSaid : Prop := Claim7.holds Tryd.pinned (.plain (OpenSpec.upto deskBacksSpec)) deskBacksUptoCard

/-- THE SECOND FORM's CARD OF 'stackyardlaw21.DeskNones'. -/
def deskNonesUptoCard : Claim7 := { stood := { row := deskNonesUptoRow, standIns := [], harness := (true, "9ae64c0c9a223b1e15b8e2147475e28556d4f33085cbf19de4aa3ade2fa582fe"), looks := true }, kinds := [], alts := [], laidByText := true, laidKinds := [.data, .pinned], laidTests := true, laidLooks := .later }
def DeskNonesUptoCardSaid : Prop := Claim7.holds Tryd.pinned (.plain (OpenSpec.upto deskNonesSpec)) deskNonesUptoCard

/-- THE SECOND FORM's CARD OF 'stackyardlaw21.DeskFull'. -/
def deskFullUptoCard : Claim7 := { stood := { row := deskFullUptoRow, standIns := [], harness := (true, "9ae64c0c9a223b1e15b8e2147475e28556d4f33085cbf19de4aa3ade2fa582fe"), looks := true }, kinds := [], alts := [], laidByText := true, laidKinds := [.data, .pinned], laidTests := true, laidLooks := .later }
def DeskFullUptoCardSaid : Prop := Claim7.holds Tryd.pinned (.plain (OpenSpec.upto deskFullSpec)) deskFullUptoCard

/-- THE SECOND FORM's CARD OF 'stackyardlaw21.DeskApart'. -/
def deskApartUptoCard : Claim7 := { stood := { row := deskApartUptoRow, standIns := [], harness := (true, "9ae64c0c9a223b1e15b8e2147475e28556d4f33085cbf19de4aa3ade2fa582fe"), looks := true }, kinds := [], alts := [], laidByText := true, laidKinds := [.data, .pinned], laidTests := true, laidLooks := .later }
def DeskApartUptoCardSaid : Prop := Claim7.holds Tryd.pinned (.plain (OpenSpec.upto deskApartSpec)) deskApartUptoCard

/-- THE SECOND FORM's CARD OF 'stackyardlaw21.DeskFresh'. -/
def deskFreshUptoCard : Claim7 := { stood := { row := deskFreshUptoRow, standIns := [], harness := (true, "9ae64c0c9a223b1e15b8e2147475e28556d4f33085cbf19de4aa3ade2fa582fe"), looks := true }, kinds := [], alts := [], laidByText := true, laidKinds := [.data, .pinned], laidTests := true, laidLooks := .later }
def DeskFreshUptoCardSaid : Prop := Claim7.holds Tryd.pinned (.plain (OpenSpec.upto deskFreshSpec)) deskFreshUptoCard

/-- THE SECOND FORM's CARD OF 'stackyardlaw20.TextInserts'. -/
def textInsertsUptoCard : Claim7 := { stood := { row := textInsertsUptoRow, standIns := [], harness := (true, "9ae64c0c9a223b1e15b8e2147475e28556d4f33085cbf19de4aa3ade2fa582fe"), looks := true }, kinds := [], alts := [], laidByText := true, laidKinds := [.data, .pinned], laidTests := true, laidLooks := .later }
def TextInsertsUptoCardSaid : Prop := Claim7.holds Tryd.pinned (.plain (OpenSpec.upto textInsertsSpec)) textInsertsUptoCard

/-- THE SECOND FORM's CARD OF 'stackyardlaw20.TextJoins'. -/
def textJoinsUptoCard : Claim7 := { stood := { row := textJoinsUptoRow, standIns := [], harness := (true, "9ae64c0c9a223b1e15b8e2147475e28556d4f33085cbf19de4aa3ade2fa582fe"), looks := true }, kinds := [], alts := [], laidByText := true, laidKinds := [.data, .pinned], laidTests := true, laidLooks := .later }
def TextJoinsUptoCardSaid : Prop := Claim7.holds Tryd.pinned (.plain (OpenSpec.upto textJoinsSpec)) textJoinsUptoCard

/-- THE SECOND FORM's CARD OF 'stackyardlaw21.DeskActs'. -/
def deskActsUptoCard : Claim7 := { stood := { row := deskActsUptoRow, standIns := [], harness := (true, "9ae64c0c9a223b1e15b8e2147475e28556d4f33085cbf19de4aa3ade2fa582fe"), looks := true }, kinds := [], alts := [], laidByText := true, laidKinds := [.data, .pinned], laidTests := true, laidLooks := .later }
def DeskActsUptoCardSaid : Prop := Claim7.holds Tryd.pinned (.plain (OpenSpec.upto deskActsSpec)) deskActsUptoCard
end Rows
end Go.Proofs.YtpgkbdkkcladcaaDoor
