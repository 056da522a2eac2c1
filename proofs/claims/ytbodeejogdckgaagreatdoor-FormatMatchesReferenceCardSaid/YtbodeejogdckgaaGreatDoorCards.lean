/-
  DERIVED. GIVEN WITH THE SEED: THE CARDS: each row of YtbodeejogdckgaaGreatDoorRows.lean that lists a variable, with what it lists TIED to the program's text (the seventh form; the later family's looks); each row that meets fmt, with fmt's text TOLD by the authors' own Lean function (tested against real Go, not proved from fmt's source: count such statements apart). THE CARD IS WHAT COUNTS. Prove the row's statement (the work); the ties are given (YtbodeejogdckgaaGreatDoorTie.lean); close each card by the builder's one call (the guide's Derived/Test/ToyasCard.lean, 'card_holds'). Laid BY PROGRAM, IN A SANDBOX (cutbox-door.mjs). By AI agents, Wed Nov 11 2026. No macro, syntax, notation, axiom, sorry.
-/
import Derived.Test.YtbodeejogdckgaaGreatDoorRows
import GoSem.ClaimSeven
namespace Go.Proofs.YtbodeejogdckgaaGreatDoor
namespace Rows

/-- THE TIED CARD OF 'postilionlaw04.FormatMatchesReference'. -/
def formatMatchesReferenceCard : Claim7 := { stood := { row := formatMatchesReferenceRow, standIns := [], harness := (true, "eca9102eb172e97bf6d0b74e51c7ca020b919fcce66d93d535c0692e1e7d325a"), looks := true }, kinds := [], alts := [], laidByText := true, laidKinds := [.data, .data, .data, .data, .sentinel, .sentinel, .pinned, .pinned], laidTests := true, laidLooks := .later }
def FormatMatchesReferenceCardSaid : Prop := Claim7.holds Tryz.pinned (.plain (OpenSpec.ofChange formatMatchesReferenceSpec)) formatMatchesReferenceCard

/-- THE TIED CARD OF 'postilionlaw04.FormatPrinting'. -/
def formatPrintingCard : Claim7 := { stood := { row := formatPrintingRow, standIns := [], harness := (true, "eca9102eb172e97bf6d0b74e51c7ca020b919fcce66d93d535c0692e1e7d325a"), looks := true }, kinds := [], alts := [], laidByText := true, laidKinds := [.data, .data, .data, .data, .sentinel, .sentinel, .pinned, .pinned], laidTests := true, laidLooks := .later }
def FormatPrintingCardSaid : Prop := Claim7.holds Tryz.pinned (.plain (OpenSpec.ofChange formatPrintingSpec)) formatPrintingCard

/-- THE TIED CARD OF 'postilionlaw04.FormatReading'. -/
def formatReadingCard : Claim7 := { stood := { row := formatReadingRow, standIns := [], harness := (true, "eca9102eb172e97bf6d0b74e51c7ca020b919fcce66d93d535c0692e1e7d325a"), looks := true }, kinds := [], alts := [], laidByText := true, laidKinds := [.data, .data, .data, .data, .sentinel, .sentinel, .pinned, .pinned], laidTests := true, laidLooks := .later }
def FormatReadingCardSaid : Prop := Claim7.holds Tryz.pinned (.plain (OpenSpec.ofChange formatReadingSpec)) formatReadingCard

/-- THE TIED CARD OF 'postilionlaw04.FormatOrder'. -/
def formatOrderCard : Claim7 := { stood := { row := formatOrderRow, standIns := [], harness := (true, "eca9102eb172e97bf6d0b74e51c7ca020b919fcce66d93d535c0692e1e7d325a"), looks := true }, kinds := [], alts := [], laidByText := true, laidKinds := [.data, .data, .data, .data, .sentinel, .sentinel, .pinned, .pinned], laidTests := true, laidLooks := .later }
def FormatOrderCardSaid : Prop := Claim7.holds Tryz.pinned (.plain (OpenSpec.ofChange formatOrderSpec)) formatOrderCard

/-- THE TIED CARD OF 'postilionlaw04.FormatBlanks'. -/
def formatBlanksCard : Claim7 := { stood := { row := formatBlanksRow, standIns := [], harness := (true, "eca9102eb172e97bf6d0b74e51c7ca020b919fcce66d93d535c0692e1e7d325a"), looks := true }, kinds := [], alts := [], laidByText := true, laidKinds := [.data, .data, .data, .data, .sentinel, .sentinel, .pinned, .pinned], laidTests := true, laidLooks := .later }
def FormatBlanksCardSaid : Prop := Claim7.holds Tryz.pinned (.plain (OpenSpec.ofChange formatBlanksSpec)) formatBlanksCard

/-- THE TIED CARD OF 'postilionlaw04.FormatOne'. -/
def formatOneCard : Claim7 := { stood := { row := formatOneRow, standIns := [], harness := (true, "eca9102eb172e97bf6d0b74e51c7ca020b919fcce66d93d535c0692e1e7d325a"), looks := true }, kinds := [], alts := [], laidByText := true, laidKinds := [.data, .data, .data, .data, .sentinel, .sentinel, .pinned, .pinned], laidTests := true, laidLooks := .later }
def FormatOneCardSaid : Prop := Claim7.holds Tryz.pinned (.plain (OpenSpec.ofChange formatOneSpec)) formatOneCard

/-- THE TIED CARD OF 'postilionlaw04.FormatAll'. -/
def formatAllCard : Claim7 := { stood := { row := formatAllRow, standIns := [], harness := (true, "eca9102eb172e97bf6d0b74e51c7ca020b919fcce66d93d535c0692e1e7d325a"), looks := true }, kinds := [], alts := [], laidByText := true, laidKinds := [.data, .data, .data, .data, .sentinel, .sentinel, .pinned, .pinned], laidTests := true, laidLooks := .later }
def FormatAllCardSaid : Prop := Claim7.holds Tryz.pinned (.plain (OpenSpec.ofChange formatAllSpec)) formatAllCard

/-- THE SECOND FORM's CARD OF 'postilionlaw04.FormatMatchesReference'. -/
def formatMatchesReferenceUptoCard : Claim7 := { stood := { row := formatMatchesReferenceUptoRow, standIns := [], harness := (true, "eca9102eb172e97bf6d0b74e51c7ca020b919fcce66d93d535c0692e1e7d325a"), looks := true }, kinds := [], alts := [], laidByText := true, laidKinds := [.data, .data, .data, .data, .sentinel, .sentinel, .pinned, .pinned], laidTests := true, laidLooks := .later }
def FormatMatchesReferenceUptoCardSaid : Prop := Claim7.holds Tryz.pinned (.plain (OpenSpec.upto formatMatchesReferenceSpec)) formatMatchesReferenceUptoCard

/-- THE SECOND FORM's CARD OF 'postilionlaw04.FormatPrinting'. -/
def formatPrintingUptoCard : Claim7 := { stood := { row := formatPrintingUptoRow, standIns := [], harness := (true, "eca9102eb172e97bf6d0b74e51c7ca020b919fcce66d93d535c0692e1e7d325a"), looks := true }, kinds := [], alts := [], laidByText := true, laidKinds := [.data, .data, .data, .data, .sentinel, .sentinel, .pinned, .pinned], laidTests := true, laidLooks := .later }
def FormatPrintingUptoCardSaid : Prop := Claim7.holds Tryz.pinned (.plain (OpenSpec.upto formatPrintingSpec)) formatPrintingUptoCard

/-- THE SECOND FORM's CARD OF 'postilionlaw04.FormatReading'. -/
def formatReadingUptoCard : Claim7 := { stood := { row := formatReadingUptoRow, standIns := [], harness := (true, "eca9102eb172e97bf6d0b74e51c7ca020b919fcce66d93d535c0692e1e7d325a"), looks := true }, kinds := [], alts := [], laidByText := true, laidKinds := [.data, .data, .data, .data, .sentinel, .sentinel, .pinned, .pinned], laidTests := true, laidLooks := .later }
def FormatReadingUptoCardSaid : Prop := Claim7.holds Tryz.pinned (.plain (OpenSpec.upto formatReadingSpec)) formatReadingUptoCard

/-- THE SECOND FORM's CARD OF 'postilionlaw04.FormatOrder'. -/
def formatOrderUptoCard : Claim7 := { stood := { row := formatOrderUptoRow, standIns := [], harness := (true, "eca9102eb172e97bf6d0b74e51c7ca020b919fcce66d93d535c0692e1e7d325a"), looks := true }, kinds := [], alts := [], laidByText := true, laidKinds := [.data, .data, .data, .data, .sentinel, .sentinel, .pinned, .pinned], laidTests := true, laidLooks := .later }
def FormatOrderUptoCardSaid : Prop := Claim7.holds Tryz.pinned (.plain (OpenSpec.upto formatOrderSpec)) formatOrderUptoCard

/-- THE SECOND FORM's CARD OF 'postilionlaw04.FormatBlanks'. -/
def formatBlanksUptoCard : Claim7 := { stood := { row := formatBlanksUptoRow, standIns := [], harness := (true, "eca9102eb172e97bf6d0b74e51c7ca020b919fcce66d93d535c0692e1e7d325a"), looks := true }, kinds := [], alts := [], laidByText := true, laidKinds := [.data, .data, .data, .data, .sentinel, .sentinel, .pinned, .pinned], laidTests := true, laidLooks := .later }
def FormatBlanksUptoCardSaid : Prop := Claim7.holds Tryz.pinned (.plain (OpenSpec.upto formatBlanksSpec)) formatBlanksUptoCard

/-- THE SECOND FORM's CARD OF 'postilionlaw04.FormatOne'. -/
def formatOneUptoCard : Claim7 := { stood := { row := formatOneUptoRow, standIns := [], harness := (true, "eca9102eb172e97bf6d0b74e51c7ca020b919fcce66d93d535c0692e1e7d325a"), looks := true }, kinds := [], alts := [], laidByText := true, laidKinds := [.data, .data, .data, .data, .sentinel, .sentinel, .pinned, .pinned], laidTests := true, laidLooks := .later }
def FormatOneUptoCardSaid : Prop := Claim7.holds Tryz.pinned (.plain (OpenSpec.upto formatOneSpec)) formatOneUptoCard

/-- THE SECOND FORM's CARD OF 'postilionlaw04.FormatAll'. -/
def formatAllUptoCard : Claim7 := { stood := { row := formatAllUptoRow, standIns := [], harness := (true, "eca9102eb172e97bf6d0b74e51c7ca020b919fcce66d93d535c0692e1e7d325a"), looks := true }, kinds := [], alts := [], laidByText := true, laidKinds := [.data, .data, .data, .data, .sentinel, .sentinel, .pinned, .pinned], laidTests := true, laidLooks := .later }
def FormatAllUptoCardSaid : Prop := Claim7.holds Tryz.pinned (.plain (OpenSpec.upto formatAllSpec)) formatAllUptoCard
end Rows
end Go.Proofs.YtbodeejogdckgaaGreatDoor
