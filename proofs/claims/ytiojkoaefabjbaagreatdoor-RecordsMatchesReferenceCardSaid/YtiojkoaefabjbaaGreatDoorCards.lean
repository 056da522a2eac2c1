/-
  DERIVED. GIVEN WITH THE SEED: THE CARDS: each row of YtiojkoaefabjbaaGreatDoorRows.lean that lists a variable, with what it lists TIED to the program's text (the seventh form; the later family's looks); each row that meets fmt, with fmt's text TOLD by the authors' own Lean function (tested against real Go, not proved from fmt's source: count such statements apart). THE CARD IS WHAT COUNTS. Prove the row's statement (the work); the ties are given (YtiojkoaefabjbaaGreatDoorTie.lean); close each card by the builder's one call (the guide's Derived/Test/ToyasCard.lean, 'card_holds'). Laid BY PROGRAM, IN A SANDBOX (cutbox-door.mjs). By AI agents, Wed Nov 11 2026. No macro, syntax, notation, axiom, sorry.
-/
import Derived.Test.YtiojkoaefabjbaaGreatDoorRows
import GoSem.ClaimSeven
namespace Go.Proofs.YtiojkoaefabjbaaGreatDoor
namespace Rows

/-- THE TIED CARD OF 'postilionlaw25.RecordsMatchesReference'. -/
def recordsMatchesReferenceCard : Claim7 := { stood := { row := recordsMatchesReferenceRow, standIns := [], harness := (true, "adeb7db94b87507fefd269f10a56e60a8e57e21c6746bc0e7316986f77bb799e"), looks := true }, kinds := [], alts := [], laidByText := true, laidKinds := [.data, .data, .data, .data, .sentinel, .sentinel, .pinned], laidTests := true, laidLooks := .later }
def RecordsMatchesReferenceCardSaid : Prop := Claim7.holds Tryz.pinned (.plain (OpenSpec.ofChange recordsMatchesReferenceSpec)) recordsMatchesReferenceCard

/-- THE TIED CARD OF 'postilionlaw25.RecordsOrder'. -/
def recordsOrderCard : Claim7 := { stood := { row := recordsOrderRow, standIns := [], harness := (true, "adeb7db94b87507fefd269f10a56e60a8e57e21c6746bc0e7316986f77bb799e"), looks := true }, kinds := [], alts := [], laidByText := true, laidKinds := [.data, .data, .data, .data, .sentinel, .sentinel, .pinned], laidTests := true, laidLooks := .later }
def RecordsOrderCardSaid : Prop := Claim7.holds Tryz.pinned (.plain (OpenSpec.ofChange recordsOrderSpec)) recordsOrderCard

/-- THE TIED CARD OF 'postilionlaw25.RecordsSets'. -/
def recordsSetsCard : Claim7 := { stood := { row := recordsSetsRow, standIns := [], harness := (true, "adeb7db94b87507fefd269f10a56e60a8e57e21c6746bc0e7316986f77bb799e"), looks := true }, kinds := [], alts := [], laidByText := true, laidKinds := [.data, .data, .data, .data, .sentinel, .sentinel, .pinned], laidTests := true, laidLooks := .later }
def RecordsSetsCardSaid : Prop := Claim7.holds Tryz.pinned (.plain (OpenSpec.ofChange recordsSetsSpec)) recordsSetsCard

/-- THE TIED CARD OF 'postilionlaw25.RecordsParts'. -/
def recordsPartsCard : Claim7 := { stood := { row := recordsPartsRow, standIns := [], harness := (true, "adeb7db94b87507fefd269f10a56e60a8e57e21c6746bc0e7316986f77bb799e"), looks := true }, kinds := [], alts := [], laidByText := true, laidKinds := [.data, .data, .data, .data, .sentinel, .sentinel, .pinned], laidTests := true, laidLooks := .later }
def RecordsPartsCardSaid : Prop := Claim7.holds Tryz.pinned (.plain (OpenSpec.ofChange recordsPartsSpec)) recordsPartsCard

/-- THE TIED CARD OF 'postilionlaw25.RecordsTexts'. -/
def recordsTextsCard : Claim7 := { stood := { row := recordsTextsRow, standIns := [], harness := (true, "adeb7db94b87507fefd269f10a56e60a8e57e21c6746bc0e7316986f77bb799e"), looks := true }, kinds := [], alts := [], laidByText := true, laidKinds := [.data, .data, .data, .data, .sentinel, .sentinel, .pinned], laidTests := true, laidLooks := .later }
def RecordsTextsCardSaid : Prop := Claim7.holds Tryz.pinned (.plain (OpenSpec.ofChange recordsTextsSpec)) recordsTextsCard

/-- THE TIED CARD OF 'postilionlaw25.RecordsMore'. -/
def recordsMoreCard : Claim7 := { stood := { row := recordsMoreRow, standIns := [], harness := (true, "adeb7db94b87507fefd269f10a56e60a8e57e21c6746bc0e7316986f77bb799e"), looks := true }, kinds := [], alts := [], laidByText := true, laidKinds := [.data, .data, .data, .data, .sentinel, .sentinel, .pinned], laidTests := true, laidLooks := .later }
def RecordsMoreCardSaid : Prop := Claim7.holds Tryz.pinned (.plain (OpenSpec.ofChange recordsMoreSpec)) recordsMoreCard

/-- THE SECOND FORM's CARD OF 'postilionlaw25.RecordsMatchesReference'. -/
def recordsMatchesReferenceUptoCard : Claim7 := { stood := { row := recordsMatchesReferenceUptoRow, standIns := [], harness := (true, "adeb7db94b87507fefd269f10a56e60a8e57e21c6746bc0e7316986f77bb799e"), looks := true }, kinds := [], alts := [], laidByText := true, laidKinds := [.data, .data, .data, .data, .sentinel, .sentinel, .pinned], laidTests := true, laidLooks := .later }
def RecordsMatchesReferenceUptoCardSaid : Prop := Claim7.holds Tryz.pinned (.plain (OpenSpec.upto recordsMatchesReferenceSpec)) recordsMatchesReferenceUptoCard

/-- THE SECOND FORM's CARD OF 'postilionlaw25.RecordsOrder'. -/
def recordsOrderUptoCard : Claim7 := { stood := { row := recordsOrderUptoRow, standIns := [], harness := (true, "adeb7db94b87507fefd269f10a56e60a8e57e21c6746bc0e7316986f77bb799e"), looks := true }, kinds := [], alts := [], laidByText := true, laidKinds := [.data, .data, .data, .data, .sentinel, .sentinel, .pinned], laidTests := true, laidLooks := .later }
def RecordsOrderUptoCardSaid : Prop := Claim7.holds Tryz.pinned (.plain (OpenSpec.upto recordsOrderSpec)) recordsOrderUptoCard

/-- THE SECOND FORM's CARD OF 'postilionlaw25.RecordsSets'. -/
def recordsSetsUptoCard : Claim7 := { stood := { row := recordsSetsUptoRow, standIns := [], harness := (true, "adeb7db94b87507fefd269f10a56e60a8e57e21c6746bc0e7316986f77bb799e"), looks := true }, kinds := [], alts := [], laidByText := true, laidKinds := [.data, .data, .data, .data, .sentinel, .sentinel, .pinned], laidTests := true, laidLooks := .later }
def RecordsSetsUptoCardSaid : Prop := Claim7.holds Tryz.pinned (.plain (OpenSpec.upto recordsSetsSpec)) recordsSetsUptoCard

/-- THE SECOND FORM's CARD OF 'postilionlaw25.RecordsParts'. -/
def recordsPartsUptoCard : Claim7 := { stood := { row := recordsPartsUptoRow, standIns := [], harness := (true, "adeb7db94b87507fefd269f10a56e60a8e57e21c6746bc0e7316986f77bb799e"), looks := true }, kinds := [], alts := [], laidByText := true, laidKinds := [.data, .data, .data, .data, .sentinel, .sentinel, .pinned], laidTests := true, laidLooks := .later }
def RecordsPartsUptoCardSaid : Prop := Claim7.holds Tryz.pinned (.plain (OpenSpec.upto recordsPartsSpec)) recordsPartsUptoCard

/-- THE SECOND FORM's CARD OF 'postilionlaw25.RecordsTexts'. -/
def recordsTextsUptoCard : Claim7 := { stood := { row := recordsTextsUptoRow, standIns := [], harness := (true, "adeb7db94b87507fefd269f10a56e60a8e57e21c6746bc0e7316986f77bb799e"), looks := true }, kinds := [], alts := [], laidByText := true, laidKinds := [.data, .data, .data, .data, .sentinel, .sentinel, .pinned], laidTests := true, laidLooks := .later }
def RecordsTextsUptoCardSaid : Prop := Claim7.holds Tryz.pinned (.plain (OpenSpec.upto recordsTextsSpec)) recordsTextsUptoCard

/-- THE SECOND FORM's CARD OF 'postilionlaw25.RecordsMore'. -/
def recordsMoreUptoCard : Claim7 := { stood := { row := recordsMoreUptoRow, standIns := [], harness := (true, "adeb7db94b87507fefd269f10a56e60a8e57e21c6746bc0e7316986f77bb799e"), looks := true }, kinds := [], alts := [], laidByText := true, laidKinds := [.data, .data, .data, .data, .sentinel, .sentinel, .pinned], laidTests := true, laidLooks := .later }
def RecordsMoreUptoCardSaid : Prop := Claim7.holds Tryz.pinned (.plain (OpenSpec.upto recordsMoreSpec)) recordsMoreUptoCard
end Rows
end Go.Proofs.YtiojkoaefabjbaaGreatDoor
