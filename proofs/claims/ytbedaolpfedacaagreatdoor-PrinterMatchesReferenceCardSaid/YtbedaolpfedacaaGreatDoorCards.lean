/-
  DERIVED. GIVEN WITH THE SEED: THE CARDS: each row of YtbedaolpfedacaaGreatDoorRows.lean that lists a variable, with what it lists TIED to the program's text (the seventh form; the later family's looks); each row that meets fmt, with fmt's text TOLD by the authors' own Lean function (tested against real Go, not proved from fmt's source: count such statements apart). THE CARD IS WHAT COUNTS. Prove the row's statement (the work); the ties are given (YtbedaolpfedacaaGreatDoorTie.lean); close each card by the builder's one call (the guide's Derived/Test/ToyasCard.lean, 'card_holds'). Laid BY PROGRAM, IN A SANDBOX (cutbox-door.mjs). By AI agents, Wed Nov 11 2026. No macro, syntax, notation, axiom, sorry.
-/
import Derived.Test.YtbedaolpfedacaaGreatDoorRows
import GoSem.ClaimSeven
namespace Go.Proofs.YtbedaolpfedacaaGreatDoor
namespace Rows

/-- THE TIED CARD OF 'postilionlaw10.PrinterMatchesReference'. -/
def printerMatchesReferenceCard : Claim7 := { stood := { row := printerMatchesReferenceRow, standIns := [], harness := (true, "1fcde861958a27aef426cf6f5e6ff796aea9df6ae363604e13bbda554a95a657"), looks := true }, kinds := [], alts := [], laidByText := true, laidKinds := [.data, .data, .data, .sentinel, .sentinel, .data, .data, .data], laidTests := true, laidLooks := .later }
def PrinterMatchesReferenceCardSaid : Prop := Claim7.holds Tryz.pinned (.plain (OpenSpec.ofChange printerMatchesReferenceSpec)) printerMatchesReferenceCard

/-- THE TIED CARD OF 'postilionlaw10.PrinterInverse'. -/
def printerInverseCard : Claim7 := { stood := { row := printerInverseRow, standIns := [], harness := (true, "1fcde861958a27aef426cf6f5e6ff796aea9df6ae363604e13bbda554a95a657"), looks := true }, kinds := [], alts := [], laidByText := true, laidKinds := [.data, .data, .data, .sentinel, .sentinel, .data, .data, .data], laidTests := true, laidLooks := .later }
def PrinterInverseCardSaid : Prop := Claim7.holds Tryz.pinned (.plain (OpenSpec.ofChange printerInverseSpec)) printerInverseCard

/-- THE TIED CARD OF 'postilionlaw10.PrinterCanonical'. -/
def printerCanonicalCard : Claim7 := { stood := { row := printerCanonicalRow, standIns := [], harness := (true, "1fcde861958a27aef426cf6f5e6ff796aea9df6ae363604e13bbda554a95a657"), looks := true }, kinds := [], alts := [], laidByText := true, laidKinds := [.data, .data, .data, .sentinel, .sentinel, .data, .data, .data], laidTests := true, laidLooks := .later }
def PrinterCanonicalCardSaid : Prop := Claim7.holds Tryz.pinned (.plain (OpenSpec.ofChange printerCanonicalSpec)) printerCanonicalCard

/-- THE TIED CARD OF 'postilionlaw10.PrinterDifferent'. -/
def printerDifferentCard : Claim7 := { stood := { row := printerDifferentRow, standIns := [], harness := (true, "1fcde861958a27aef426cf6f5e6ff796aea9df6ae363604e13bbda554a95a657"), looks := true }, kinds := [], alts := [], laidByText := true, laidKinds := [.data, .data, .data, .sentinel, .sentinel, .data, .data, .data], laidTests := true, laidLooks := .later }
def PrinterDifferentCardSaid : Prop := Claim7.holds Tryz.pinned (.plain (OpenSpec.ofChange printerDifferentSpec)) printerDifferentCard

/-- THE TIED CARD OF 'postilionlaw10.PrinterLines'. -/
def printerLinesCard : Claim7 := { stood := { row := printerLinesRow, standIns := [], harness := (true, "1fcde861958a27aef426cf6f5e6ff796aea9df6ae363604e13bbda554a95a657"), looks := true }, kinds := [], alts := [], laidByText := true, laidKinds := [.data, .data, .data, .sentinel, .sentinel, .data, .data, .data], laidTests := true, laidLooks := .later }
def PrinterLinesCardSaid : Prop := Claim7.holds Tryz.pinned (.plain (OpenSpec.ofChange printerLinesSpec)) printerLinesCard

/-- THE TIED CARD OF 'postilionlaw10.PrinterReferences'. -/
def printerReferencesCard : Claim7 := { stood := { row := printerReferencesRow, standIns := [], harness := (true, "1fcde861958a27aef426cf6f5e6ff796aea9df6ae363604e13bbda554a95a657"), looks := true }, kinds := [], alts := [], laidByText := true, laidKinds := [.data, .data, .data, .sentinel, .sentinel, .data, .data, .data], laidTests := true, laidLooks := .later }
def PrinterReferencesCardSaid : Prop := Claim7.holds Tryz.pinned (.plain (OpenSpec.ofChange printerReferencesSpec)) printerReferencesCard

/-- THE SECOND FORM's CARD OF 'postilionlaw10.PrinterMatchesReference'. -/
def printerMatchesReferenceUptoCard : Claim7 := { stood := { row := printerMatchesReferenceUptoRow, standIns := [], harness := (true, "1fcde861958a27aef426cf6f5e6ff796aea9df6ae363604e13bbda554a95a657"), looks := true }, kinds := [], alts := [], laidByText := true, laidKinds := [.data, .data, .data, .sentinel, .sentinel, .data, .data, .data], laidTests := true, laidLooks := .later }
def PrinterMatchesReferenceUptoCardSaid : Prop := Claim7.holds Tryz.pinned (.plain (OpenSpec.upto printerMatchesReferenceSpec)) printerMatchesReferenceUptoCard

/-- THE SECOND FORM's CARD OF 'postilionlaw10.PrinterInverse'. -/
def printerInverseUptoCard : Claim7 := { stood := { row := printerInverseUptoRow, standIns := [], harness := (true, "1fcde861958a27aef426cf6f5e6ff796aea9df6ae363604e13bbda554a95a657"), looks := true }, kinds := [], alts := [], laidByText := true, laidKinds := [.data, .data, .data, .sentinel, .sentinel, .data, .data, .data], laidTests := true, laidLooks := .later }
def PrinterInverseUptoCardSaid : Prop := Claim7.holds Tryz.pinned (.plain (OpenSpec.upto printerInverseSpec)) printerInverseUptoCard

/-- THE SECOND FORM's CARD OF 'postilionlaw10.PrinterCanonical'. -/
def printerCanonicalUptoCard : Claim7 := { stood := { row := printerCanonicalUptoRow, standIns := [], harness := (true, "1fcde861958a27aef426cf6f5e6ff796aea9df6ae363604e13bbda554a95a657"), looks := true }, kinds := [], alts := [], laidByText := true, laidKinds := [.data, .data, .data, .sentinel, .sentinel, .data, .data, .data], laidTests := true, laidLooks := .later }
def PrinterCanonicalUptoCardSaid : Prop := Claim7.holds Tryz.pinned (.plain (OpenSpec.upto printerCanonicalSpec)) printerCanonicalUptoCard

/-- THE SECOND FORM's CARD OF 'postilionlaw10.PrinterDifferent'. -/
def printerDifferentUptoCard : Claim7 := { stood := { row := printerDifferentUptoRow, standIns := [], harness := (true, "1fcde861958a27aef426cf6f5e6ff796aea9df6ae363604e13bbda554a95a657"), looks := true }, kinds := [], alts := [], laidByText := true, laidKinds := [.data, .data, .data, .sentinel, .sentinel, .data, .data, .data], laidTests := true, laidLooks := .later }
def PrinterDifferentUptoCardSaid : Prop := Claim7.holds Tryz.pinned (.plain (OpenSpec.upto printerDifferentSpec)) printerDifferentUptoCard

/-- THE SECOND FORM's CARD OF 'postilionlaw10.PrinterLines'. -/
def printerLinesUptoCard : Claim7 := { stood := { row := printerLinesUptoRow, standIns := [], harness := (true, "1fcde861958a27aef426cf6f5e6ff796aea9df6ae363604e13bbda554a95a657"), looks := true }, kinds := [], alts := [], laidByText := true, laidKinds := [.data, .data, .data, .sentinel, .sentinel, .data, .data, .data], laidTests := true, laidLooks := .later }
def PrinterLinesUptoCardSaid : Prop := Claim7.holds Tryz.pinned (.plain (OpenSpec.upto printerLinesSpec)) printerLinesUptoCard

/-- THE SECOND FORM's CARD OF 'postilionlaw10.PrinterReferences'. -/
def printerReferencesUptoCard : Claim7 := { stood := { row := printerReferencesUptoRow, standIns := [], harness := (true, "1fcde861958a27aef426cf6f5e6ff796aea9df6ae363604e13bbda554a95a657"), looks := true }, kinds := [], alts := [], laidByText := true, laidKinds := [.data, .data, .data, .sentinel, .sentinel, .data, .data, .data], laidTests := true, laidLooks := .later }
def PrinterReferencesUptoCardSaid : Prop := Claim7.holds Tryz.pinned (.plain (OpenSpec.upto printerReferencesSpec)) printerReferencesUptoCard
end Rows
end Go.Proofs.YtbedaolpfedacaaGreatDoor
