/-
  DERIVED. GIVEN WITH THE SEED: THE CARDS: each row of YtobdkjjakdjnaaaDoorRows.lean that lists a variable, with what it lists TIED to the program's text (the seventh form; the later family's looks); each row that meets fmt, with fmt's text TOLD by the authors' own Lean function (tested against real Go, not proved from fmt's source: count such statements apart). THE CARD IS WHAT COUNTS. Prove the row's statement (the work); the ties are given (YtobdkjjakdjnaaaDoorTie.lean); close each card by the builder's one call (the guide's Derived/Test/ToyasCard.lean, 'card_holds'). Laid BY PROGRAM, IN A SANDBOX (cutbox-door.mjs). By AI agents, Wed Nov 11 2026. No macro, syntax, notation, axiom, sorry.
-/
import Derived.Test.YtobdkjjakdjnaaaDoorRows
import GoSem.ClaimSeven
namespace Go.Proofs.YtobdkjjakdjnaaaDoor
namespace Rows

/-- THE TIED CARD OF 'postilionlaw33.HandoverMatchesReference'. -/
def handoverMatchesReferenceCard : Claim7 := { stood := { row := handoverMatchesReferenceRow, standIns := [], harness := (true, "cfb96827ca4ee80e4c4d139e3db8e655ae95556a9f60b6cb5f0b0b1e7adb1396"), looks := false }, kinds := [], alts := [], laidByText := true, laidKinds := [.data, .data, .data], laidTests := true, laidLooks := .later }
def HandoverMatchesReferenceCardSaid : Prop := Claim7.holds Tryd.pinned (.plain (OpenSpec.ofChange handoverMatchesReferenceSpec)) handoverMatchesReferenceCard

/-- THE TIED CARD OF 'postilionlaw33.HandoverWritten'. -/
def handoverWrittenCard : Claim7 := { stood := { row := handoverWrittenRow, standIns := [], harness := (true, "cfb96827ca4ee80e4c4d139e3db8e655ae95556a9f60b6cb5f0b0b1e7adb1396"), looks := false }, kinds := [], alts := [], laidByText := true, laidKinds := [.data, .data, .data], laidTests := true, laidLooks := .later }
def HandoverWrittenCardSaid : Prop := Claim7.holds Tryd.pinned (.plain (OpenSpec.ofChange handoverWrittenSpec)) handoverWrittenCard

/-- THE TIED CARD OF 'postilionlaw33.HandoverChanged'. -/
def handoverChangedCard : Claim7 := { stood := { row := handoverChangedRow, standIns := [], harness := (true, "cfb96827ca4ee80e4c4d139e3db8e655ae95556a9f60b6cb5f0b0b1e7adb1396"), looks := false }, kinds := [], alts := [], laidByText := true, laidKinds := [.data, .data, .data], laidTests := true, laidLooks := .later }
def HandoverChangedCardSaid : Prop := Claim7.holds Tryd.pinned (.plain (OpenSpec.ofChange handoverChangedSpec)) handoverChangedCard

/-- THE TIED CARD OF 'postilionlaw33.HandoverBinding'. -/
def handoverBindingCard : Claim7 := { stood := { row := handoverBindingRow, standIns := [], harness := (true, "cfb96827ca4ee80e4c4d139e3db8e655ae95556a9f60b6cb5f0b0b1e7adb1396"), looks := false }, kinds := [], alts := [], laidByText := true, laidKinds := [.data, .data, .data], laidTests := true, laidLooks := .later }
def HandoverBindingCardSaid : Prop := Claim7.holds Tryd.pinned (.plain (OpenSpec.ofChange handoverBindingSpec)) handoverBindingCard

/-- THE TIED CARD OF 'postilionlaw33.HandoverContents'. -/
def handoverContentsCard : Claim7 := { stood := { row := handoverContentsRow, standIns := [], harness := (true, "cfb96827ca4ee80e4c4d139e3db8e655ae95556a9f60b6cb5f0b0b1e7adb1396"), looks := false }, kinds := [], alts := [], laidByText := true, laidKinds := [.data, .data, .data], laidTests := true, laidLooks := .later }
def HandoverContentsCardSaid : Prop := Claim7.holds Tryd.pinned (.plain (OpenSpec.ofChange handoverContentsSpec)) handoverContentsCard

/-- THE TIED CARD OF 'postilionlaw33.HandoverKeys'. -/
def handoverKeysCard : Claim7 := { stood := { row := handoverKeysRow, standIns := [], harness := (true, "cfb96827ca4ee80e4c4d139e3db8e655ae95556a9f60b6cb5f0b0b1e7adb1396"), looks := false }, kinds := [], alts := [], laidByText := true, laidKinds := [.data, .data, .data], laidTests := true, laidLooks := .later }
def HandoverKeysCardSaid : Prop := Claim7.holds Tryd.pinned (.plain (OpenSpec.ofChange handoverKeysSpec)) handoverKeysCard

/-- THE TIED CARD OF 'postilionlaw33.HandoverErrors'. -/
def handoverErrorsCard : Claim7 := { stood := { row := handoverErrorsRow, standIns := [], harness := (true, "cfb96827ca4ee80e4c4d139e3db8e655ae95556a9f60b6cb5f0b0b1e7adb1396"), looks := false }, kinds := [], alts := [], laidByText := true, laidKinds := [.data, .data, .data], laidTests := true, laidLooks := .later }
def HandoverErrorsCardSaid : Prop := Claim7.holds Tryd.pinned (.plain (OpenSpec.ofChange handoverErrorsSpec)) handoverErrorsCard

/-- THE SECOND FORM's CARD OF 'postilionlaw33.HandoverMatchesReference'. -/
def handoverMatchesReferenceUptoCard : Claim7 := { stood := { row := handoverMatchesReferenceUptoRow, standIns := [], harness := (true, "cfb96827ca4ee80e4c4d139e3db8e655ae95556a9f60b6cb5f0b0b1e7adb1396"), looks := false }, kinds := [], alts := [], laidByText := true, laidKinds := [.data, .data, .data], laidTests := true, laidLooks := .later }
def HandoverMatchesReferenceUptoCardSaid : Prop := Claim7.holds Tryd.pinned (.plain (OpenSpec.upto handoverMatchesReferenceSpec)) handoverMatchesReferenceUptoCard

/-- THE SECOND FORM's CARD OF 'postilionlaw33.HandoverWritten'. -/
def handoverWrittenUptoCard : Claim7 := { stood := { row := handoverWrittenUptoRow, standIns := [], harness := (true, "cfb96827ca4ee80e4c4d139e3db8e655ae95556a9f60b6cb5f0b0b1e7adb1396"), looks := false }, kinds := [], alts := [], laidByText := true, laidKinds := [.data, .data, .data], laidTests := true, laidLooks := .later }
def HandoverWrittenUptoCardSaid : Prop := Claim7.holds Tryd.pinned (.plain (OpenSpec.upto handoverWrittenSpec)) handoverWrittenUptoCard

/-- THE SECOND FORM's CARD OF 'postilionlaw33.HandoverChanged'. -/
def handoverChangedUptoCard : Claim7 := { stood := { row := handoverChangedUptoRow, standIns := [], harness := (true, "cfb96827ca4ee80e4c4d139e3db8e655ae95556a9f60b6cb5f0b0b1e7adb1396"), looks := false }, kinds := [], alts := [], laidByText := true, laidKinds := [.data, .data, .data], laidTests := true, laidLooks := .later }
def HandoverChangedUptoCardSaid : Prop := Claim7.holds Tryd.pinned (.plain (OpenSpec.upto handoverChangedSpec)) handoverChangedUptoCard

/-- THE SECOND FORM's CARD OF 'postilionlaw33.HandoverBinding'. -/
def handoverBindingUptoCard : Claim7 := { stood := { row := handoverBindingUptoRow, standIns := [], harness := (true, "cfb96827ca4ee80e4c4d139e3db8e655ae95556a9f60b6cb5f0b0b1e7adb1396"), looks := false }, kinds := [], alts := [], laidByText := true, laidKinds := [.data, .data, .data], laidTests := true, laidLooks := .later }
def HandoverBindingUptoCardSaid : Prop := Claim7.holds Tryd.pinned (.plain (OpenSpec.upto handoverBindingSpec)) handoverBindingUptoCard

/-- THE SECOND FORM's CARD OF 'postilionlaw33.HandoverContents'. -/
def handoverContentsUptoCard : Claim7 := { stood := { row := handoverContentsUptoRow, standIns := [], harness := (true, "cfb96827ca4ee80e4c4d139e3db8e655ae95556a9f60b6cb5f0b0b1e7adb1396"), looks := false }, kinds := [], alts := [], laidByText := true, laidKinds := [.data, .data, .data], laidTests := true, laidLooks := .later }
def HandoverContentsUptoCardSaid : Prop := Claim7.holds Tryd.pinned (.plain (OpenSpec.upto handoverContentsSpec)) handoverContentsUptoCard

/-- THE SECOND FORM's CARD OF 'postilionlaw33.HandoverKeys'. -/
def handoverKeysUptoCard : Claim7 := { stood := { row := handoverKeysUptoRow, standIns := [], harness := (true, "cfb96827ca4ee80e4c4d139e3db8e655ae95556a9f60b6cb5f0b0b1e7adb1396"), looks := false }, kinds := [], alts := [], laidByText := true, laidKinds := [.data, .data, .data], laidTests := true, laidLooks := .later }
def HandoverKeysUptoCardSaid : Prop := Claim7.holds Tryd.pinned (.plain (OpenSpec.upto handoverKeysSpec)) handoverKeysUptoCard

/-- THE SECOND FORM's CARD OF 'postilionlaw33.HandoverErrors'. -/
def handoverErrorsUptoCard : Claim7 := { stood := { row := handoverErrorsUptoRow, standIns := [], harness := (true, "cfb96827ca4ee80e4c4d139e3db8e655ae95556a9f60b6cb5f0b0b1e7adb1396"), looks := false }, kinds := [], alts := [], laidByText := true, laidKinds := [.data, .data, .data], laidTests := true, laidLooks := .later }
def HandoverErrorsUptoCardSaid : Prop := Claim7.holds Tryd.pinned (.plain (OpenSpec.upto handoverErrorsSpec)) handoverErrorsUptoCard
end Rows
end Go.Proofs.YtobdkjjakdjnaaaDoor
