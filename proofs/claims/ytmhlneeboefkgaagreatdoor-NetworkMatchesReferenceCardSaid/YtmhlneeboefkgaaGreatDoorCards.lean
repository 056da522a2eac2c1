/-
  DERIVED. GIVEN WITH THE SEED: THE CARDS: each row of YtmhlneeboefkgaaGreatDoorRows.lean that lists a variable, with what it lists TIED to the program's text (the seventh form; the later family's looks); each row that meets fmt, with fmt's text TOLD by the authors' own Lean function (tested against real Go, not proved from fmt's source: count such statements apart). THE CARD IS WHAT COUNTS. Prove the row's statement (the work); the ties are given (YtmhlneeboefkgaaGreatDoorTie.lean); close each card by the builder's one call (the guide's Derived/Test/ToyasCard.lean, 'card_holds'). Laid BY PROGRAM, IN A SANDBOX (cutbox-door.mjs). By AI agents, Wed Nov 11 2026. No macro, syntax, notation, axiom, sorry.
-/
import Derived.Test.YtmhlneeboefkgaaGreatDoorRows
import GoSem.ClaimSeven
namespace Go.Proofs.YtmhlneeboefkgaaGreatDoor
namespace Rows

/-- THE TIED CARD OF 'postilionlaw09.NetworkMatchesReference'. -/
def networkMatchesReferenceCard : Claim7 := { stood := { row := networkMatchesReferenceRow, standIns := [], harness := (true, "618954443b80e23d7ad5b3df1c160a878f97d7854f0c930f9e97291e903881ec"), looks := true }, kinds := [], alts := [], laidByText := true, laidKinds := [.data, .data, .data, .sentinel, .sentinel, .data, .data], laidTests := true, laidLooks := .later }
def NetworkMatchesReferenceCardSaid : Prop := Claim7.holds Tryz.pinned (.plain (OpenSpec.ofChange networkMatchesReferenceSpec)) networkMatchesReferenceCard

/-- THE SECOND FORM's CARD OF 'postilionlaw09.NetworkMatchesReference'. -/
def networkMatchesReferenceUptoCard : Claim7 := { stood := { row := networkMatchesReferenceUptoRow, standIns := [], harness := (true, "618954443b80e23d7ad5b3df1c160a878f97d7854f0c930f9e97291e903881ec"), looks := true }, kinds := [], alts := [], laidByText := true, laidKinds := [.data, .data, .data, .sentinel, .sentinel, .data, .data], laidTests := true, laidLooks := .later }
def NetworkMatchesReferenceUptoCardSaid : Prop := Claim7.holds Tryz.pinned (.plain (OpenSpec.upto networkMatchesReferenceSpec)) networkMatchesReferenceUptoCard
end Rows
end Go.Proofs.YtmhlneeboefkgaaGreatDoor
