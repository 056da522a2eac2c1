/-
  DERIVED. GIVEN WITH THE SEED: THE CARDS: each row of YtmmhehdlnjojjaaGreatDoorRows.lean that lists a variable, with what it lists TIED to the program's text (the seventh form; the later family's looks); each row that meets fmt, with fmt's text TOLD by the authors' own Lean function (tested against real Go, not proved from fmt's source: count such statements apart). THE CARD IS WHAT COUNTS. Prove the row's statement (the work); the ties are given (YtmmhehdlnjojjaaGreatDoorTie.lean); close each card by the builder's one call (the guide's Derived/Test/ToyasCard.lean, 'card_holds'). Laid BY PROGRAM, IN A SANDBOX (cutbox-door.mjs). By AI agents, Wed Nov 11 2026. No macro, syntax, notation, axiom, sorry.
-/
import Derived.Test.YtmmhehdlnjojjaaGreatDoorRows
import GoSem.ClaimSeven
namespace Go.Proofs.YtmmhehdlnjojjaaGreatDoor
namespace Rows

/-- THE TIED CARD OF 'postiliontop.TopTexts'. -/
def topTextsCard : Claim7 := { stood := { row := topTextsRow, standIns := [], harness := (true, "21732cf2cbe3177781b2a23944c86ed8eb735c15902de69498ee0f0584696e94"), looks := true }, kinds := [], alts := [], laidByText := true, laidKinds := [.data, .data, .data, .data, .sentinel, .sentinel, .data, .data, .data, .data, .pinned], laidTests := true, laidLooks := .later }
def TopTextsCardSaid : Prop := Claim7.holds Tryz.pinned (.plain (OpenSpec.ofChange topTextsSpec)) topTextsCard

/-- THE SECOND FORM's CARD OF 'postiliontop.TopTexts'. -/
def topTextsUptoCard : Claim7 := { stood := { row := topTextsUptoRow, standIns := [], harness := (true, "21732cf2cbe3177781b2a23944c86ed8eb735c15902de69498ee0f0584696e94"), looks := true }, kinds := [], alts := [], laidByText := true, laidKinds := [.data, .data, .data, .data, .sentinel, .sentinel, .data, .data, .data, .data, .pinned], laidTests := true, laidLooks := .later }
def TopTextsUptoCardSaid : Prop := Claim7.holds Tryz.pinned (.plain (OpenSpec.upto topTextsSpec)) topTextsUptoCard
end Rows
end Go.Proofs.YtmmhehdlnjojjaaGreatDoor
