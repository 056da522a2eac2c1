/-
  DERIVED. GIVEN WITH THE SEED: THE CARDS: each row of YtmhlneeboefkgaaDoorRows.lean that lists a variable, with what it lists TIED to the program's text (the seventh form; the later family's looks); each row that meets fmt, with fmt's text TOLD by the authors' own Lean function (tested against real Go, not proved from fmt's source: count such statements apart). THE CARD IS WHAT COUNTS. Prove the row's statement (the work); the ties are given (YtmhlneeboefkgaaDoorTie.lean); close each card by the builder's one call (the guide's Derived/Test/ToyasCard.lean, 'card_holds'). Laid BY PROGRAM, IN A SANDBOX (cutbox-door.mjs). By AI agents, Wed Nov 11 2026. No macro, syntax, notation, axiom, sorry.
-/
import Derived.Test.YtmhlneeboefkgaaDoorRows
import GoSem.ClaimSeven
namespace Go.Proofs.YtmhlneeboefkgaaDoor
namespace Rows

/-- THE TIED CARD OF 'postilionlaw09.NetworkGaps'. -/
def networkGapsCard : Claim7 := { stood := { row := networkGapsRow, standIns := [], harness := (true, "cd4ef0055b24664da83a0eff0c2c26b9e0f948ccc36dad1636cd89ac6d16daa5"), looks := true }, kinds := [], alts := [], laidByText := true, laidKinds := [.data, .data, .data, .sentinel, .sentinel, .data, .data], laidTests := true, laidLooks := .later }
def NetworkGapsCardSaid : Prop := Claim7.holds Tryd.pinned (.plain (OpenSpec.ofChange networkGapsSpec)) networkGapsCard

/-- THE TIED CARD OF 'postilionlaw09.NetworkFirstError'. -/
def networkFirstErrorCard : Claim7 := { stood := { row := networkFirstErrorRow, standIns := [], harness := (true, "cd4ef0055b24664da83a0eff0c2c26b9e0f948ccc36dad1636cd89ac6d16daa5"), looks := true }, kinds := [], alts := [], laidByText := true, laidKinds := [.data, .data, .data, .sentinel, .sentinel, .data, .data], laidTests := true, laidLooks := .later }
def NetworkFirstErrorCardSaid : Prop := Claim7.holds Tryd.pinned (.plain (OpenSpec.ofChange networkFirstErrorSpec)) networkFirstErrorCard

/-- THE TIED CARD OF 'postilionlaw09.NetworkReferences'. -/
def networkReferencesCard : Claim7 := { stood := { row := networkReferencesRow, standIns := [], harness := (true, "cd4ef0055b24664da83a0eff0c2c26b9e0f948ccc36dad1636cd89ac6d16daa5"), looks := true }, kinds := [], alts := [], laidByText := true, laidKinds := [.data, .data, .data, .sentinel, .sentinel, .data, .data], laidTests := true, laidLooks := .later }
def NetworkReferencesCardSaid : Prop := Claim7.holds Tryd.pinned (.plain (OpenSpec.ofChange networkReferencesSpec)) networkReferencesCard

/-- THE TIED CARD OF 'postilionlaw09.NetworkMore'. -/
def networkMoreCard : Claim7 := { stood := { row := networkMoreRow, standIns := [], harness := (true, "cd4ef0055b24664da83a0eff0c2c26b9e0f948ccc36dad1636cd89ac6d16daa5"), looks := true }, kinds := [], alts := [], laidByText := true, laidKinds := [.data, .data, .data, .sentinel, .sentinel, .data, .data], laidTests := true, laidLooks := .later }
def NetworkMoreCardSaid : Prop := Claim7.holds Tryd.pinned (.plain (OpenSpec.ofChange networkMoreSpec)) networkMoreCard

/-- THE TIED CARD OF 'postilionlaw09.NetworkNames'. -/
def networkNamesCard : Claim7 := { stood := { row := networkNamesRow, standIns := [], harness := (true, "cd4ef0055b24664da83a0eff0c2c26b9e0f948ccc36dad1636cd89ac6d16daa5"), looks := true }, kinds := [], alts := [], laidByText := true, laidKinds := [.data, .data, .data, .sentinel, .sentinel, .data, .data], laidTests := true, laidLooks := .later }
def NetworkNamesCardSaid : Prop := Claim7.holds Tryd.pinned (.plain (OpenSpec.ofChange networkNamesSpec)) networkNamesCard

/-- THE TIED CARD OF 'postilionlaw09.NetworkErrors'. -/
def networkErrorsCard : Claim7 := { stood := { row := networkErrorsRow, standIns := [], harness := (true, "cd4ef0055b24664da83a0eff0c2c26b9e0f948ccc36dad1636cd89ac6d16daa5"), looks := true }, kinds := [], alts := [], laidByText := true, laidKinds := [.data, .data, .data, .sentinel, .sentinel, .data, .data], laidTests := true, laidLooks := .later }
def NetworkErrorsCardSaid : Prop := Claim7.holds Tryd.pinned (.plain (OpenSpec.ofChange networkErrorsSpec)) networkErrorsCard

/-- THE TIED CARD OF 'postilionlaw09.NetworkBeginnings'. -/
def networkBeginningsCard : Claim7 := { stood := { row := networkBeginningsRow, standIns := [], harness := (true, "cd4ef0055b24664da83a0eff0c2c26b9e0f948ccc36dad1636cd89ac6d16daa5"), looks := true }, kinds := [], alts := [], laidByText := true, laidKinds := [.data, .data, .data, .sentinel, .sentinel, .data, .data], laidTests := true, laidLooks := .later }
def NetworkBeginningsCardSaid : Prop := Claim7.holds Tryd.pinned (.plain (OpenSpec.ofChange networkBeginningsSpec)) networkBeginningsCard

/-- THE SECOND FORM's CARD OF 'postilionlaw09.NetworkGaps'. -/
def networkGapsUptoCard : Claim7 := { stood := { row := networkGapsUptoRow, standIns := [], harness := (true, "cd4ef0055b24664da83a0eff0c2c26b9e0f948ccc36dad1636cd89ac6d16daa5"), looks := true }, kinds := [], alts := [], laidByText := true, laidKinds := [.data, .data, .data, .sentinel, .sentinel, .data, .data], laidTests := true, laidLooks := .later }
def NetworkGapsUptoCardSaid : Prop := Claim7.holds Tryd.pinned (.plain (OpenSpec.upto networkGapsSpec)) networkGapsUptoCard

/-- THE SECOND FORM's CARD OF 'postilionlaw09.NetworkFirstError'. -/
def networkFirstErrorUptoCard : Claim7 := { stood := { row := networkFirstErrorUptoRow, standIns := [], harness := (true, "cd4ef0055b24664da83a0eff0c2c26b9e0f948ccc36dad1636cd89ac6d16daa5"), looks := true }, kinds := [], alts := [], laidByText := true, laidKinds := [.data, .data, .data, .sentinel, .sentinel, .data, .data], laidTests := true, laidLooks := .later }
def NetworkFirstErrorUptoCardSaid : Prop := Claim7.holds Tryd.pinned (.plain (OpenSpec.upto networkFirstErrorSpec)) networkFirstErrorUptoCard

/-- THE SECOND FORM's CARD OF 'postilionlaw09.NetworkReferences'. -/
def networkReferencesUptoCard : Claim7 := { stood := { row := networkReferencesUptoRow, standIns := [], harness := (true, "cd4ef0055b24664da83a0eff0c2c26b9e0f948ccc36dad1636cd89ac6d16daa5"), looks := true }, kinds := [], alts := [], laidByText := true, laidKinds := [.data, .data, .data, .sentinel, .sentinel, .data, .data], laidTests := true, laidLooks := .later }
def NetworkReferencesUptoCardSaid : Prop := Claim7.holds Tryd.pinned (.plain (OpenSpec.upto networkReferencesSpec)) networkReferencesUptoCard

/-- THE SECOND FORM's CARD OF 'postilionlaw09.NetworkMore'. -/
def networkMoreUptoCard : Claim7 := { stood := { row := networkMoreUptoRow, standIns := [], harness := (true, "cd4ef0055b24664da83a0eff0c2c26b9e0f948ccc36dad1636cd89ac6d16daa5"), looks := true }, kinds := [], alts := [], laidByText := true, laidKinds := [.data, .data, .data, .sentinel, .sentinel, .data, .data], laidTests := true, laidLooks := .later }
def NetworkMoreUptoCardSaid : Prop := Claim7.holds Tryd.pinned (.plain (OpenSpec.upto networkMoreSpec)) networkMoreUptoCard

/-- THE SECOND FORM's CARD OF 'postilionlaw09.NetworkNames'. -/
def networkNamesUptoCard : Claim7 := { stood := { row := networkNamesUptoRow, standIns := [], harness := (true, "cd4ef0055b24664da83a0eff0c2c26b9e0f948ccc36dad1636cd89ac6d16daa5"), looks := true }, kinds := [], alts := [], laidByText := true, laidKinds := [.data, .data, .data, .sentinel, .sentinel, .data, .data], laidTests := true, laidLooks := .later }
def NetworkNamesUptoCardSaid : Prop := Claim7.holds Tryd.pinned (.plain (OpenSpec.upto networkNamesSpec)) networkNamesUptoCard

/-- THE SECOND FORM's CARD OF 'postilionlaw09.NetworkErrors'. -/
def networkErrorsUptoCard : Claim7 := { stood := { row := networkErrorsUptoRow, standIns := [], harness := (true, "cd4ef0055b24664da83a0eff0c2c26b9e0f948ccc36dad1636cd89ac6d16daa5"), looks := true }, kinds := [], alts := [], laidByText := true, laidKinds := [.data, .data, .data, .sentinel, .sentinel, .data, .data], laidTests := true, laidLooks := .later }
def NetworkErrorsUptoCardSaid : Prop := Claim7.holds Tryd.pinned (.plain (OpenSpec.upto networkErrorsSpec)) networkErrorsUptoCard

/-- THE SECOND FORM's CARD OF 'postilionlaw09.NetworkBeginnings'. -/
def networkBeginningsUptoCard : Claim7 := { stood := { row := networkBeginningsUptoRow, standIns := [], harness := (true, "cd4ef0055b24664da83a0eff0c2c26b9e0f948ccc36dad1636cd89ac6d16daa5"), looks := true }, kinds := [], alts := [], laidByText := true, laidKinds := [.data, .data, .data, .sentinel, .sentinel, .data, .data], laidTests := true, laidLooks := .later }
def NetworkBeginningsUptoCardSaid : Prop := Claim7.holds Tryd.pinned (.plain (OpenSpec.upto networkBeginningsSpec)) networkBeginningsUptoCard
end Rows
end Go.Proofs.YtmhlneeboefkgaaDoor
