/-
  DERIVED. GIVEN WITH THE SEED: THE CARDS: each row of YtkmhjamdgncpoaaDoorRows.lean that lists a variable, with what it lists TIED to the program's text (the seventh form; the later family's looks); each row that meets fmt, with fmt's text TOLD by the authors' own Lean function (tested against real Go, not proved from fmt's source: count such statements apart). THE CARD IS WHAT COUNTS. Prove the row's statement (the work); the ties are given (YtkmhjamdgncpoaaDoorTie.lean); close each card by the builder's one call (the guide's Derived/Test/ToyasCard.lean, 'card_holds'). Laid BY PROGRAM, IN A SANDBOX (cutbox-door.mjs). By AI agents, Wed Nov 11 2026. No macro, syntax, notation, axiom, sorry.
-/
import Derived.Test.YtkmhjamdgncpoaaDoorRows
import GoSem.ClaimSeven
namespace Go.Proofs.YtkmhjamdgncpoaaDoor
namespace Rows

/-- THE TIED CARD OF 'postilionlaw05.RegisterBeginnings'. -/
def registerBeginningsCard : Claim7 := { stood := { row := registerBeginningsRow, standIns := [], harness := (true, "836676f9853d23201c0907c5913d4cb508eba2e9362c545785283d284f4ebabf"), looks := true }, kinds := [], alts := [], laidByText := true, laidKinds := [.data, .pinned], laidTests := true, laidLooks := .later }
def RegisterBeginningsCardSaid : Prop := Claim7.holds Tryd.pinned (.plain (OpenSpec.ofChange registerBeginningsSpec)) registerBeginningsCard

/-- THE TIED CARD OF 'postilionlaw05.RegisterAddresses'. -/
def registerAddressesCard : Claim7 := { stood := { row := registerAddressesRow, standIns := [], harness := (true, "836676f9853d23201c0907c5913d4cb508eba2e9362c545785283d284f4ebabf"), looks := true }, kinds := [], alts := [], laidByText := true, laidKinds := [.data, .pinned], laidTests := true, laidLooks := .later }
def RegisterAddressesCardSaid : Prop := Claim7.holds Tryd.pinned (.plain (OpenSpec.ofChange registerAddressesSpec)) registerAddressesCard

/-- THE TIED CARD OF 'postilionlaw05.RegisterOnePoint'. -/
def registerOnePointCard : Claim7 := { stood := { row := registerOnePointRow, standIns := [], harness := (true, "836676f9853d23201c0907c5913d4cb508eba2e9362c545785283d284f4ebabf"), looks := true }, kinds := [], alts := [], laidByText := true, laidKinds := [.data, .pinned], laidTests := true, laidLooks := .later }
def RegisterOnePointCardSaid : Prop := Claim7.holds Tryd.pinned (.plain (OpenSpec.ofChange registerOnePointSpec)) registerOnePointCard

/-- THE TIED CARD OF 'postilionlaw05.RegisterPointsStay'. -/
def registerPointsStayCard : Claim7 := { stood := { row := registerPointsStayRow, standIns := [], harness := (true, "836676f9853d23201c0907c5913d4cb508eba2e9362c545785283d284f4ebabf"), looks := true }, kinds := [], alts := [], laidByText := true, laidKinds := [.data, .pinned], laidTests := true, laidLooks := .later }
def RegisterPointsStayCardSaid : Prop := Claim7.holds Tryd.pinned (.plain (OpenSpec.ofChange registerPointsStaySpec)) registerPointsStayCard

/-- THE TIED CARD OF 'postilionlaw05.RegisterFolding'. -/
def registerFoldingCard : Claim7 := { stood := { row := registerFoldingRow, standIns := [], harness := (true, "836676f9853d23201c0907c5913d4cb508eba2e9362c545785283d284f4ebabf"), looks := true }, kinds := [], alts := [], laidByText := true, laidKinds := [.data, .pinned], laidTests := true, laidLooks := .later }
def RegisterFoldingCardSaid : Prop := Claim7.holds Tryd.pinned (.plain (OpenSpec.ofChange registerFoldingSpec)) registerFoldingCard

/-- THE TIED CARD OF 'postilionlaw05.RegisterAliases'. -/
def registerAliasesCard : Claim7 := { stood := { row := registerAliasesRow, standIns := [], harness := (true, "836676f9853d23201c0907c5913d4cb508eba2e9362c545785283d284f4ebabf"), looks := true }, kinds := [], alts := [], laidByText := true, laidKinds := [.data, .pinned], laidTests := true, laidLooks := .later }
def RegisterAliasesCardSaid : Prop := Claim7.holds Tryd.pinned (.plain (OpenSpec.ofChange registerAliasesSpec)) registerAliasesCard

/-- THE TIED CARD OF 'postilionlaw05.RegisterClosing'. -/
def registerClosingCard : Claim7 := { stood := { row := registerClosingRow, standIns := [], harness := (true, "836676f9853d23201c0907c5913d4cb508eba2e9362c545785283d284f4ebabf"), looks := true }, kinds := [], alts := [], laidByText := true, laidKinds := [.data, .pinned], laidTests := true, laidLooks := .later }
def RegisterClosingCardSaid : Prop := Claim7.holds Tryd.pinned (.plain (OpenSpec.ofChange registerClosingSpec)) registerClosingCard

/-- THE SECOND FORM's CARD OF 'postilionlaw05.RegisterBeginnings'. -/
def registerBeginningsUptoCard : Claim7 := { stood := { row := registerBeginningsUptoRow, standIns := [], harness := (true, "836676f9853d23201c0907c5913d4cb508eba2e9362c545785283d284f4ebabf"), looks := true }, kinds := [], alts := [], laidByText := true, laidKinds := [.data, .pinned], laidTests := true, laidLooks := .later }
def RegisterBeginningsUptoCardSaid : Prop := Claim7.holds Tryd.pinned (.plain (OpenSpec.upto registerBeginningsSpec)) registerBeginningsUptoCard

/-- THE SECOND FORM's CARD OF 'postilionlaw05.RegisterAddresses'. -/
def registerAddressesUptoCard : Claim7 := { stood := { row := registerAddressesUptoRow, standIns := [], harness := (true, "836676f9853d23201c0907c5913d4cb508eba2e9362c545785283d284f4ebabf"), looks := true }, kinds := [], alts := [], laidByText := true, laidKinds := [.data, .pinned], laidTests := true, laidLooks := .later }
def RegisterAddressesUptoCardSaid : Prop := Claim7.holds Tryd.pinned (.plain (OpenSpec.upto registerAddressesSpec)) registerAddressesUptoCard

/-- THE SECOND FORM's CARD OF 'postilionlaw05.RegisterOnePoint'. -/
def registerOnePointUptoCard : Claim7 := { stood := { row := registerOnePointUptoRow, standIns := [], harness := (true, "836676f9853d23201c0907c5913d4cb508eba2e9362c545785283d284f4ebabf"), looks := true }, kinds := [], alts := [], laidByText := true, laidKinds := [.data, .pinned], laidTests := true, laidLooks := .later }
def RegisterOnePointUptoCardSaid : Prop := Claim7.holds Tryd.pinned (.plain (OpenSpec.upto registerOnePointSpec)) registerOnePointUptoCard

/-- THE SECOND FORM's CARD OF 'postilionlaw05.RegisterPointsStay'. -/
def registerPointsStayUptoCard : Claim7 := { stood := { row := registerPointsStayUptoRow, standIns := [], harness := (true, "836676f9853d23201c0907c5913d4cb508eba2e9362c545785283d284f4ebabf"), looks := true }, kinds := [], alts := [], laidByText := true, laidKinds := [.data, .pinned], laidTests := true, laidLooks := .later }
def RegisterPointsStayUptoCardSaid : Prop := Claim7.holds Tryd.pinned (.plain (OpenSpec.upto registerPointsStaySpec)) registerPointsStayUptoCard

/-- THE SECOND FORM's CARD OF 'postilionlaw05.RegisterFolding'. -/
def registerFoldingUptoCard : Claim7 := { stood := { row := registerFoldingUptoRow, standIns := [], harness := (true, "836676f9853d23201c0907c5913d4cb508eba2e9362c545785283d284f4ebabf"), looks := true }, kinds := [], alts := [], laidByText := true, laidKinds := [.data, .pinned], laidTests := true, laidLooks := .later }
def RegisterFoldingUptoCardSaid : Prop := Claim7.holds Tryd.pinned (.plain (OpenSpec.upto registerFoldingSpec)) registerFoldingUptoCard

/-- THE SECOND FORM's CARD OF 'postilionlaw05.RegisterAliases'. -/
def registerAliasesUptoCard : Claim7 := { stood := { row := registerAliasesUptoRow, standIns := [], harness := (true, "836676f9853d23201c0907c5913d4cb508eba2e9362c545785283d284f4ebabf"), looks := true }, kinds := [], alts := [], laidByText := true, laidKinds := [.data, .pinned], laidTests := true, laidLooks := .later }
def RegisterAliasesUptoCardSaid : Prop := Claim7.holds Tryd.pinned (.plain (OpenSpec.upto registerAliasesSpec)) registerAliasesUptoCard

/-- THE SECOND FORM's CARD OF 'postilionlaw05.RegisterClosing'. -/
def registerClosingUptoCard : Claim7 := { stood := { row := registerClosingUptoRow, standIns := [], harness := (true, "836676f9853d23201c0907c5913d4cb508eba2e9362c545785283d284f4ebabf"), looks := true }, kinds := [], alts := [], laidByText := true, laidKinds := [.data, .pinned], laidTests := true, laidLooks := .later }
def RegisterClosingUptoCardSaid : Prop := Claim7.holds Tryd.pinned (.plain (OpenSpec.upto registerClosingSpec)) registerClosingUptoCard
end Rows
end Go.Proofs.YtkmhjamdgncpoaaDoor
