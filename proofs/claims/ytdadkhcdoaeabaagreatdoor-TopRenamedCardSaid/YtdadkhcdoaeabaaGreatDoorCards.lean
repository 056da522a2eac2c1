/-
  DERIVED. GIVEN WITH THE SEED: THE CARDS: each row of YtdadkhcdoaeabaaGreatDoorRows.lean that lists a variable, with what it lists TIED to the program's text (the seventh form; the later family's looks); each row that meets fmt, with fmt's text TOLD by the authors' own Lean function (tested against real Go, not proved from fmt's source: count such statements apart). THE CARD IS WHAT COUNTS. Prove the row's statement (the work); the ties are given (YtdadkhcdoaeabaaGreatDoorTie.lean); close each card by the builder's one call (the guide's Derived/Test/ToyasCard.lean, 'card_holds'). Laid BY PROGRAM, IN A SANDBOX (cutbox-door.mjs). By AI agents, Wed Nov 11 2026. No macro, syntax, notation, axiom, sorry.
-/
import Derived.Test.YtdadkhcdoaeabaaGreatDoorRows
import GoSem.ClaimSeven
namespace Go.Proofs.YtdadkhcdoaeabaaGreatDoor
namespace Rows

/-- THE TIED CARD OF 'postiliontop.TopForwarded'. -/
def topForwardedCard : Claim7 := { stood := { row := topForwardedRow, standIns := [], harness := (true, "8931e0eb94803aaf35e5ff9c5fa0e723648c44a4babe447c8fee7e74b0b01e9b"), looks := true }, kinds := [], alts := [], laidByText := true, laidKinds := [.data, .data, .data, .data, .sentinel, .sentinel, .pinned, .pinned], laidTests := true, laidLooks := .later }
def TopForwardedCardSaid : Prop := Claim7.holds Tryz.pinned (.plain (OpenSpec.ofChange topForwardedSpec)) topForwardedCard

/-- THE TIED CARD OF 'postiliontop.TopRenamed'. -/
def topRenamedCard : Claim7 := { stood := { row := topRenamedRow, standIns := [], harness := (true, "8931e0eb94803aaf35e5ff9c5fa0e723648c44a4babe447c8fee7e74b0b01e9b"), looks := true }, kinds := [], alts := [], laidByText := true, laidKinds := [.data, .data, .data, .data, .sentinel, .sentinel, .pinned, .pinned], laidTests := true, laidLooks := .later }
def TopRenamedCardSaid : Prop := Claim7.holds Tryz.pinned (.plain (OpenSpec.ofChange topRenamedSpec)) topRenamedCard

/-- THE TIED CARD OF 'postilionlaw08.ResolveFound'. -/
def resolveFoundCard : Claim7 := { stood := { row := resolveFoundRow, standIns := [], harness := (true, "8931e0eb94803aaf35e5ff9c5fa0e723648c44a4babe447c8fee7e74b0b01e9b"), looks := true }, kinds := [], alts := [], laidByText := true, laidKinds := [.data, .data, .data, .data, .sentinel, .sentinel, .pinned, .pinned], laidTests := true, laidLooks := .later }
def ResolveFoundCardSaid : Prop := Claim7.holds Tryz.pinned (.plain (OpenSpec.ofChange resolveFoundSpec)) resolveFoundCard

/-- THE TIED CARD OF 'postilionlaw08.ResolveLimits'. -/
def resolveLimitsCard : Claim7 := { stood := { row := resolveLimitsRow, standIns := [], harness := (true, "8931e0eb94803aaf35e5ff9c5fa0e723648c44a4babe447c8fee7e74b0b01e9b"), looks := true }, kinds := [], alts := [], laidByText := true, laidKinds := [.data, .data, .data, .data, .sentinel, .sentinel, .pinned, .pinned], laidTests := true, laidLooks := .later }
def ResolveLimitsCardSaid : Prop := Claim7.holds Tryz.pinned (.plain (OpenSpec.ofChange resolveLimitsSpec)) resolveLimitsCard

/-- THE TIED CARD OF 'postilionlaw08.ResolveSeveral'. -/
def resolveSeveralCard : Claim7 := { stood := { row := resolveSeveralRow, standIns := [], harness := (true, "8931e0eb94803aaf35e5ff9c5fa0e723648c44a4babe447c8fee7e74b0b01e9b"), looks := true }, kinds := [], alts := [], laidByText := true, laidKinds := [.data, .data, .data, .data, .sentinel, .sentinel, .pinned, .pinned], laidTests := true, laidLooks := .later }
def ResolveSeveralCardSaid : Prop := Claim7.holds Tryz.pinned (.plain (OpenSpec.ofChange resolveSeveralSpec)) resolveSeveralCard

/-- THE TIED CARD OF 'postilionlaw08.ResolveOrder'. -/
def resolveOrderCard : Claim7 := { stood := { row := resolveOrderRow, standIns := [], harness := (true, "8931e0eb94803aaf35e5ff9c5fa0e723648c44a4babe447c8fee7e74b0b01e9b"), looks := true }, kinds := [], alts := [], laidByText := true, laidKinds := [.data, .data, .data, .data, .sentinel, .sentinel, .pinned, .pinned], laidTests := true, laidLooks := .later }
def ResolveOrderCardSaid : Prop := Claim7.holds Tryz.pinned (.plain (OpenSpec.ofChange resolveOrderSpec)) resolveOrderCard

/-- THE TIED CARD OF 'postilionlaw08.ResolveDelivers'. -/
def resolveDeliversCard : Claim7 := { stood := { row := resolveDeliversRow, standIns := [], harness := (true, "8931e0eb94803aaf35e5ff9c5fa0e723648c44a4babe447c8fee7e74b0b01e9b"), looks := true }, kinds := [], alts := [], laidByText := true, laidKinds := [.data, .data, .data, .data, .sentinel, .sentinel, .pinned, .pinned], laidTests := true, laidLooks := .later }
def ResolveDeliversCardSaid : Prop := Claim7.holds Tryz.pinned (.plain (OpenSpec.ofChange resolveDeliversSpec)) resolveDeliversCard

/-- THE TIED CARD OF 'postilionlaw08.ResolveOrders'. -/
def resolveOrdersCard : Claim7 := { stood := { row := resolveOrdersRow, standIns := [], harness := (true, "8931e0eb94803aaf35e5ff9c5fa0e723648c44a4babe447c8fee7e74b0b01e9b"), looks := true }, kinds := [], alts := [], laidByText := true, laidKinds := [.data, .data, .data, .data, .sentinel, .sentinel, .pinned, .pinned], laidTests := true, laidLooks := .later }
def ResolveOrdersCardSaid : Prop := Claim7.holds Tryz.pinned (.plain (OpenSpec.ofChange resolveOrdersSpec)) resolveOrdersCard

/-- THE TIED CARD OF 'postilionlaw08.ResolvePrinted'. -/
def resolvePrintedCard : Claim7 := { stood := { row := resolvePrintedRow, standIns := [], harness := (true, "8931e0eb94803aaf35e5ff9c5fa0e723648c44a4babe447c8fee7e74b0b01e9b"), looks := true }, kinds := [], alts := [], laidByText := true, laidKinds := [.data, .data, .data, .data, .sentinel, .sentinel, .pinned, .pinned], laidTests := true, laidLooks := .later }
def ResolvePrintedCardSaid : Prop := Claim7.holds Tryz.pinned (.plain (OpenSpec.ofChange resolvePrintedSpec)) resolvePrintedCard

/-- THE SECOND FORM's CARD OF 'postiliontop.TopForwarded'. -/
def topForwardedUptoCard : Claim7 := { stood := { row := topForwardedUptoRow, standIns := [], harness := (true, "8931e0eb94803aaf35e5ff9c5fa0e723648c44a4babe447c8fee7e74b0b01e9b"), looks := true }, kinds := [], alts := [], laidByText := true, laidKinds := [.data, .data, .data, .data, .sentinel, .sentinel, .pinned, .pinned], laidTests := true, laidLooks := .later }
def TopForwardedUptoCardSaid : Prop := Claim7.holds Tryz.pinned (.plain (OpenSpec.upto topForwardedSpec)) topForwardedUptoCard

/-- THE SECOND FORM's CARD OF 'postiliontop.TopRenamed'. -/
def topRenamedUptoCard : Claim7 := { stood := { row := topRenamedUptoRow, standIns := [], harness := (true, "8931e0eb94803aaf35e5ff9c5fa0e723648c44a4babe447c8fee7e74b0b01e9b"), looks := true }, kinds := [], alts := [], laidByText := true, laidKinds := [.data, .data, .data, .data, .sentinel, .sentinel, .pinned, .pinned], laidTests := true, laidLooks := .later }
def TopRenamedUptoCardSaid : Prop := Claim7.holds Tryz.pinned (.plain (OpenSpec.upto topRenamedSpec)) topRenamedUptoCard

/-- THE SECOND FORM's CARD OF 'postilionlaw08.ResolveFound'. -/
def resolveFoundUptoCard : Claim7 := { stood := { row := resolveFoundUptoRow, standIns := [], harness := (true, "8931e0eb94803aaf35e5ff9c5fa0e723648c44a4babe447c8fee7e74b0b01e9b"), looks := true }, kinds := [], alts := [], laidByText := true, laidKinds := [.data, .data, .data, .data, .sentinel, .sentinel, .pinned, .pinned], laidTests := true, laidLooks := .later }
def ResolveFoundUptoCardSaid : Prop := Claim7.holds Tryz.pinned (.plain (OpenSpec.upto resolveFoundSpec)) resolveFoundUptoCard

/-- THE SECOND FORM's CARD OF 'postilionlaw08.ResolveLimits'. -/
def resolveLimitsUptoCard : Claim7 := { stood := { row := resolveLimitsUptoRow, standIns := [], harness := (true, "8931e0eb94803aaf35e5ff9c5fa0e723648c44a4babe447c8fee7e74b0b01e9b"), looks := true }, kinds := [], alts := [], laidByText := true, laidKinds := [.data, .data, .data, .data, .sentinel, .sentinel, .pinned, .pinned], laidTests := true, laidLooks := .later }
def ResolveLimitsUptoCardSaid : Prop := Claim7.holds Tryz.pinned (.plain (OpenSpec.upto resolveLimitsSpec)) resolveLimitsUptoCard

/-- THE SECOND FORM's CARD OF 'postilionlaw08.ResolveSeveral'. -/
def resolveSeveralUptoCard : Claim7 := { stood := { row := resolveSeveralUptoRow, standIns := [], harness := (true, "8931e0eb94803aaf35e5ff9c5fa0e723648c44a4babe447c8fee7e74b0b01e9b"), looks := true }, kinds := [], alts := [], laidByText := true, laidKinds := [.data, .data, .data, .data, .sentinel, .sentinel, .pinned, .pinned], laidTests := true, laidLooks := .later }
def ResolveSeveralUptoCardSaid : Prop := Claim7.holds Tryz.pinned (.plain (OpenSpec.upto resolveSeveralSpec)) resolveSeveralUptoCard

/-- THE SECOND FORM's CARD OF 'postilionlaw08.ResolveOrder'. -/
def resolveOrderUptoCard : Claim7 := { stood := { row := resolveOrderUptoRow, standIns := [], harness := (true, "8931e0eb94803aaf35e5ff9c5fa0e723648c44a4babe447c8fee7e74b0b01e9b"), looks := true }, kinds := [], alts := [], laidByText := true, laidKinds := [.data, .data, .data, .data, .sentinel, .sentinel, .pinned, .pinned], laidTests := true, laidLooks := .later }
def ResolveOrderUptoCardSaid : Prop := Claim7.holds Tryz.pinned (.plain (OpenSpec.upto resolveOrderSpec)) resolveOrderUptoCard

/-- THE SECOND FORM's CARD OF 'postilionlaw08.ResolveDelivers'. -/
def resolveDeliversUptoCard : Claim7 := { stood := { row := resolveDeliversUptoRow, standIns := [], harness := (true, "8931e0eb94803aaf35e5ff9c5fa0e723648c44a4babe447c8fee7e74b0b01e9b"), looks := true }, kinds := [], alts := [], laidByText := true, laidKinds := [.data, .data, .data, .data, .sentinel, .sentinel, .pinned, .pinned], laidTests := true, laidLooks := .later }
def ResolveDeliversUptoCardSaid : Prop := Claim7.holds Tryz.pinned (.plain (OpenSpec.upto resolveDeliversSpec)) resolveDeliversUptoCard

/-- THE SECOND FORM's CARD OF 'postilionlaw08.ResolveOrders'. -/
def resolveOrdersUptoCard : Claim7 := { stood := { row := resolveOrdersUptoRow, standIns := [], harness := (true, "8931e0eb94803aaf35e5ff9c5fa0e723648c44a4babe447c8fee7e74b0b01e9b"), looks := true }, kinds := [], alts := [], laidByText := true, laidKinds := [.data, .data, .data, .data, .sentinel, .sentinel, .pinned, .pinned], laidTests := true, laidLooks := .later }
def ResolveOrdersUptoCardSaid : Prop := Claim7.holds Tryz.pinned (.plain (OpenSpec.upto resolveOrdersSpec)) resolveOrdersUptoCard

/-- THE SECOND FORM's CARD OF 'postilionlaw08.ResolvePrinted'. -/
def resolvePrintedUptoCard : Claim7 := { stood := { row := resolvePrintedUptoRow, standIns := [], harness := (true, "8931e0eb94803aaf35e5ff9c5fa0e723648c44a4babe447c8fee7e74b0b01e9b"), looks := true }, kinds := [], alts := [], laidByText := true, laidKinds := [.data, .data, .data, .data, .sentinel, .sentinel, .pinned, .pinned], laidTests := true, laidLooks := .later }
def ResolvePrintedUptoCardSaid : Prop := Claim7.holds Tryz.pinned (.plain (OpenSpec.upto resolvePrintedSpec)) resolvePrintedUptoCard
end Rows
end Go.Proofs.YtdadkhcdoaeabaaGreatDoor
