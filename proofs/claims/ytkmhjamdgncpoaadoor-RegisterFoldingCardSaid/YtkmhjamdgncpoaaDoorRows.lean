/-
  NARROWER THAN 'FOR EVERY INPUT', by the rows' own cells (each row's printed sentence says how): RegisterBeginnings: laid · RegisterAddresses: laid · RegisterOnePoint: laid · RegisterPointsStay: laid · RegisterFolding: laid · RegisterAliases: laid · RegisterClosing: laid.
  DERIVED. THE GIVEN ROWS OF THIS SEAT. 7 by the template 'for every input the law returns true; each argument reads behind the call as it read before'; 0 by the template 'total and deterministic' (their statements: YtkmhjamdgncpoaaDoorTotals.lean).
  GIVEN WITH THE SEED: the statements are not yours to turn. If you find one false, say at which input.
  Laid BY PROGRAM, IN A SANDBOX (cutbox-rows.mjs): the forced cells as the released guide's own fill.sh prints them over the translation cf8d6a67b8f6c2ef… (all of the seat's roots in one cut). By AI agents, Wed Nov 11 2026. No macro, syntax, notation, axiom, sorry.
-/
import Derived.Test.YtkmhjamdgncpoaaDoorChecked
import GoSem.PinnedTables
import GoSem.Claim
import GoSem.ClaimJoined
import GoSem.ClaimMapViews
import Derived.JoinedTies
import Derived.KernelRfl
namespace Go.Proofs.YtkmhjamdgncpoaaDoor
/- THE CELL 'sum', in the pinned program and in every row, IS THE sha256 OF THE DUMP (.gsa) THAT YtkmhjamdgncpoaaDoorProg.lean LOADS. Nothing in Lean hashes anything: it is a label: what it is worth is what the hold of that sum in a sandbox is worth. -/
noncomputable def Tryd.pinned : Pinned := { name := "ytkmhjamdgncpoaadoor", sum := "cf8d6a67b8f6c2ef72b6cf35a1bfc3e9066b8a943aab2f205fa1660c4b3e16ac", checked := Tryd.checked }
namespace Rows
def none {H : Type} : Left H := { results := [], args := [] }

/- WHAT THE LISTED PACKAGE-LEVEL VARIABLES READ AS WHEN THE CALL BEGINS. Each datum BY PROGRAM (the guide's laid-datum.mjs) off the statement by which the dump's own 'gosem.cut.vars' lays the variable. In a bare row this is a premise. The card (YtkmhjamdgncpoaaDoorCards.lean) ties it to the program's text. -/
def laid_unicode_utf8_acceptRanges {H : Type} : DataW H := .agg [.agg [.lit (.int .u8 128), .lit (.int .u8 191)], .agg [.lit (.int .u8 160), .lit (.int .u8 191)], .agg [.lit (.int .u8 128), .lit (.int .u8 159)], .agg [.lit (.int .u8 144), .lit (.int .u8 191)], .agg [.lit (.int .u8 128), .lit (.int .u8 143)], .agg [.lit (.int .u8 0), .lit (.int .u8 0)], .agg [.lit (.int .u8 0), .lit (.int .u8 0)], .agg [.lit (.int .u8 0), .lit (.int .u8 0)], .agg [.lit (.int .u8 0), .lit (.int .u8 0)], .agg [.lit (.int .u8 0), .lit (.int .u8 0)], .agg [.lit (.int .u8 0), .lit (.int .u8 0)], .agg [.lit (.int .u8 0), .lit (.int .u8 0)], .agg [.lit (.int .u8 0), .lit (.int .u8 0)], .agg [.lit (.int .u8 0), .lit (.int .u8 0)], .agg [.lit (.int .u8 0), .lit (.int .u8 0)], .agg [.lit (.int .u8 0), .lit (.int .u8 0)]]
/-- One of Go's own tables, pinned by name: the form's constant. -/
def laid_unicode_utf8_first : DataW Unit := Go.Pinned.utf8First

/-- 'postilionlaw05.RegisterBeginnings': WHATEVER THE INPUT: true; the input reads as it did. -/
def registerBeginningsSpec : ChangeSpec := { name := "registerBeginnings", fn := fun _ => fun
  | [d1, d2] => { results := [.lit (.bool true)], args := [d1, d2] }
  | _ => none }
def registerBeginningsRow : OpenClaim := { program := "ytkmhjamdgncpoaadoor", sum := "cf8d6a67b8f6c2ef72b6cf35a1bfc3e9066b8a943aab2f205fa1660c4b3e16ac", func := "postilion/postilionlaw05.RegisterBeginnings", spec := "registerBeginnings", inPlace := ["internal/bytealg.CountString", "internal/bytealg.IndexByteString", "internal/bytealg.IndexString"], unfollowed := true, recurses := true, named := ["unicode/utf8.first", "unicode/utf8.acceptRanges", "internal/bytealg.MaxLen"], apart := false, laid := [("unicode/utf8.acceptRanges", laid_unicode_utf8_acceptRanges), ("unicode/utf8.first", laid_unicode_utf8_first)] }
def RegisterBeginningsSaid : Prop := registerBeginningsRow.holds Tryd.pinned (OpenSpec.ofChange registerBeginningsSpec)

/-- ITS FALSE NEIGHBOUR: 'it returns false'. Refute it at one input. -/
def registerBeginningsWrong : ChangeSpec := { name := "registerBeginnings", fn := fun _ => fun
  | [d1, d2] => { results := [.lit (.bool false)], args := [d1, d2] }
  | _ => none }
def RegisterBeginningsWrongFalsely : Prop := registerBeginningsRow.holds Tryd.pinned (OpenSpec.ofChange registerBeginningsWrong)

/-- 'postilionlaw05.RegisterAddresses': WHATEVER THE INPUT: true; the input reads as it did. -/
def registerAddressesSpec : ChangeSpec := { name := "registerAddresses", fn := fun _ => fun
  | [d1, d2, d3, d4] => { results := [.lit (.bool true)], args := [d1, d2, d3, d4] }
  | _ => none }
def registerAddressesRow : OpenClaim := { program := "ytkmhjamdgncpoaadoor", sum := "cf8d6a67b8f6c2ef72b6cf35a1bfc3e9066b8a943aab2f205fa1660c4b3e16ac", func := "postilion/postilionlaw05.RegisterAddresses", spec := "registerAddresses", inPlace := ["internal/bytealg.CountString", "internal/bytealg.IndexByteString", "internal/bytealg.IndexString"], unfollowed := true, recurses := true, named := ["unicode/utf8.first", "unicode/utf8.acceptRanges", "internal/bytealg.MaxLen"], apart := false, laid := [("unicode/utf8.acceptRanges", laid_unicode_utf8_acceptRanges), ("unicode/utf8.first", laid_unicode_utf8_first)] }
def RegisterAddressesSaid : Prop := registerAddressesRow.holds Tryd.pinned (OpenSpec.ofChange registerAddressesSpec)

/-- ITS FALSE NEIGHBOUR: 'it returns false'. Refute it at one input. -/
def registerAddressesWrong : ChangeSpec := { name := "registerAddresses", fn := fun _ => fun
  | [d1, d2, d3, d4] => { results := [.lit (.bool false)], args := [d1, d2, d3, d4] }
  | _ => none }
def RegisterAddressesWrongFalsely : Prop := registerAddressesRow.holds Tryd.pinned (OpenSpec.ofChange registerAddressesWrong)

/-- 'postilionlaw05.RegisterOnePoint': WHATEVER THE INPUT: true; the input reads as it did. -/
def registerOnePointSpec : ChangeSpec := { name := "registerOnePoint", fn := fun _ => fun
  | [d1, d2, d3, d4] => { results := [.lit (.bool true)], args := [d1, d2, d3, d4] }
  | _ => none }
def registerOnePointRow : OpenClaim := { program := "ytkmhjamdgncpoaadoor", sum := "cf8d6a67b8f6c2ef72b6cf35a1bfc3e9066b8a943aab2f205fa1660c4b3e16ac", func := "postilion/postilionlaw05.RegisterOnePoint", spec := "registerOnePoint", inPlace := ["internal/bytealg.CountString", "internal/bytealg.IndexByteString", "internal/bytealg.IndexString"], unfollowed := true, recurses := true, named := ["unicode/utf8.first", "unicode/utf8.acceptRanges", "internal/bytealg.MaxLen"], apart := false, laid := [("unicode/utf8.acceptRanges", laid_unicode_utf8_acceptRanges), ("unicode/utf8.first", laid_unicode_utf8_first)] }
def RegisterOnePointSaid : Prop := registerOnePointRow.holds Tryd.pinned (OpenSpec.ofChange registerOnePointSpec)

/-- ITS FALSE NEIGHBOUR: 'it returns false'. Refute it at one input. -/
def registerOnePointWrong : ChangeSpec := { name := "registerOnePoint", fn := fun _ => fun
  | [d1, d2, d3, d4] => { results := [.lit (.bool false)], args := [d1, d2, d3, d4] }
  | _ => none }
def RegisterOnePointWrongFalsely : Prop := registerOnePointRow.holds Tryd.pinned (OpenSpec.ofChange registerOnePointWrong)

/-- 'postilionlaw05.RegisterPointsStay': WHATEVER THE INPUT: true; the input reads as it did. -/
def registerPointsStaySpec : ChangeSpec := { name := "registerPointsStay", fn := fun _ => fun
  | [d1, d2, d3, d4] => { results := [.lit (.bool true)], args := [d1, d2, d3, d4] }
  | _ => none }
def registerPointsStayRow : OpenClaim := { program := "ytkmhjamdgncpoaadoor", sum := "cf8d6a67b8f6c2ef72b6cf35a1bfc3e9066b8a943aab2f205fa1660c4b3e16ac", func := "postilion/postilionlaw05.RegisterPointsStay", spec := "registerPointsStay", inPlace := ["internal/bytealg.CountString", "internal/bytealg.IndexByteString", "internal/bytealg.IndexString"], unfollowed := true, recurses := true, named := ["unicode/utf8.first", "unicode/utf8.acceptRanges", "internal/bytealg.MaxLen"], apart := false, laid := [("unicode/utf8.acceptRanges", laid_unicode_utf8_acceptRanges), ("unicode/utf8.first", laid_unicode_utf8_first)] }
def RegisterPointsStaySaid : Prop := registerPointsStayRow.holds Tryd.pinned (OpenSpec.ofChange registerPointsStaySpec)

/-- ITS FALSE NEIGHBOUR: 'it returns false'. Refute it at one input. -/
def registerPointsStayWrong : ChangeSpec := { name := "registerPointsStay", fn := fun _ => fun
  | [d1, d2, d3, d4] => { results := [.lit (.bool false)], args := [d1, d2, d3, d4] }
  | _ => none }
def RegisterPointsStayWrongFalsely : Prop := registerPointsStayRow.holds Tryd.pinned (OpenSpec.ofChange registerPointsStayWrong)

/-- 'postilionlaw05.RegisterFolding': WHATEVER THE INPUT: true; the input reads as it did. -/
def registerFoldingSpec : ChangeSpec := { name := "registerFolding", fn := fun _ => fun
  | [d1, d2, d3, d4, d5] => { results := [.lit (.bool true)], args := [d1, d2, d3, d4, d5] }
  | _ => none }
def registerFoldingRow : OpenClaim := { program := "ytkmhjamdgncpoaadoor", sum := "cf8d6a67b8f6c2ef72b6cf35a1bfc3e9066b8a943aab2f205fa1660c4b3e16ac", func := "postilion/postilionlaw05.RegisterFolding", spec := "registerFolding", inPlace := ["internal/bytealg.CountString", "internal/bytealg.IndexByteString", "internal/bytealg.IndexString"], unfollowed := true, recurses := true, named := ["unicode/utf8.first", "unicode/utf8.acceptRanges", "internal/bytealg.MaxLen"], apart := false, laid := [("unicode/utf8.acceptRanges", laid_unicode_utf8_acceptRanges), ("unicode/utf8.first", laid_unicode_utf8_first)] }
def RegisterFoldingSaid : Prop := registerFoldingRow.holds Tryd.pinned (OpenSpec.ofChange registerFoldingSpec)

/-- ITS FALSE NEIGHBOUR: 'it returns false'. Refute it at one input. -/
def registerFoldingWrong : ChangeSpec := { name := "registerFolding", fn := fun _ => fun
  | [d1, d2, d3, d4, d5] => { results := [.lit (.bool false)], args := [d1, d2, d3, d4, d5] }
  | _ => none }
def RegisterFoldingWrongFalsely : Prop := registerFoldingRow.holds Tryd.pinned (OpenSpec.ofChange registerFoldingWrong)

/-- 'postilionlaw05.RegisterAliases': WHATEVER THE INPUT: true; the input reads as it did. -/
def registerAliasesSpec : ChangeSpec := { name := "registerAliases", fn := fun _ => fun
  | [d1, d2, d3] => { results := [.lit (.bool true)], args := [d1, d2, d3] }
  | _ => none }
def registerAliasesRow : OpenClaim := { program := "ytkmhjamdgncpoaadoor", sum := "cf8d6a67b8f6c2ef72b6cf35a1bfc3e9066b8a943aab2f205fa1660c4b3e16ac", func := "postilion/postilionlaw05.RegisterAliases", spec := "registerAliases", inPlace := ["internal/bytealg.CountString", "internal/bytealg.IndexByteString", "internal/bytealg.IndexString"], unfollowed := true, recurses := true, named := ["unicode/utf8.first", "unicode/utf8.acceptRanges", "internal/bytealg.MaxLen"], apart := false, laid := [("unicode/utf8.acceptRanges", laid_unicode_utf8_acceptRanges), ("unicode/utf8.first", laid_unicode_utf8_first)] }
def RegisterAliasesSaid : Prop := registerAliasesRow.holds Tryd.pinned (OpenSpec.ofChange registerAliasesSpec)

/-- ITS FALSE NEIGHBOUR: 'it returns false'. Refute it at one input. -/
def registerAliasesWrong : ChangeSpec := { name := "registerAliases", fn := fun _ => fun
  | [d1, d2, d3] => { results := [.lit (.bool false)], args := [d1, d2, d3] }
  | _ => none }
def RegisterAliasesWrongFalsely : Prop := registerAliasesRow.holds Tryd.pinned (OpenSpec.ofChange registerAliasesWrong)

/-- 'postilionlaw05.RegisterClosing': WHATEVER THE INPUT: true; the input reads as it did. -/
def registerClosingSpec : ChangeSpec := { name := "registerClosing", fn := fun _ => fun
  | [d1, d2, d3] => { results := [.lit (.bool true)], args := [d1, d2, d3] }
  | _ => none }
def registerClosingRow : OpenClaim := { program := "ytkmhjamdgncpoaadoor", sum := "cf8d6a67b8f6c2ef72b6cf35a1bfc3e9066b8a943aab2f205fa1660c4b3e16ac", func := "postilion/postilionlaw05.RegisterClosing", spec := "registerClosing", inPlace := ["internal/bytealg.CountString", "internal/bytealg.IndexByteString", "internal/bytealg.IndexString"], unfollowed := true, recurses := true, named := ["unicode/utf8.first", "unicode/utf8.acceptRanges", "internal/bytealg.MaxLen"], apart := false, laid := [("unicode/utf8.acceptRanges", laid_unicode_utf8_acceptRanges), ("unicode/utf8.first", laid_unicode_utf8_first)] }
def RegisterClosingSaid : Prop := registerClosingRow.holds Tryd.pinned (OpenSpec.ofChange registerClosingSpec)

/-- ITS FALSE NEIGHBOUR: 'it returns false'. Refute it at one input. -/
def registerClosingWrong : ChangeSpec := { name := "registerClosing", fn := fun _ => fun
  | [d1, d2, d3] => { results := [.lit (.bool false)], args := [d1, d2, d3] }
  | _ => none }
def RegisterClosingWrongFalsely : Prop := registerClosingRow.holds Tryd.pinned (OpenSpec.ofChange registerClosingWrong)

/- THE SECOND FORM. 'bulk': how many values and letters a reading holds, each counted each time it is reached (what is shared counts as often as it is met; a slice's spare places count too). A statement '..UptoSaid' is the law's where the arguments, and the package variables that the reading takes, are together of bulk at most 1048576: NARROWER than '..Said'. Prove '..Said' where nothing that the law and all that it calls make is longer than what came in: it says more and counts as full. Else prove '..UptoSaid'. A law counts once. -/
mutual
def uptoBulk {H : Type} : DataW H → Nat
  | .lit (.string bytes) => bytes.length + 1
  | .lit _ => 1
  | .nil => 1
  | .ptr d => uptoBulk d + 1
  | .slice elems spare => uptoBulkAll elems + uptoBulkAll spare + 1
  | .agg parts => uptoBulkAll parts + 1
  | .iface _ d => uptoBulk d + 1
  | .map entries => uptoBulkEntries entries + 1
  | .held _ => 1
def uptoBulkAll {H : Type} : List (DataW H) → Nat
  | [] => 0
  | d :: r => uptoBulk d + uptoBulkAll r
def uptoBulkEntries {H : Type} : List (Lit × DataW H) → Nat
  | [] => 0
  | x :: r => uptoBulkEntry x + uptoBulkEntries r
def uptoBulkEntry {H : Type} : Lit × DataW H → Nat
  | (.string bytes, d) => bytes.length + uptoBulk d + 1
  | (_, d) => uptoBulk d + 1
 end
def uptoSmall : (H : Type) → List (DataW H) → Bool := fun _ ds => decide (uptoBulkAll ds ≤ 1048576)
def OpenSpec.upto (s : _root_.Go.ChangeSpec) : _root_.Go.OpenSpec := { _root_.Go.OpenSpec.ofChange s with cond := some uptoSmall }

/-- 'postilionlaw05.RegisterBeginnings', WHERE WHAT IT READS IS OF BULK AT MOST 1048576: true; the input reads as it did. -/
def registerBeginningsUptoRow : OpenClaim := { program := "ytkmhjamdgncpoaadoor", sum := "cf8d6a67b8f6c2ef72b6cf35a1bfc3e9066b8a943aab2f205fa1660c4b3e16ac", func := "postilion/postilionlaw05.RegisterBeginnings", spec := "registerBeginnings", inPlace := ["internal/bytealg.CountString", "internal/bytealg.IndexByteString", "internal/bytealg.IndexString"], unfollowed := true, recurses := true, named := ["unicode/utf8.first", "unicode/utf8.acceptRanges", "internal/bytealg.MaxLen"], apart := false, laid := [("unicode/utf8.acceptRanges", laid_unicode_utf8_acceptRanges), ("unicode/utf8.first", laid_unicode_utf8_first)], narrowed := true }
def RegisterBeginningsUptoSaid : Prop := registerBeginningsUptoRow.holds Tryd.pinned (OpenSpec.upto registerBeginningsSpec)

/-- 'postilionlaw05.RegisterAddresses', WHERE WHAT IT READS IS OF BULK AT MOST 1048576: true; the input reads as it did. -/
def registerAddressesUptoRow : OpenClaim := { program := "ytkmhjamdgncpoaadoor", sum := "cf8d6a67b8f6c2ef72b6cf35a1bfc3e9066b8a943aab2f205fa1660c4b3e16ac", func := "postilion/postilionlaw05.RegisterAddresses", spec := "registerAddresses", inPlace := ["internal/bytealg.CountString", "internal/bytealg.IndexByteString", "internal/bytealg.IndexString"], unfollowed := true, recurses := true, named := ["unicode/utf8.first", "unicode/utf8.acceptRanges", "internal/bytealg.MaxLen"], apart := false, laid := [("unicode/utf8.acceptRanges", laid_unicode_utf8_acceptRanges), ("unicode/utf8.first", laid_unicode_utf8_first)], narrowed := true }
def RegisterAddressesUptoSaid : Prop := registerAddressesUptoRow.holds Tryd.pinned (OpenSpec.upto registerAddressesSpec)

/-- 'postilionlaw05.RegisterOnePoint', WHERE WHAT IT READS IS OF BULK AT MOST 1048576: true; the input reads as it did. -/
def registerOnePointUptoRow : OpenClaim := { program := "ytkmhjamdgncpoaadoor", sum := "cf8d6a67b8f6c2ef72b6cf35a1bfc3e9066b8a943aab2f205fa1660c4b3e16ac", func := "postilion/postilionlaw05.RegisterOnePoint", spec := "registerOnePoint", inPlace := ["internal/bytealg.CountString", "internal/bytealg.IndexByteString", "internal/bytealg.IndexString"], unfollowed := true, recurses := true, named := ["unicode/utf8.first", "unicode/utf8.acceptRanges", "internal/bytealg.MaxLen"], apart := false, laid := [("unicode/utf8.acceptRanges", laid_unicode_utf8_acceptRanges), ("unicode/utf8.first", laid_unicode_utf8_first)], narrowed := true }
def RegisterOnePointUptoSaid : Prop := registerOnePointUptoRow.holds Tryd.pinned (OpenSpec.upto registerOnePointSpec)

/-- 'postilionlaw05.RegisterPointsStay', WHERE WHAT IT READS IS OF BULK AT MOST 1048576: true; the input reads as it did. -/
def registerPointsStayUptoRow : OpenClaim := { program := "ytkmhjamdgncpoaadoor", sum := "cf8d6a67b8f6c2ef72b6cf35a1bfc3e9066b8a943aab2f205fa1660c4b3e16ac", func := "postilion/postilionlaw05.RegisterPointsStay", spec := "registerPointsStay", inPlace := ["internal/bytealg.CountString", "internal/bytealg.IndexByteString", "internal/bytealg.IndexString"], unfollowed := true, recurses := true, named := ["unicode/utf8.first", "unicode/utf8.acceptRanges", "internal/bytealg.MaxLen"], apart := false, laid := [("unicode/utf8.acceptRanges", laid_unicode_utf8_acceptRanges), ("unicode/utf8.first", laid_unicode_utf8_first)], narrowed := true }
def RegisterPointsStayUptoSaid : Prop := registerPointsStayUptoRow.holds Tryd.pinned (OpenSpec.upto registerPointsStaySpec)

/-- 'postilionlaw05.RegisterFolding', WHERE WHAT IT READS IS OF BULK AT MOST 1048576: true; the input reads as it did. -/
def registerFoldingUptoRow : OpenClaim := { program := "ytkmhjamdgncpoaadoor", sum := "cf8d6a67b8f6c2ef72b6cf35a1bfc3e9066b8a943aab2f205fa1660c4b3e16ac", func := "postilion/postilionlaw05.RegisterFolding", spec := "registerFolding", inPlace := ["internal/bytealg.CountString", "internal/bytealg.IndexByteString", "internal/bytealg.IndexString"], unfollowed := true, recurses := true, named := ["unicode/utf8.first", "unicode/utf8.acceptRanges", "internal/bytealg.MaxLen"], apart := false, laid := [("unicode/utf8.acceptRanges", laid_unicode_utf8_acceptRanges), ("unicode/utf8.first", laid_unicode_utf8_first)], narrowed := true }
def RegisterFoldingUptoSaid : Prop := registerFoldingUptoRow.holds Tryd.pinned (OpenSpec.upto registerFoldingSpec)

/-- 'postilionlaw05.RegisterAliases', WHERE WHAT IT READS IS OF BULK AT MOST 1048576: true; the input reads as it did. -/
def registerAliasesUptoRow : OpenClaim := { program := "ytkmhjamdgncpoaadoor", sum := "cf8d6a67b8f6c2ef72b6cf35a1bfc3e9066b8a943aab2f205fa1660c4b3e16ac", func := "postilion/postilionlaw05.RegisterAliases", spec := "registerAliases", inPlace := ["internal/bytealg.CountString", "internal/bytealg.IndexByteString", "internal/bytealg.IndexString"], unfollowed := true, recurses := true, named := ["unicode/utf8.first", "unicode/utf8.acceptRanges", "internal/bytealg.MaxLen"], apart := false, laid := [("unicode/utf8.acceptRanges", laid_unicode_utf8_acceptRanges), ("unicode/utf8.first", laid_unicode_utf8_first)], narrowed := true }
def RegisterAliasesUptoSaid : Prop := registerAliasesUptoRow.holds Tryd.pinned (OpenSpec.upto registerAliasesSpec)

/-- 'postilionlaw05.RegisterClosing', WHERE WHAT IT READS IS OF BULK AT MOST 1048576: true; the input reads as it did. -/
def registerClosingUptoRow : OpenClaim := { program := "ytkmhjamdgncpoaadoor", sum := "cf8d6a67b8f6c2ef72b6cf35a1bfc3e9066b8a943aab2f205fa1660c4b3e16ac", func := "postilion/postilionlaw05.RegisterClosing", spec := "registerClosing", inPlace := ["internal/bytealg.CountString", "internal/bytealg.IndexByteString", "internal/bytealg.IndexString"], unfollowed := true, recurses := true, named := ["unicode/utf8.first", "unicode/utf8.acceptRanges", "internal/bytealg.MaxLen"], apart := false, laid := [("unicode/utf8.acceptRanges", laid_unicode_utf8_acceptRanges), ("unicode/utf8.first", laid_unicode_utf8_first)], narrowed := true }
def RegisterClosingUptoSaid : Prop := registerClosingUptoRow.holds Tryd.pinned (OpenSpec.upto registerClosingSpec)

end Rows
end Go.Proofs.YtkmhjamdgncpoaaDoor
