/-
  NARROWER THAN 'FOR EVERY INPUT', by the rows' own cells (each row's printed sentence says how): PrinterMatchesReference: laid · PrinterInverse: laid · PrinterCanonical: laid · PrinterDifferent: laid · PrinterLines: laid · PrinterReferences: laid.
  DERIVED. THE GIVEN ROWS OF THIS SEAT. 6 by the template 'for every input the law returns true; each argument reads behind the call as it read before'; 0 by the template 'total and deterministic' (their statements: YtbedaolpfedacaaGreatDoorTotals.lean).
  GIVEN WITH THE SEED: the statements are not yours to turn. If you find one false, say at which input.
  Laid BY PROGRAM, IN A SANDBOX (cutbox-rows.mjs): the forced cells as the released guide's own fill.sh prints them over the translation 1f9eff26b2589539… (all of the seat's roots in one cut). By AI agents, Wed Nov 11 2026. No macro, syntax, notation, axiom, sorry.
-/
import Derived.Test.YtbedaolpfedacaaGreatDoorChecked
import GoSem.Claim
import GoSem.ClaimJoined
import GoSem.ClaimMapViews
import Derived.JoinedTies
import Derived.KernelRfl
namespace Go.Proofs.YtbedaolpfedacaaGreatDoor
/- THE CELL 'sum', in the pinned program and in every row, IS THE sha256 OF THE DUMP (.gsa) THAT YtbedaolpfedacaaGreatDoorProg.lean LOADS. Nothing in Lean hashes anything: it is a label: what it is worth is what the hold of that sum in a sandbox is worth. -/
noncomputable def Tryz.pinned : Pinned := { name := "ytbedaolpfedacaagreatdoor", sum := "1f9eff26b2589539a6a20615b81775e9f61fd09ff0dc69e266f696b2fecf98c7", checked := Tryz.checked }
namespace Rows
def none {H : Type} : Left H := { results := [], args := [] }

/- WHAT THE LISTED PACKAGE-LEVEL VARIABLES READ AS WHEN THE CALL BEGINS. Each datum BY PROGRAM (the guide's laid-datum.mjs) off the statement by which the dump's own 'gosem.cut.vars' lays the variable. In a bare row this is a premise. The card (YtbedaolpfedacaaGreatDoorCards.lean) ties it to the program's text. -/
def laid_math_bits_deBruijn32tab {H : Type} : DataW H := .agg [.lit (.int .u8 0), .lit (.int .u8 1), .lit (.int .u8 28), .lit (.int .u8 2), .lit (.int .u8 29), .lit (.int .u8 14), .lit (.int .u8 24), .lit (.int .u8 3), .lit (.int .u8 30), .lit (.int .u8 22), .lit (.int .u8 20), .lit (.int .u8 15), .lit (.int .u8 25), .lit (.int .u8 17), .lit (.int .u8 4), .lit (.int .u8 8), .lit (.int .u8 31), .lit (.int .u8 27), .lit (.int .u8 13), .lit (.int .u8 23), .lit (.int .u8 21), .lit (.int .u8 19), .lit (.int .u8 16), .lit (.int .u8 7), .lit (.int .u8 26), .lit (.int .u8 12), .lit (.int .u8 18), .lit (.int .u8 6), .lit (.int .u8 11), .lit (.int .u8 5), .lit (.int .u8 10), .lit (.int .u8 9)]
def laid_math_bits_deBruijn64tab {H : Type} : DataW H := .agg [.lit (.int .u8 0), .lit (.int .u8 1), .lit (.int .u8 56), .lit (.int .u8 2), .lit (.int .u8 57), .lit (.int .u8 49), .lit (.int .u8 28), .lit (.int .u8 3), .lit (.int .u8 61), .lit (.int .u8 58), .lit (.int .u8 42), .lit (.int .u8 50), .lit (.int .u8 38), .lit (.int .u8 29), .lit (.int .u8 17), .lit (.int .u8 4), .lit (.int .u8 62), .lit (.int .u8 47), .lit (.int .u8 59), .lit (.int .u8 36), .lit (.int .u8 45), .lit (.int .u8 43), .lit (.int .u8 51), .lit (.int .u8 22), .lit (.int .u8 53), .lit (.int .u8 39), .lit (.int .u8 33), .lit (.int .u8 30), .lit (.int .u8 24), .lit (.int .u8 18), .lit (.int .u8 12), .lit (.int .u8 5), .lit (.int .u8 63), .lit (.int .u8 55), .lit (.int .u8 48), .lit (.int .u8 27), .lit (.int .u8 60), .lit (.int .u8 41), .lit (.int .u8 37), .lit (.int .u8 16), .lit (.int .u8 46), .lit (.int .u8 35), .lit (.int .u8 44), .lit (.int .u8 21), .lit (.int .u8 52), .lit (.int .u8 32), .lit (.int .u8 23), .lit (.int .u8 11), .lit (.int .u8 54), .lit (.int .u8 26), .lit (.int .u8 40), .lit (.int .u8 15), .lit (.int .u8 34), .lit (.int .u8 20), .lit (.int .u8 31), .lit (.int .u8 10), .lit (.int .u8 25), .lit (.int .u8 14), .lit (.int .u8 19), .lit (.int .u8 9), .lit (.int .u8 13), .lit (.int .u8 8), .lit (.int .u8 7), .lit (.int .u8 6)]
def laid_internal_strconv_uint64pow10 {H : Type} : DataW H := .agg [.lit (.int .u64 1), .lit (.int .u64 10), .lit (.int .u64 100), .lit (.int .u64 1000), .lit (.int .u64 10000), .lit (.int .u64 100000), .lit (.int .u64 1000000), .lit (.int .u64 10000000), .lit (.int .u64 100000000), .lit (.int .u64 1000000000), .lit (.int .u64 10000000000), .lit (.int .u64 100000000000), .lit (.int .u64 1000000000000), .lit (.int .u64 10000000000000), .lit (.int .u64 100000000000000), .lit (.int .u64 1000000000000000), .lit (.int .u64 10000000000000000), .lit (.int .u64 100000000000000000), .lit (.int .u64 1000000000000000000), .lit (.int .u64 10000000000000000000)]
def laid_strconv_ErrRange {H : Type} : DataW H := .iface "*errors.errorString" (.ptr (.agg [.lit (.string [118, 97, 108, 117, 101, 32, 111, 117, 116, 32, 111, 102, 32, 114, 97, 110, 103, 101])]))
def laid_strconv_ErrSyntax {H : Type} : DataW H := .iface "*errors.errorString" (.ptr (.agg [.lit (.string [105, 110, 118, 97, 108, 105, 100, 32, 115, 121, 110, 116, 97, 120])]))
def laid_postilion_lexer_symbols {H : Type} : DataW H := .agg [.lit (.string [45, 62]), .lit (.string [123]), .lit (.string [125]), .lit (.string [40]), .lit (.string [41]), .lit (.string [91]), .lit (.string [93]), .lit (.string [44]), .lit (.string [59]), .lit (.string [58]), .lit (.string [61]), .lit (.string [46]), .lit (.string [45])]
def laid_postilion_network_keyWords {H : Type} : DataW H := .agg [.lit (.string [99, 97, 108, 101, 110, 100, 97, 114]), .lit (.string [111, 112, 101, 114, 97, 116, 111, 114]), .lit (.string [111, 102, 102, 105, 99, 101]), .lit (.string [108, 105, 110, 101]), .lit (.string [99, 108, 97, 115, 115]), .lit (.string [122, 111, 110, 101]), .lit (.string [119, 101, 101, 107]), .lit (.string [104, 111, 108, 105, 100, 97, 121]), .lit (.string [112, 111, 99, 107, 101, 116, 115]), .lit (.string [112, 97, 115, 115, 101, 115]), .lit (.string [109, 105, 110, 117, 116, 101, 115]), .lit (.string [99, 111, 100, 101, 115]), .lit (.string [97, 116]), .lit (.string [116, 114, 97, 118, 101, 108]), .lit (.string [108, 111, 97, 100]), .lit (.string [99, 117, 116]), .lit (.string [100, 101, 108, 105, 118, 101, 114])]
def laid_postilion_printer_keyWords {H : Type} : DataW H := .agg [.lit (.string [99, 97, 108, 101, 110, 100, 97, 114]), .lit (.string [111, 112, 101, 114, 97, 116, 111, 114]), .lit (.string [111, 102, 102, 105, 99, 101]), .lit (.string [108, 105, 110, 101]), .lit (.string [99, 108, 97, 115, 115]), .lit (.string [122, 111, 110, 101]), .lit (.string [119, 101, 101, 107]), .lit (.string [104, 111, 108, 105, 100, 97, 121]), .lit (.string [112, 111, 99, 107, 101, 116, 115]), .lit (.string [112, 97, 115, 115, 101, 115]), .lit (.string [109, 105, 110, 117, 116, 101, 115]), .lit (.string [99, 111, 100, 101, 115]), .lit (.string [97, 116]), .lit (.string [116, 114, 97, 118, 101, 108]), .lit (.string [108, 111, 97, 100]), .lit (.string [99, 117, 116]), .lit (.string [100, 101, 108, 105, 118, 101, 114])]

/-- 'postilionlaw10.PrinterMatchesReference': WHATEVER THE INPUT: true; the input reads as it did. -/
def printerMatchesReferenceSpec : ChangeSpec := { name := "printerMatchesReference", fn := fun _ => fun
  | [d] => { results := [.lit (.bool true)], args := [d] }
  | _ => none }
def printerMatchesReferenceRow : OpenClaim := { program := "ytbedaolpfedacaagreatdoor", sum := "1f9eff26b2589539a6a20615b81775e9f61fd09ff0dc69e266f696b2fecf98c7", func := "postilion/postilionlaw10.PrinterMatchesReference", spec := "printerMatchesReference", inPlace := ["internal/bytealg.IndexByteString", "internal/abi.NoEscape", "internal/bytealg.MakeNoZero"], unfollowed := true, recurses := true, named := ["postilion/lexer.symbols", "postilion/network.keyWords", "strconv.ErrSyntax", "strconv.ErrRange", "internal/strconv.uint64pow10", "math/bits.deBruijn32tab", "math/bits.deBruijn64tab", "postilion/printer.keyWords"], apart := false, laid := [("math/bits.deBruijn32tab", laid_math_bits_deBruijn32tab), ("math/bits.deBruijn64tab", laid_math_bits_deBruijn64tab), ("internal/strconv.uint64pow10", laid_internal_strconv_uint64pow10), ("strconv.ErrRange", laid_strconv_ErrRange), ("strconv.ErrSyntax", laid_strconv_ErrSyntax), ("postilion/lexer.symbols", laid_postilion_lexer_symbols), ("postilion/network.keyWords", laid_postilion_network_keyWords), ("postilion/printer.keyWords", laid_postilion_printer_keyWords)] }
def PrinterMatchesReferenceSaid : Prop := printerMatchesReferenceRow.holds Tryz.pinned (OpenSpec.ofChange printerMatchesReferenceSpec)

/-- ITS FALSE NEIGHBOUR: 'it returns false'. Refute it at one input. -/
def printerMatchesReferenceWrong : ChangeSpec := { name := "printerMatchesReference", fn := fun _ => fun
  | [d] => { results := [.lit (.bool false)], args := [d] }
  | _ => none }
def PrinterMatchesReferenceWrongFalsely : Prop := printerMatchesReferenceRow.holds Tryz.pinned (OpenSpec.ofChange printerMatchesReferenceWrong)

/-- 'postilionlaw10.PrinterInverse': WHATEVER THE INPUT: true; the input reads as it did. -/
def printerInverseSpec : ChangeSpec := { name := "printerInverse", fn := fun _ => fun
  | [d] => { results := [.lit (.bool true)], args := [d] }
  | _ => none }
def printerInverseRow : OpenClaim := { program := "ytbedaolpfedacaagreatdoor", sum := "1f9eff26b2589539a6a20615b81775e9f61fd09ff0dc69e266f696b2fecf98c7", func := "postilion/postilionlaw10.PrinterInverse", spec := "printerInverse", inPlace := ["internal/bytealg.IndexByteString", "internal/abi.NoEscape", "internal/bytealg.MakeNoZero"], unfollowed := true, recurses := true, named := ["postilion/lexer.symbols", "postilion/network.keyWords", "strconv.ErrSyntax", "strconv.ErrRange", "internal/strconv.uint64pow10", "math/bits.deBruijn32tab", "math/bits.deBruijn64tab", "postilion/printer.keyWords"], apart := false, laid := [("math/bits.deBruijn32tab", laid_math_bits_deBruijn32tab), ("math/bits.deBruijn64tab", laid_math_bits_deBruijn64tab), ("internal/strconv.uint64pow10", laid_internal_strconv_uint64pow10), ("strconv.ErrRange", laid_strconv_ErrRange), ("strconv.ErrSyntax", laid_strconv_ErrSyntax), ("postilion/lexer.symbols", laid_postilion_lexer_symbols), ("postilion/network.keyWords", laid_postilion_network_keyWords), ("postilion/printer.keyWords", laid_postilion_printer_keyWords)] }
def PrinterInverseSaid : Prop := printerInverseRow.holds Tryz.pinned (OpenSpec.ofChange printerInverseSpec)

/-- ITS FALSE NEIGHBOUR: 'it returns false'. Refute it at one input. -/
def printerInverseWrong : ChangeSpec := { name := "printerInverse", fn := fun _ => fun
  | [d] => { results := [.lit (.bool false)], args := [d] }
  | _ => none }
def PrinterInverseWrongFalsely : Prop := printerInverseRow.holds Tryz.pinned (OpenSpec.ofChange printerInverseWrong)

/-- 'postilionlaw10.PrinterCanonical': WHATEVER THE INPUT: true; the input reads as it did. -/
def printerCanonicalSpec : ChangeSpec := { name := "printerCanonical", fn := fun _ => fun
  | [d] => { results := [.lit (.bool true)], args := [d] }
  | _ => none }
def printerCanonicalRow : OpenClaim := { program := "ytbedaolpfedacaagreatdoor", sum := "1f9eff26b2589539a6a20615b81775e9f61fd09ff0dc69e266f696b2fecf98c7", func := "postilion/postilionlaw10.PrinterCanonical", spec := "printerCanonical", inPlace := ["internal/bytealg.IndexByteString", "internal/abi.NoEscape", "internal/bytealg.MakeNoZero"], unfollowed := true, recurses := true, named := ["postilion/lexer.symbols", "postilion/network.keyWords", "strconv.ErrSyntax", "strconv.ErrRange", "internal/strconv.uint64pow10", "math/bits.deBruijn32tab", "math/bits.deBruijn64tab", "postilion/printer.keyWords"], apart := false, laid := [("math/bits.deBruijn32tab", laid_math_bits_deBruijn32tab), ("math/bits.deBruijn64tab", laid_math_bits_deBruijn64tab), ("internal/strconv.uint64pow10", laid_internal_strconv_uint64pow10), ("strconv.ErrRange", laid_strconv_ErrRange), ("strconv.ErrSyntax", laid_strconv_ErrSyntax), ("postilion/lexer.symbols", laid_postilion_lexer_symbols), ("postilion/network.keyWords", laid_postilion_network_keyWords), ("postilion/printer.keyWords", laid_postilion_printer_keyWords)] }
def PrinterCanonicalSaid : Prop := printerCanonicalRow.holds Tryz.pinned (OpenSpec.ofChange printerCanonicalSpec)

/-- ITS FALSE NEIGHBOUR: 'it returns false'. Refute it at one input. -/
def printerCanonicalWrong : ChangeSpec := { name := "printerCanonical", fn := fun _ => fun
  | [d] => { results := [.lit (.bool false)], args := [d] }
  | _ => none }
def PrinterCanonicalWrongFalsely : Prop := printerCanonicalRow.holds Tryz.pinned (OpenSpec.ofChange printerCanonicalWrong)

/-- 'postilionlaw10.PrinterDifferent': WHATEVER THE INPUT: true; the input reads as it did. -/
def printerDifferentSpec : ChangeSpec := { name := "printerDifferent", fn := fun _ => fun
  | [d1, d2] => { results := [.lit (.bool true)], args := [d1, d2] }
  | _ => none }
def printerDifferentRow : OpenClaim := { program := "ytbedaolpfedacaagreatdoor", sum := "1f9eff26b2589539a6a20615b81775e9f61fd09ff0dc69e266f696b2fecf98c7", func := "postilion/postilionlaw10.PrinterDifferent", spec := "printerDifferent", inPlace := ["internal/bytealg.IndexByteString", "internal/abi.NoEscape", "internal/bytealg.MakeNoZero"], unfollowed := true, recurses := true, named := ["postilion/lexer.symbols", "postilion/network.keyWords", "strconv.ErrSyntax", "strconv.ErrRange", "internal/strconv.uint64pow10", "math/bits.deBruijn32tab", "math/bits.deBruijn64tab", "postilion/printer.keyWords"], apart := false, laid := [("math/bits.deBruijn32tab", laid_math_bits_deBruijn32tab), ("math/bits.deBruijn64tab", laid_math_bits_deBruijn64tab), ("internal/strconv.uint64pow10", laid_internal_strconv_uint64pow10), ("strconv.ErrRange", laid_strconv_ErrRange), ("strconv.ErrSyntax", laid_strconv_ErrSyntax), ("postilion/lexer.symbols", laid_postilion_lexer_symbols), ("postilion/network.keyWords", laid_postilion_network_keyWords), ("postilion/printer.keyWords", laid_postilion_printer_keyWords)] }
def PrinterDifferentSaid : Prop := printerDifferentRow.holds Tryz.pinned (OpenSpec.ofChange printerDifferentSpec)

/-- ITS FALSE NEIGHBOUR: 'it returns false'. Refute it at one input. -/
def printerDifferentWrong : ChangeSpec := { name := "printerDifferent", fn := fun _ => fun
  | [d1, d2] => { results := [.lit (.bool false)], args := [d1, d2] }
  | _ => none }
def PrinterDifferentWrongFalsely : Prop := printerDifferentRow.holds Tryz.pinned (OpenSpec.ofChange printerDifferentWrong)

/-- 'postilionlaw10.PrinterLines': WHATEVER THE INPUT: true; the input reads as it did. -/
def printerLinesSpec : ChangeSpec := { name := "printerLines", fn := fun _ => fun
  | [d] => { results := [.lit (.bool true)], args := [d] }
  | _ => none }
def printerLinesRow : OpenClaim := { program := "ytbedaolpfedacaagreatdoor", sum := "1f9eff26b2589539a6a20615b81775e9f61fd09ff0dc69e266f696b2fecf98c7", func := "postilion/postilionlaw10.PrinterLines", spec := "printerLines", inPlace := ["internal/bytealg.IndexByteString", "internal/abi.NoEscape", "internal/bytealg.MakeNoZero"], unfollowed := true, recurses := true, named := ["postilion/lexer.symbols", "postilion/network.keyWords", "strconv.ErrSyntax", "strconv.ErrRange", "internal/strconv.uint64pow10", "math/bits.deBruijn32tab", "math/bits.deBruijn64tab", "postilion/printer.keyWords"], apart := false, laid := [("math/bits.deBruijn32tab", laid_math_bits_deBruijn32tab), ("math/bits.deBruijn64tab", laid_math_bits_deBruijn64tab), ("internal/strconv.uint64pow10", laid_internal_strconv_uint64pow10), ("strconv.ErrRange", laid_strconv_ErrRange), ("strconv.ErrSyntax", laid_strconv_ErrSyntax), ("postilion/lexer.symbols", laid_postilion_lexer_symbols), ("postilion/network.keyWords", laid_postilion_network_keyWords), ("postilion/printer.keyWords", laid_postilion_printer_keyWords)] }
def PrinterLinesSaid : Prop := printerLinesRow.holds Tryz.pinned (OpenSpec.ofChange printerLinesSpec)

/-- ITS FALSE NEIGHBOUR: 'it returns false'. Refute it at one input. -/
def printerLinesWrong : ChangeSpec := { name := "printerLines", fn := fun _ => fun
  | [d] => { results := [.lit (.bool false)], args := [d] }
  | _ => none }
def PrinterLinesWrongFalsely : Prop := printerLinesRow.holds Tryz.pinned (OpenSpec.ofChange printerLinesWrong)

/-- 'postilionlaw10.PrinterReferences': WHATEVER THE INPUT: true; the input reads as it did. -/
def printerReferencesSpec : ChangeSpec := { name := "printerReferences", fn := fun _ => fun
  | [d1, d2, d3] => { results := [.lit (.bool true)], args := [d1, d2, d3] }
  | _ => none }
def printerReferencesRow : OpenClaim := { program := "ytbedaolpfedacaagreatdoor", sum := "1f9eff26b2589539a6a20615b81775e9f61fd09ff0dc69e266f696b2fecf98c7", func := "postilion/postilionlaw10.PrinterReferences", spec := "printerReferences", inPlace := ["internal/bytealg.IndexByteString", "internal/abi.NoEscape", "internal/bytealg.MakeNoZero"], unfollowed := true, recurses := true, named := ["postilion/lexer.symbols", "postilion/network.keyWords", "strconv.ErrSyntax", "strconv.ErrRange", "internal/strconv.uint64pow10", "math/bits.deBruijn32tab", "math/bits.deBruijn64tab", "postilion/printer.keyWords"], apart := false, laid := [("math/bits.deBruijn32tab", laid_math_bits_deBruijn32tab), ("math/bits.deBruijn64tab", laid_math_bits_deBruijn64tab), ("internal/strconv.uint64pow10", laid_internal_strconv_uint64pow10), ("strconv.ErrRange", laid_strconv_ErrRange), ("strconv.ErrSyntax", laid_strconv_ErrSyntax), ("postilion/lexer.symbols", laid_postilion_lexer_symbols), ("postilion/network.keyWords", laid_postilion_network_keyWords), ("postilion/printer.keyWords", laid_postilion_printer_keyWords)] }
def PrinterReferencesSaid : Prop := printerReferencesRow.holds Tryz.pinned (OpenSpec.ofChange printerReferencesSpec)

/-- ITS FALSE NEIGHBOUR: 'it returns false'. Refute it at one input. -/
def printerReferencesWrong : ChangeSpec := { name := "printerReferences", fn := fun _ => fun
  | [d1, d2, d3] => { results := [.lit (.bool false)], args := [d1, d2, d3] }
  | _ => none }
def PrinterReferencesWrongFalsely : Prop := printerReferencesRow.holds Tryz.pinned (OpenSpec.ofChange printerReferencesWrong)

/- THE SECOND FORM. 'bulk': how many values and letters a reading holds, each counted each time it is reached (what is shared counts as often as it is met; a slice's spare places count too). A statement '..UptoSaid' is the law's where the arguments, and the package variables that the reading takes, are together of bulk at most 1048576: NARROWER than '..Said'. Prove '..Said' where nothing that the law and all that it calls make is longer than what came in: it says more and counts as full. Else prove '..UptoSaid'. A law counts once. -/
mutual
def uptoBulk {H : Type} : DataW H → Nat
  | .lit (.string bytes) => bytes.length + 1
  | .lit _ => 1
  | .nil => 1
  | .ptr d => uptoBulk d + 1
  | .slice elems spare => uptoBulkAll elems + uptoBulkAll spare + 1
  | .agg parts => uptoBulkAll parts + 1
  | .iface _ d => uptoBulk d + 1
  | .map entries => uptoBulkEntries entries + 1
  | .held _ => 1
def uptoBulkAll {H : Type} : List (DataW H) → Nat
  | [] => 0
  | d :: r => uptoBulk d + uptoBulkAll r
def uptoBulkEntries {H : Type} : List (Lit × DataW H) → Nat
  | [] => 0
  | x :: r => uptoBulkEntry x + uptoBulkEntries r
def uptoBulkEntry {H : Type} : Lit × DataW H → Nat
  | (.string bytes, d) => bytes.length + uptoBulk d + 1
  | (_, d) => uptoBulk d + 1
 end
def uptoSmall : (H : Type) → List (DataW H) → Bool := fun _ ds => decide (uptoBulkAll ds ≤ 1048576)
def OpenSpec.upto (s : _root_.Go.ChangeSpec) : _root_.Go.OpenSpec := { _root_.Go.OpenSpec.ofChange s with cond := some uptoSmall }

/-- 'postilionlaw10.PrinterMatchesReference', WHERE WHAT IT READS IS OF BULK AT MOST 1048576: true; the input reads as it did. -/
def printerMatchesReferenceUptoRow : OpenClaim := { program := "ytbedaolpfedacaagreatdoor", sum := "1f9eff26b2589539a6a20615b81775e9f61fd09ff0dc69e266f696b2fecf98c7", func := "postilion/postilionlaw10.PrinterMatchesReference", spec := "printerMatchesReference", inPlace := ["internal/bytealg.IndexByteString", "internal/abi.NoEscape", "internal/bytealg.MakeNoZero"], unfollowed := true, recurses := true, named := ["postilion/lexer.symbols", "postilion/network.keyWords", "strconv.ErrSyntax", "strconv.ErrRange", "internal/strconv.uint64pow10", "math/bits.deBruijn32tab", "math/bits.deBruijn64tab", "postilion/printer.keyWords"], apart := false, laid := [("math/bits.deBruijn32tab", laid_math_bits_deBruijn32tab), ("math/bits.deBruijn64tab", laid_math_bits_deBruijn64tab), ("internal/strconv.uint64pow10", laid_internal_strconv_uint64pow10), ("strconv.ErrRange", laid_strconv_ErrRange), ("strconv.ErrSyntax", laid_strconv_ErrSyntax), ("postilion/lexer.symbols", laid_postilion_lexer_symbols), ("postilion/network.keyWords", laid_postilion_network_keyWords), ("postilion/printer.keyWords", laid_postilion_printer_keyWords)], narrowed := true }
def PrinterMatchesReferenceUptoSaid : Prop := printerMatchesReferenceUptoRow.holds Tryz.pinned (OpenSpec.upto printerMatchesReferenceSpec)

/-- 'postilionlaw10.PrinterInverse', WHERE WHAT IT READS IS OF BULK AT MOST 1048576: true; the input reads as it did. -/
def printerInverseUptoRow : OpenClaim := { program := "ytbedaolpfedacaagreatdoor", sum := "1f9eff26b2589539a6a20615b81775e9f61fd09ff0dc69e266f696b2fecf98c7", func := "postilion/postilionlaw10.PrinterInverse", spec := "printerInverse", inPlace := ["internal/bytealg.IndexByteString", "internal/abi.NoEscape", "internal/bytealg.MakeNoZero"], unfollowed := true, recurses := true, named := ["postilion/lexer.symbols", "postilion/network.keyWords", "strconv.ErrSyntax", "strconv.ErrRange", "internal/strconv.uint64pow10", "math/bits.deBruijn32tab", "math/bits.deBruijn64tab", "postilion/printer.keyWords"], apart := false, laid := [("math/bits.deBruijn32tab", laid_math_bits_deBruijn32tab), ("math/bits.deBruijn64tab", laid_math_bits_deBruijn64tab), ("internal/strconv.uint64pow10", laid_internal_strconv_uint64pow10), ("strconv.ErrRange", laid_strconv_ErrRange), ("strconv.ErrSyntax", laid_strconv_ErrSyntax), ("postilion/lexer.symbols", laid_postilion_lexer_symbols), ("postilion/network.keyWords", laid_postilion_network_keyWords), ("postilion/printer.keyWords", laid_postilion_printer_keyWords)], narrowed := true }
def PrinterInverseUptoSaid : Prop := printerInverseUptoRow.holds Tryz.pinned (OpenSpec.upto printerInverseSpec)

/-- 'postilionlaw10.PrinterCanonical', WHERE WHAT IT READS IS OF BULK AT MOST 1048576: true; the input reads as it did. -/
def printerCanonicalUptoRow : OpenClaim := { program := "ytbedaolpfedacaagreatdoor", sum := "1f9eff26b2589539a6a20615b81775e9f61fd09ff0dc69e266f696b2fecf98c7", func := "postilion/postilionlaw10.PrinterCanonical", spec := "printerCanonical", inPlace := ["internal/bytealg.IndexByteString", "internal/abi.NoEscape", "internal/bytealg.MakeNoZero"], unfollowed := true, recurses := true, named := ["postilion/lexer.symbols", "postilion/network.keyWords", "strconv.ErrSyntax", "strconv.ErrRange", "internal/strconv.uint64pow10", "math/bits.deBruijn32tab", "math/bits.deBruijn64tab", "postilion/printer.keyWords"], apart := false, laid := [("math/bits.deBruijn32tab", laid_math_bits_deBruijn32tab), ("math/bits.deBruijn64tab", laid_math_bits_deBruijn64tab), ("internal/strconv.uint64pow10", laid_internal_strconv_uint64pow10), ("strconv.ErrRange", laid_strconv_ErrRange), ("strconv.ErrSyntax", laid_strconv_ErrSyntax), ("postilion/lexer.symbols", laid_postilion_lexer_symbols), ("postilion/network.keyWords", laid_postilion_network_keyWords), ("postilion/printer.keyWords", laid_postilion_printer_keyWords)], narrowed := true }
def PrinterCanonicalUptoSaid : Prop := printerCanonicalUptoRow.holds Tryz.pinned (OpenSpec.upto printerCanonicalSpec)

/-- 'postilionlaw10.PrinterDifferent', WHERE WHAT IT READS IS OF BULK AT MOST 1048576: true; the input reads as it did. -/
def printerDifferentUptoRow : OpenClaim := { program := "ytbedaolpfedacaagreatdoor", sum := "1f9eff26b2589539a6a20615b81775e9f61fd09ff0dc69e266f696b2fecf98c7", func := "postilion/postilionlaw10.PrinterDifferent", spec := "printerDifferent", inPlace := ["internal/bytealg.IndexByteString", "internal/abi.NoEscape", "internal/bytealg.MakeNoZero"], unfollowed := true, recurses := true, named := ["postilion/lexer.symbols", "postilion/network.keyWords", "strconv.ErrSyntax", "strconv.ErrRange", "internal/strconv.uint64pow10", "math/bits.deBruijn32tab", "math/bits.deBruijn64tab", "postilion/printer.keyWords"], apart := false, laid := [("math/bits.deBruijn32tab", laid_math_bits_deBruijn32tab), ("math/bits.deBruijn64tab", laid_math_bits_deBruijn64tab), ("internal/strconv.uint64pow10", laid_internal_strconv_uint64pow10), ("strconv.ErrRange", laid_strconv_ErrRange), ("strconv.ErrSyntax", laid_strconv_ErrSyntax), ("postilion/lexer.symbols", laid_postilion_lexer_symbols), ("postilion/network.keyWords", laid_postilion_network_keyWords), ("postilion/printer.keyWords", laid_postilion_printer_keyWords)], narrowed := true }
def PrinterDifferentUptoSaid : Prop := printerDifferentUptoRow.holds Tryz.pinned (OpenSpec.upto printerDifferentSpec)

/-- 'postilionlaw10.PrinterLines', WHERE WHAT IT READS IS OF BULK AT MOST 1048576: true; the input reads as it did. -/
def printerLinesUptoRow : OpenClaim := { program := "ytbedaolpfedacaagreatdoor", sum := "1f9eff26b2589539a6a20615b81775e9f61fd09ff0dc69e266f696b2fecf98c7", func := "postilion/postilionlaw10.PrinterLines", spec := "printerLines", inPlace := ["internal/bytealg.IndexByteString", "internal/abi.NoEscape", "internal/bytealg.MakeNoZero"], unfollowed := true, recurses := true, named := ["postilion/lexer.symbols", "postilion/network.keyWords", "strconv.ErrSyntax", "strconv.ErrRange", "internal/strconv.uint64pow10", "math/bits.deBruijn32tab", "math/bits.deBruijn64tab", "postilion/printer.keyWords"], apart := false, laid := [("math/bits.deBruijn32tab", laid_math_bits_deBruijn32tab), ("math/bits.deBruijn64tab", laid_math_bits_deBruijn64tab), ("internal/strconv.uint64pow10", laid_internal_strconv_uint64pow10), ("strconv.ErrRange", laid_strconv_ErrRange), ("strconv.ErrSyntax", laid_strconv_ErrSyntax), ("postilion/lexer.symbols", laid_postilion_lexer_symbols), ("postilion/network.keyWords", laid_postilion_network_keyWords), ("postilion/printer.keyWords", laid_postilion_printer_keyWords)], narrowed := true }
def PrinterLinesUptoSaid : Prop := printerLinesUptoRow.holds Tryz.pinned (OpenSpec.upto printerLinesSpec)

/-- 'postilionlaw10.PrinterReferences', WHERE WHAT IT READS IS OF BULK AT MOST 1048576: true; the input reads as it did. -/
def printerReferencesUptoRow : OpenClaim := { program := "ytbedaolpfedacaagreatdoor", sum := "1f9eff26b2589539a6a20615b81775e9f61fd09ff0dc69e266f696b2fecf98c7", func := "postilion/postilionlaw10.PrinterReferences", spec := "printerReferences", inPlace := ["internal/bytealg.IndexByteString", "internal/abi.NoEscape", "internal/bytealg.MakeNoZero"], unfollowed := true, recurses := true, named := ["postilion/lexer.symbols", "postilion/network.keyWords", "strconv.ErrSyntax", "strconv.ErrRange", "internal/strconv.uint64pow10", "math/bits.deBruijn32tab", "math/bits.deBruijn64tab", "postilion/printer.keyWords"], apart := false, laid := [("math/bits.deBruijn32tab", laid_math_bits_deBruijn32tab), ("math/bits.deBruijn64tab", laid_math_bits_deBruijn64tab), ("internal/strconv.uint64pow10", laid_internal_strconv_uint64pow10), ("strconv.ErrRange", laid_strconv_ErrRange), ("strconv.ErrSyntax", laid_strconv_ErrSyntax), ("postilion/lexer.symbols", laid_postilion_lexer_symbols), ("postilion/network.keyWords", laid_postilion_network_keyWords), ("postilion/printer.keyWords", laid_postilion_printer_keyWords)], narrowed := true }
def PrinterReferencesUptoSaid : Prop := printerReferencesUptoRow.holds Tryz.pinned (OpenSpec.upto printerReferencesSpec)

end Rows
end Go.Proofs.YtbedaolpfedacaaGreatDoor
