/-
  NARROWER THAN 'FOR EVERY INPUT', by the rows' own cells (each row's printed sentence says how): NetworkGaps: laid · NetworkFirstError: laid · NetworkReferences: laid · NetworkMore: laid · NetworkNames: laid · NetworkErrors: laid · NetworkBeginnings: laid.
  DERIVED. THE GIVEN ROWS OF THIS SEAT. 7 by the template 'for every input the law returns true; each argument reads behind the call as it read before'; 0 by the template 'total and deterministic' (their statements: YtmhlneeboefkgaaDoorTotals.lean).
  GIVEN WITH THE SEED: the statements are not yours to turn. If you find one false, say at which input.
  Laid BY PROGRAM, IN A SANDBOX (cutbox-rows.mjs): the forced cells as the released guide's own fill.sh prints them over the translation 156b9759ee117733… (all of the seat's roots in one cut). By AI agents, Wed Nov 11 2026. No macro, syntax, notation, axiom, sorry.
-/
import Derived.Test.YtmhlneeboefkgaaDoorChecked
import GoSem.Claim
import GoSem.ClaimJoined
import GoSem.ClaimMapViews
import Derived.JoinedTies
import Derived.KernelRfl
namespace Go.Proofs.YtmhlneeboefkgaaDoor
/- THE CELL 'sum', in the pinned program and in every row, IS THE sha256 OF THE DUMP (.gsa) THAT YtmhlneeboefkgaaDoorProg.lean LOADS. Nothing in Lean hashes anything: it is a label: what it is worth is what the hold of that sum in a sandbox is worth. -/
noncomputable def Tryd.pinned : Pinned := { name := "ytmhlneeboefkgaadoor", sum := "156b9759ee117733494ea0fda9ca6a6c23ee6d6e146bb414bcc917f0596faafd", checked := Tryd.checked }
namespace Rows
def none {H : Type} : Left H := { results := [], args := [] }

/- WHAT THE LISTED PACKAGE-LEVEL VARIABLES READ AS WHEN THE CALL BEGINS. Each datum BY PROGRAM (the guide's laid-datum.mjs) off the statement by which the dump's own 'gosem.cut.vars' lays the variable. In a bare row this is a premise. The card (YtmhlneeboefkgaaDoorCards.lean) ties it to the program's text. -/
def laid_math_bits_deBruijn32tab {H : Type} : DataW H := .agg [.lit (.int .u8 0), .lit (.int .u8 1), .lit (.int .u8 28), .lit (.int .u8 2), .lit (.int .u8 29), .lit (.int .u8 14), .lit (.int .u8 24), .lit (.int .u8 3), .lit (.int .u8 30), .lit (.int .u8 22), .lit (.int .u8 20), .lit (.int .u8 15), .lit (.int .u8 25), .lit (.int .u8 17), .lit (.int .u8 4), .lit (.int .u8 8), .lit (.int .u8 31), .lit (.int .u8 27), .lit (.int .u8 13), .lit (.int .u8 23), .lit (.int .u8 21), .lit (.int .u8 19), .lit (.int .u8 16), .lit (.int .u8 7), .lit (.int .u8 26), .lit (.int .u8 12), .lit (.int .u8 18), .lit (.int .u8 6), .lit (.int .u8 11), .lit (.int .u8 5), .lit (.int .u8 10), .lit (.int .u8 9)]
def laid_math_bits_deBruijn64tab {H : Type} : DataW H := .agg [.lit (.int .u8 0), .lit (.int .u8 1), .lit (.int .u8 56), .lit (.int .u8 2), .lit (.int .u8 57), .lit (.int .u8 49), .lit (.int .u8 28), .lit (.int .u8 3), .lit (.int .u8 61), .lit (.int .u8 58), .lit (.int .u8 42), .lit (.int .u8 50), .lit (.int .u8 38), .lit (.int .u8 29), .lit (.int .u8 17), .lit (.int .u8 4), .lit (.int .u8 62), .lit (.int .u8 47), .lit (.int .u8 59), .lit (.int .u8 36), .lit (.int .u8 45), .lit (.int .u8 43), .lit (.int .u8 51), .lit (.int .u8 22), .lit (.int .u8 53), .lit (.int .u8 39), .lit (.int .u8 33), .lit (.int .u8 30), .lit (.int .u8 24), .lit (.int .u8 18), .lit (.int .u8 12), .lit (.int .u8 5), .lit (.int .u8 63), .lit (.int .u8 55), .lit (.int .u8 48), .lit (.int .u8 27), .lit (.int .u8 60), .lit (.int .u8 41), .lit (.int .u8 37), .lit (.int .u8 16), .lit (.int .u8 46), .lit (.int .u8 35), .lit (.int .u8 44), .lit (.int .u8 21), .lit (.int .u8 52), .lit (.int .u8 32), .lit (.int .u8 23), .lit (.int .u8 11), .lit (.int .u8 54), .lit (.int .u8 26), .lit (.int .u8 40), .lit (.int .u8 15), .lit (.int .u8 34), .lit (.int .u8 20), .lit (.int .u8 31), .lit (.int .u8 10), .lit (.int .u8 25), .lit (.int .u8 14), .lit (.int .u8 19), .lit (.int .u8 9), .lit (.int .u8 13), .lit (.int .u8 8), .lit (.int .u8 7), .lit (.int .u8 6)]
def laid_internal_strconv_uint64pow10 {H : Type} : DataW H := .agg [.lit (.int .u64 1), .lit (.int .u64 10), .lit (.int .u64 100), .lit (.int .u64 1000), .lit (.int .u64 10000), .lit (.int .u64 100000), .lit (.int .u64 1000000), .lit (.int .u64 10000000), .lit (.int .u64 100000000), .lit (.int .u64 1000000000), .lit (.int .u64 10000000000), .lit (.int .u64 100000000000), .lit (.int .u64 1000000000000), .lit (.int .u64 10000000000000), .lit (.int .u64 100000000000000), .lit (.int .u64 1000000000000000), .lit (.int .u64 10000000000000000), .lit (.int .u64 100000000000000000), .lit (.int .u64 1000000000000000000), .lit (.int .u64 10000000000000000000)]
def laid_strconv_ErrRange {H : Type} : DataW H := .iface "*errors.errorString" (.ptr (.agg [.lit (.string [118, 97, 108, 117, 101, 32, 111, 117, 116, 32, 111, 102, 32, 114, 97, 110, 103, 101])]))
def laid_strconv_ErrSyntax {H : Type} : DataW H := .iface "*errors.errorString" (.ptr (.agg [.lit (.string [105, 110, 118, 97, 108, 105, 100, 32, 115, 121, 110, 116, 97, 120])]))
def laid_postilion_lexer_symbols {H : Type} : DataW H := .agg [.lit (.string [45, 62]), .lit (.string [123]), .lit (.string [125]), .lit (.string [40]), .lit (.string [41]), .lit (.string [91]), .lit (.string [93]), .lit (.string [44]), .lit (.string [59]), .lit (.string [58]), .lit (.string [61]), .lit (.string [46]), .lit (.string [45])]
def laid_postilion_network_keyWords {H : Type} : DataW H := .agg [.lit (.string [99, 97, 108, 101, 110, 100, 97, 114]), .lit (.string [111, 112, 101, 114, 97, 116, 111, 114]), .lit (.string [111, 102, 102, 105, 99, 101]), .lit (.string [108, 105, 110, 101]), .lit (.string [99, 108, 97, 115, 115]), .lit (.string [122, 111, 110, 101]), .lit (.string [119, 101, 101, 107]), .lit (.string [104, 111, 108, 105, 100, 97, 121]), .lit (.string [112, 111, 99, 107, 101, 116, 115]), .lit (.string [112, 97, 115, 115, 101, 115]), .lit (.string [109, 105, 110, 117, 116, 101, 115]), .lit (.string [99, 111, 100, 101, 115]), .lit (.string [97, 116]), .lit (.string [116, 114, 97, 118, 101, 108]), .lit (.string [108, 111, 97, 100]), .lit (.string [99, 117, 116]), .lit (.string [100, 101, 108, 105, 118, 101, 114])]

/-- 'postilionlaw09.NetworkGaps': WHATEVER THE INPUT: true; the input reads as it did. -/
def networkGapsSpec : ChangeSpec := { name := "networkGaps", fn := fun _ => fun
  | [d1, d2] => { results := [.lit (.bool true)], args := [d1, d2] }
  | _ => none }
def networkGapsRow : OpenClaim := { program := "ytmhlneeboefkgaadoor", sum := "156b9759ee117733494ea0fda9ca6a6c23ee6d6e146bb414bcc917f0596faafd", func := "postilion/postilionlaw09.NetworkGaps", spec := "networkGaps", inPlace := ["internal/bytealg.IndexByteString"], unfollowed := true, recurses := true, named := ["postilion/lexer.symbols", "postilion/network.keyWords", "strconv.ErrSyntax", "strconv.ErrRange", "internal/strconv.uint64pow10", "math/bits.deBruijn32tab", "math/bits.deBruijn64tab"], apart := false, laid := [("math/bits.deBruijn32tab", laid_math_bits_deBruijn32tab), ("math/bits.deBruijn64tab", laid_math_bits_deBruijn64tab), ("internal/strconv.uint64pow10", laid_internal_strconv_uint64pow10), ("strconv.ErrRange", laid_strconv_ErrRange), ("strconv.ErrSyntax", laid_strconv_ErrSyntax), ("postilion/lexer.symbols", laid_postilion_lexer_symbols), ("postilion/network.keyWords", laid_postilion_network_keyWords)] }
def NetworkGapsSaid : Prop := networkGapsRow.holds Tryd.pinned (OpenSpec.ofChange networkGapsSpec)

/-- ITS FALSE NEIGHBOUR: 'it returns false'. Refute it at one input. -/
def networkGapsWrong : ChangeSpec := { name := "networkGaps", fn := fun _ => fun
  | [d1, d2] => { results := [.lit (.bool false)], args := [d1, d2] }
  | _ => none }
def NetworkGapsWrongFalsely : Prop := networkGapsRow.holds Tryd.pinned (OpenSpec.ofChange networkGapsWrong)

/-- 'postilionlaw09.NetworkFirstError': WHATEVER THE INPUT: true; the input reads as it did. -/
def networkFirstErrorSpec : ChangeSpec := { name := "networkFirstError", fn := fun _ => fun
  | [d] => { results := [.lit (.bool true)], args := [d] }
  | _ => none }
def networkFirstErrorRow : OpenClaim := { program := "ytmhlneeboefkgaadoor", sum := "156b9759ee117733494ea0fda9ca6a6c23ee6d6e146bb414bcc917f0596faafd", func := "postilion/postilionlaw09.NetworkFirstError", spec := "networkFirstError", inPlace := ["internal/bytealg.IndexByteString"], unfollowed := true, recurses := true, named := ["postilion/lexer.symbols", "postilion/network.keyWords", "strconv.ErrSyntax", "strconv.ErrRange", "internal/strconv.uint64pow10", "math/bits.deBruijn32tab", "math/bits.deBruijn64tab"], apart := false, laid := [("math/bits.deBruijn32tab", laid_math_bits_deBruijn32tab), ("math/bits.deBruijn64tab", laid_math_bits_deBruijn64tab), ("internal/strconv.uint64pow10", laid_internal_strconv_uint64pow10), ("strconv.ErrRange", laid_strconv_ErrRange), ("strconv.ErrSyntax", laid_strconv_ErrSyntax), ("postilion/lexer.symbols", laid_postilion_lexer_symbols), ("postilion/network.keyWords", laid_postilion_network_keyWords)] }
def NetworkFirstErrorSaid : Prop := networkFirstErrorRow.holds Tryd.pinned (OpenSpec.ofChange networkFirstErrorSpec)

/-- ITS FALSE NEIGHBOUR: 'it returns false'. Refute it at one input. -/
def networkFirstErrorWrong : ChangeSpec := { name := "networkFirstError", fn := fun _ => fun
  | [d] => { results := [.lit (.bool false)], args := [d] }
  | _ => none }
def NetworkFirstErrorWrongFalsely : Prop := networkFirstErrorRow.holds Tryd.pinned (OpenSpec.ofChange networkFirstErrorWrong)

/-- 'postilionlaw09.NetworkReferences': WHATEVER THE INPUT: true; the input reads as it did. -/
def networkReferencesSpec : ChangeSpec := { name := "networkReferences", fn := fun _ => fun
  | [d] => { results := [.lit (.bool true)], args := [d] }
  | _ => none }
def networkReferencesRow : OpenClaim := { program := "ytmhlneeboefkgaadoor", sum := "156b9759ee117733494ea0fda9ca6a6c23ee6d6e146bb414bcc917f0596faafd", func := "postilion/postilionlaw09.NetworkReferences", spec := "networkReferences", inPlace := ["internal/bytealg.IndexByteString"], unfollowed := true, recurses := true, named := ["postilion/lexer.symbols", "postilion/network.keyWords", "strconv.ErrSyntax", "strconv.ErrRange", "internal/strconv.uint64pow10", "math/bits.deBruijn32tab", "math/bits.deBruijn64tab"], apart := false, laid := [("math/bits.deBruijn32tab", laid_math_bits_deBruijn32tab), ("math/bits.deBruijn64tab", laid_math_bits_deBruijn64tab), ("internal/strconv.uint64pow10", laid_internal_strconv_uint64pow10), ("strconv.ErrRange", laid_strconv_ErrRange), ("strconv.ErrSyntax", laid_strconv_ErrSyntax), ("postilion/lexer.symbols", laid_postilion_lexer_symbols), ("postilion/network.keyWords", laid_postilion_network_keyWords)] }
def NetworkReferencesSaid : Prop := networkReferencesRow.holds Tryd.pinned (OpenSpec.ofChange networkReferencesSpec)

/-- ITS FALSE NEIGHBOUR: 'it returns false'. Refute it at one input. -/
def networkReferencesWrong : ChangeSpec := { name := "networkReferences", fn := fun _ => fun
  | [d] => { results := [.lit (.bool false)], args := [d] }
  | _ => none }
def NetworkReferencesWrongFalsely : Prop := networkReferencesRow.holds Tryd.pinned (OpenSpec.ofChange networkReferencesWrong)

/-- 'postilionlaw09.NetworkMore': WHATEVER THE INPUT: true; the input reads as it did. -/
def networkMoreSpec : ChangeSpec := { name := "networkMore", fn := fun _ => fun
  | [d1, d2, d3, d4] => { results := [.lit (.bool true)], args := [d1, d2, d3, d4] }
  | _ => none }
def networkMoreRow : OpenClaim := { program := "ytmhlneeboefkgaadoor", sum := "156b9759ee117733494ea0fda9ca6a6c23ee6d6e146bb414bcc917f0596faafd", func := "postilion/postilionlaw09.NetworkMore", spec := "networkMore", inPlace := ["internal/bytealg.IndexByteString"], unfollowed := true, recurses := true, named := ["postilion/lexer.symbols", "postilion/network.keyWords", "strconv.ErrSyntax", "strconv.ErrRange", "internal/strconv.uint64pow10", "math/bits.deBruijn32tab", "math/bits.deBruijn64tab"], apart := false, laid := [("math/bits.deBruijn32tab", laid_math_bits_deBruijn32tab), ("math/bits.deBruijn64tab", laid_math_bits_deBruijn64tab), ("internal/strconv.uint64pow10", laid_internal_strconv_uint64pow10), ("strconv.ErrRange", laid_strconv_ErrRange), ("strconv.ErrSyntax", laid_strconv_ErrSyntax), ("postilion/lexer.symbols", laid_postilion_lexer_symbols), ("postilion/network.keyWords", laid_postilion_network_keyWords)] }
def NetworkMoreSaid : Prop := networkMoreRow.holds Tryd.pinned (OpenSpec.ofChange networkMoreSpec)

/-- ITS FALSE NEIGHBOUR: 'it returns false'. Refute it at one input. -/
def networkMoreWrong : ChangeSpec := { name := "networkMore", fn := fun _ => fun
  | [d1, d2, d3, d4] => { results := [.lit (.bool false)], args := [d1, d2, d3, d4] }
  | _ => none }
def NetworkMoreWrongFalsely : Prop := networkMoreRow.holds Tryd.pinned (OpenSpec.ofChange networkMoreWrong)

/-- 'postilionlaw09.NetworkNames': WHATEVER THE INPUT: true; the input reads as it did. -/
def networkNamesSpec : ChangeSpec := { name := "networkNames", fn := fun _ => fun
  | [d] => { results := [.lit (.bool true)], args := [d] }
  | _ => none }
def networkNamesRow : OpenClaim := { program := "ytmhlneeboefkgaadoor", sum := "156b9759ee117733494ea0fda9ca6a6c23ee6d6e146bb414bcc917f0596faafd", func := "postilion/postilionlaw09.NetworkNames", spec := "networkNames", inPlace := ["internal/bytealg.IndexByteString"], unfollowed := true, recurses := true, named := ["postilion/lexer.symbols", "postilion/network.keyWords", "strconv.ErrSyntax", "strconv.ErrRange", "internal/strconv.uint64pow10", "math/bits.deBruijn32tab", "math/bits.deBruijn64tab"], apart := false, laid := [("math/bits.deBruijn32tab", laid_math_bits_deBruijn32tab), ("math/bits.deBruijn64tab", laid_math_bits_deBruijn64tab), ("internal/strconv.uint64pow10", laid_internal_strconv_uint64pow10), ("strconv.ErrRange", laid_strconv_ErrRange), ("strconv.ErrSyntax", laid_strconv_ErrSyntax), ("postilion/lexer.symbols", laid_postilion_lexer_symbols), ("postilion/network.keyWords", laid_postilion_network_keyWords)] }
def NetworkNamesSaid : Prop := networkNamesRow.holds Tryd.pinned (OpenSpec.ofChange networkNamesSpec)

/-- ITS FALSE NEIGHBOUR: 'it returns false'. Refute it at one input. -/
def networkNamesWrong : ChangeSpec := { name := "networkNames", fn := fun _ => fun
  | [d] => { results := [.lit (.bool false)], args := [d] }
  | _ => none }
def NetworkNamesWrongFalsely : Prop := networkNamesRow.holds Tryd.pinned (OpenSpec.ofChange networkNamesWrong)

/-- 'postilionlaw09.NetworkErrors': WHATEVER THE INPUT: true; the input reads as it did. -/
def networkErrorsSpec : ChangeSpec := { name := "networkErrors", fn := fun _ => fun
  | [d] => { results := [.lit (.bool true)], args := [d] }
  | _ => none }
def networkErrorsRow : OpenClaim := { program := "ytmhlneeboefkgaadoor", sum := "156b9759ee117733494ea0fda9ca6a6c23ee6d6e146bb414bcc917f0596faafd", func := "postilion/postilionlaw09.NetworkErrors", spec := "networkErrors", inPlace := ["internal/bytealg.IndexByteString"], unfollowed := true, recurses := true, named := ["postilion/lexer.symbols", "postilion/network.keyWords", "strconv.ErrSyntax", "strconv.ErrRange", "internal/strconv.uint64pow10", "math/bits.deBruijn32tab", "math/bits.deBruijn64tab"], apart := false, laid := [("math/bits.deBruijn32tab", laid_math_bits_deBruijn32tab), ("math/bits.deBruijn64tab", laid_math_bits_deBruijn64tab), ("internal/strconv.uint64pow10", laid_internal_strconv_uint64pow10), ("strconv.ErrRange", laid_strconv_ErrRange), ("strconv.ErrSyntax", laid_strconv_ErrSyntax), ("postilion/lexer.symbols", laid_postilion_lexer_symbols), ("postilion/network.keyWords", laid_postilion_network_keyWords)] }
def NetworkErrorsSaid : Prop := networkErrorsRow.holds Tryd.pinned (OpenSpec.ofChange networkErrorsSpec)

/-- ITS FALSE NEIGHBOUR: 'it returns false'. Refute it at one input. -/
def networkErrorsWrong : ChangeSpec := { name := "networkErrors", fn := fun _ => fun
  | [d] => { results := [.lit (.bool false)], args := [d] }
  | _ => none }
def NetworkErrorsWrongFalsely : Prop := networkErrorsRow.holds Tryd.pinned (OpenSpec.ofChange networkErrorsWrong)

/-- 'postilionlaw09.NetworkBeginnings': WHATEVER THE INPUT: true; the input reads as it did. -/
def networkBeginningsSpec : ChangeSpec := { name := "networkBeginnings", fn := fun _ => fun
  | [d] => { results := [.lit (.bool true)], args := [d] }
  | _ => none }
def networkBeginningsRow : OpenClaim := { program := "ytmhlneeboefkgaadoor", sum := "156b9759ee117733494ea0fda9ca6a6c23ee6d6e146bb414bcc917f0596faafd", func := "postilion/postilionlaw09.NetworkBeginnings", spec := "networkBeginnings", inPlace := ["internal/bytealg.IndexByteString"], unfollowed := true, recurses := true, named := ["postilion/lexer.symbols", "postilion/network.keyWords", "strconv.ErrSyntax", "strconv.ErrRange", "internal/strconv.uint64pow10", "math/bits.deBruijn32tab", "math/bits.deBruijn64tab"], apart := false, laid := [("math/bits.deBruijn32tab", laid_math_bits_deBruijn32tab), ("math/bits.deBruijn64tab", laid_math_bits_deBruijn64tab), ("internal/strconv.uint64pow10", laid_internal_strconv_uint64pow10), ("strconv.ErrRange", laid_strconv_ErrRange), ("strconv.ErrSyntax", laid_strconv_ErrSyntax), ("postilion/lexer.symbols", laid_postilion_lexer_symbols), ("postilion/network.keyWords", laid_postilion_network_keyWords)] }
def NetworkBeginningsSaid : Prop := networkBeginningsRow.holds Tryd.pinned (OpenSpec.ofChange networkBeginningsSpec)

/-- ITS FALSE NEIGHBOUR: 'it returns false'. Refute it at one input. -/
def networkBeginningsWrong : ChangeSpec := { name := "networkBeginnings", fn := fun _ => fun
  | [d] => { results := [.lit (.bool false)], args := [d] }
  | _ => none }
def NetworkBeginningsWrongFalsely : Prop := networkBeginningsRow.holds Tryd.pinned (OpenSpec.ofChange networkBeginningsWrong)

/- THE SECOND FORM. 'bulk': how many values and letters a reading holds, each counted each time it is reached (what is shared counts as often as it is met; a slice's spare places count too). A statement '..UptoSaid' is the law's where the arguments, and the package variables that the reading takes, are together of bulk at most 1048576: NARROWER than '..Said'. Prove '..Said' where nothing that the law and all that it calls make is longer than what came in: it says more and counts as full. Else prove '..UptoSaid'. A law counts once. -/
mutual
def uptoBulk {H : Type} : DataW H → Nat
  | .lit (.string bytes) => bytes.length + 1
  | .lit _ => 1
  | .nil => 1
  | .ptr d => uptoBulk d + 1
  | .slice elems spare => uptoBulkAll elems + uptoBulkAll spare + 1
  | .agg parts => uptoBulkAll parts + 1
  | .iface _ d => uptoBulk d + 1
  | .map entries => uptoBulkEntries entries + 1
  | .held _ => 1
def uptoBulkAll {H : Type} : List (DataW H) → Nat
  | [] => 0
  | d :: r => uptoBulk d + uptoBulkAll r
def uptoBulkEntries {H : Type} : List (Lit × DataW H) → Nat
  | [] => 0
  | x :: r => uptoBulkEntry x + uptoBulkEntries r
def uptoBulkEntry {H : Type} : Lit × DataW H → Nat
  | (.string bytes, d) => bytes.length + uptoBulk d + 1
  | (_, d) => uptoBulk d + 1
 end
def uptoSmall : (H : Type) → List (DataW H) → Bool := fun _ ds => decide (uptoBulkAll ds ≤ 1048576)
def OpenSpec.upto (s : _root_.Go.ChangeSpec) : _root_.Go.OpenSpec := { _root_.Go.OpenSpec.ofChange s with cond := some uptoSmall }

/-- 'postilionlaw09.NetworkGaps', WHERE WHAT IT READS IS OF BULK AT MOST 1048576: true; the input reads as it did. -/
def networkGapsUptoRow : OpenClaim := { program := "ytmhlneeboefkgaadoor", sum := "156b9759ee117733494ea0fda9ca6a6c23ee6d6e146bb414bcc917f0596faafd", func := "postilion/postilionlaw09.NetworkGaps", spec := "networkGaps", inPlace := ["internal/bytealg.IndexByteString"], unfollowed := true, recurses := true, named := ["postilion/lexer.symbols", "postilion/network.keyWords", "strconv.ErrSyntax", "strconv.ErrRange", "internal/strconv.uint64pow10", "math/bits.deBruijn32tab", "math/bits.deBruijn64tab"], apart := false, laid := [("math/bits.deBruijn32tab", laid_math_bits_deBruijn32tab), ("math/bits.deBruijn64tab", laid_math_bits_deBruijn64tab), ("internal/strconv.uint64pow10", laid_internal_strconv_uint64pow10), ("strconv.ErrRange", laid_strconv_ErrRange), ("strconv.ErrSyntax", laid_strconv_ErrSyntax), ("postilion/lexer.symbols", laid_postilion_lexer_symbols), ("postilion/network.keyWords", laid_postilion_network_keyWords)], narrowed := true }
def NetworkGapsUptoSaid : Prop := networkGapsUptoRow.holds Tryd.pinned (OpenSpec.upto networkGapsSpec)

/-- 'postilionlaw09.NetworkFirstError', WHERE WHAT IT READS IS OF BULK AT MOST 1048576: true; the input reads as it did. -/
def networkFirstErrorUptoRow : OpenClaim := { program := "ytmhlneeboefkgaadoor", sum := "156b9759ee117733494ea0fda9ca6a6c23ee6d6e146bb414bcc917f0596faafd", func := "postilion/postilionlaw09.NetworkFirstError", spec := "networkFirstError", inPlace := ["internal/bytealg.IndexByteString"], unfollowed := true, recurses := true, named := ["postilion/lexer.symbols", "postilion/network.keyWords", "strconv.ErrSyntax", "strconv.ErrRange", "internal/strconv.uint64pow10", "math/bits.deBruijn32tab", "math/bits.deBruijn64tab"], apart := false, laid := [("math/bits.deBruijn32tab", laid_math_bits_deBruijn32tab), ("math/bits.deBruijn64tab", laid_math_bits_deBruijn64tab), ("internal/strconv.uint64pow10", laid_internal_strconv_uint64pow10), ("strconv.ErrRange", laid_strconv_ErrRange), ("strconv.ErrSyntax", laid_strconv_ErrSyntax), ("postilion/lexer.symbols", laid_postilion_lexer_symbols), ("postilion/network.keyWords", laid_postilion_network_keyWords)], narrowed := true }
def NetworkFirstErrorUptoSaid : Prop := networkFirstErrorUptoRow.holds Tryd.pinned (OpenSpec.upto networkFirstErrorSpec)

/-- 'postilionlaw09.NetworkReferences', WHERE WHAT IT READS IS OF BULK AT MOST 1048576: true; the input reads as it did. -/
def networkReferencesUptoRow : OpenClaim := { program := "ytmhlneeboefkgaadoor", sum := "156b9759ee117733494ea0fda9ca6a6c23ee6d6e146bb414bcc917f0596faafd", func := "postilion/postilionlaw09.NetworkReferences", spec := "networkReferences", inPlace := ["internal/bytealg.IndexByteString"], unfollowed := true, recurses := true, named := ["postilion/lexer.symbols", "postilion/network.keyWords", "strconv.ErrSyntax", "strconv.ErrRange", "internal/strconv.uint64pow10", "math/bits.deBruijn32tab", "math/bits.deBruijn64tab"], apart := false, laid := [("math/bits.deBruijn32tab", laid_math_bits_deBruijn32tab), ("math/bits.deBruijn64tab", laid_math_bits_deBruijn64tab), ("internal/strconv.uint64pow10", laid_internal_strconv_uint64pow10), ("strconv.ErrRange", laid_strconv_ErrRange), ("strconv.ErrSyntax", laid_strconv_ErrSyntax), ("postilion/lexer.symbols", laid_postilion_lexer_symbols), ("postilion/network.keyWords", laid_postilion_network_keyWords)], narrowed := true }
def NetworkReferencesUptoSaid : Prop := networkReferencesUptoRow.holds Tryd.pinned (OpenSpec.upto networkReferencesSpec)

/-- 'postilionlaw09.NetworkMore', WHERE WHAT IT READS IS OF BULK AT MOST 1048576: true; the input reads as it did. -/
def networkMoreUptoRow : OpenClaim := { program := "ytmhlneeboefkgaadoor", sum := "156b9759ee117733494ea0fda9ca6a6c23ee6d6e146bb414bcc917f0596faafd", func := "postilion/postilionlaw09.NetworkMore", spec := "networkMore", inPlace := ["internal/bytealg.IndexByteString"], unfollowed := true, recurses := true, named := ["postilion/lexer.symbols", "postilion/network.keyWords", "strconv.ErrSyntax", "strconv.ErrRange", "internal/strconv.uint64pow10", "math/bits.deBruijn32tab", "math/bits.deBruijn64tab"], apart := false, laid := [("math/bits.deBruijn32tab", laid_math_bits_deBruijn32tab), ("math/bits.deBruijn64tab", laid_math_bits_deBruijn64tab), ("internal/strconv.uint64pow10", laid_internal_strconv_uint64pow10), ("strconv.ErrRange", laid_strconv_ErrRange), ("strconv.ErrSyntax", laid_strconv_ErrSyntax), ("postilion/lexer.symbols", laid_postilion_lexer_symbols), ("postilion/network.keyWords", laid_postilion_network_keyWords)], narrowed := true }
def NetworkMoreUptoSaid : Prop := networkMoreUptoRow.holds Tryd.pinned (OpenSpec.upto networkMoreSpec)

/-- 'postilionlaw09.NetworkNames', WHERE WHAT IT READS IS OF BULK AT MOST 1048576: true; the input reads as it did. -/
def networkNamesUptoRow : OpenClaim := { program := "ytmhlneeboefkgaadoor", sum := "156b9759ee117733494ea0fda9ca6a6c23ee6d6e146bb414bcc917f0596faafd", func := "postilion/postilionlaw09.NetworkNames", spec := "networkNames", inPlace := ["internal/bytealg.IndexByteString"], unfollowed := true, recurses := true, named := ["postilion/lexer.symbols", "postilion/network.keyWords", "strconv.ErrSyntax", "strconv.ErrRange", "internal/strconv.uint64pow10", "math/bits.deBruijn32tab", "math/bits.deBruijn64tab"], apart := false, laid := [("math/bits.deBruijn32tab", laid_math_bits_deBruijn32tab), ("math/bits.deBruijn64tab", laid_math_bits_deBruijn64tab), ("internal/strconv.uint64pow10", laid_internal_strconv_uint64pow10), ("strconv.ErrRange", laid_strconv_ErrRange), ("strconv.ErrSyntax", laid_strconv_ErrSyntax), ("postilion/lexer.symbols", laid_postilion_lexer_symbols), ("postilion/network.keyWords", laid_postilion_network_keyWords)], narrowed := true }
def NetworkNamesUptoSaid : Prop := networkNamesUptoRow.holds Tryd.pinned (OpenSpec.upto networkNamesSpec)

/-- 'postilionlaw09.NetworkErrors', WHERE WHAT IT READS IS OF BULK AT MOST 1048576: true; the input reads as it did. -/
def networkErrorsUptoRow : OpenClaim := { program := "ytmhlneeboefkgaadoor", sum := "156b9759ee117733494ea0fda9ca6a6c23ee6d6e146bb414bcc917f0596faafd", func := "postilion/postilionlaw09.NetworkErrors", spec := "networkErrors", inPlace := ["internal/bytealg.IndexByteString"], unfollowed := true, recurses := true, named := ["postilion/lexer.symbols", "postilion/network.keyWords", "strconv.ErrSyntax", "strconv.ErrRange", "internal/strconv.uint64pow10", "math/bits.deBruijn32tab", "math/bits.deBruijn64tab"], apart := false, laid := [("math/bits.deBruijn32tab", laid_math_bits_deBruijn32tab), ("math/bits.deBruijn64tab", laid_math_bits_deBruijn64tab), ("internal/strconv.uint64pow10", laid_internal_strconv_uint64pow10), ("strconv.ErrRange", laid_strconv_ErrRange), ("strconv.ErrSyntax", laid_strconv_ErrSyntax), ("postilion/lexer.symbols", laid_postilion_lexer_symbols), ("postilion/network.keyWords", laid_postilion_network_keyWords)], narrowed := true }
def NetworkErrorsUptoSaid : Prop := networkErrorsUptoRow.holds Tryd.pinned (OpenSpec.upto networkErrorsSpec)

/-- 'postilionlaw09.NetworkBeginnings', WHERE WHAT IT READS IS OF BULK AT MOST 1048576: true; the input reads as it did. -/
def networkBeginningsUptoRow : OpenClaim := { program := "ytmhlneeboefkgaadoor", sum := "156b9759ee117733494ea0fda9ca6a6c23ee6d6e146bb414bcc917f0596faafd", func := "postilion/postilionlaw09.NetworkBeginnings", spec := "networkBeginnings", inPlace := ["internal/bytealg.IndexByteString"], unfollowed := true, recurses := true, named := ["postilion/lexer.symbols", "postilion/network.keyWords", "strconv.ErrSyntax", "strconv.ErrRange", "internal/strconv.uint64pow10", "math/bits.deBruijn32tab", "math/bits.deBruijn64tab"], apart := false, laid := [("math/bits.deBruijn32tab", laid_math_bits_deBruijn32tab), ("math/bits.deBruijn64tab", laid_math_bits_deBruijn64tab), ("internal/strconv.uint64pow10", laid_internal_strconv_uint64pow10), ("strconv.ErrRange", laid_strconv_ErrRange), ("strconv.ErrSyntax", laid_strconv_ErrSyntax), ("postilion/lexer.symbols", laid_postilion_lexer_symbols), ("postilion/network.keyWords", laid_postilion_network_keyWords)], narrowed := true }
def NetworkBeginningsUptoSaid : Prop := networkBeginningsUptoRow.holds Tryd.pinned (OpenSpec.upto networkBeginningsSpec)

end Rows
end Go.Proofs.YtmhlneeboefkgaaDoor
