/-
  NARROWER THAN 'FOR EVERY INPUT', by the rows' own cells (each row's printed sentence says how): HandoverMatchesReference: laid · HandoverWritten: laid · HandoverChanged: laid · HandoverBinding: laid · HandoverContents: laid · HandoverKeys: laid · HandoverErrors: laid.
  DERIVED. THE GIVEN ROWS OF THIS SEAT. 7 by the template 'for every input the law returns true; each argument reads behind the call as it read before'; 0 by the template 'total and deterministic' (their statements: YtobdkjjakdjnaaaDoorTotals.lean).
  GIVEN WITH THE SEED: the statements are not yours to turn. If you find one false, say at which input.
  Laid BY PROGRAM, IN A SANDBOX (cutbox-rows.mjs): the forced cells as the released guide's own fill.sh prints them over the translation 3250cfff040b04e7… (all of the seat's roots in one cut). By AI agents, Wed Nov 11 2026. No macro, syntax, notation, axiom, sorry.
-/
import Derived.Test.YtobdkjjakdjnaaaDoorChecked
import GoSem.Claim
import GoSem.ClaimJoined
import GoSem.ClaimMapViews
import Derived.JoinedTies
import Derived.KernelRfl
namespace Go.Proofs.YtobdkjjakdjnaaaDoor
/- THE CELL 'sum', in the pinned program and in every row, IS THE sha256 OF THE DUMP (.gsa) THAT YtobdkjjakdjnaaaDoorProg.lean LOADS. Nothing in Lean hashes anything: it is a label: what it is worth is what the hold of that sum in a sandbox is worth. -/
noncomputable def Tryd.pinned : Pinned := { name := "ytobdkjjakdjnaaadoor", sum := "3250cfff040b04e7780fd39066afa10853109e229b9048138055224c3e281c51", checked := Tryd.checked }
namespace Rows
def none {H : Type} : Left H := { results := [], args := [] }

/- WHAT THE LISTED PACKAGE-LEVEL VARIABLES READ AS WHEN THE CALL BEGINS. Each datum BY PROGRAM (the guide's laid-datum.mjs) off the statement by which the dump's own 'gosem.cut.vars' lays the variable. In a bare row this is a premise. The card (YtobdkjjakdjnaaaDoorCards.lean) ties it to the program's text. -/
def laid_math_bits_deBruijn32tab {H : Type} : DataW H := .agg [.lit (.int .u8 0), .lit (.int .u8 1), .lit (.int .u8 28), .lit (.int .u8 2), .lit (.int .u8 29), .lit (.int .u8 14), .lit (.int .u8 24), .lit (.int .u8 3), .lit (.int .u8 30), .lit (.int .u8 22), .lit (.int .u8 20), .lit (.int .u8 15), .lit (.int .u8 25), .lit (.int .u8 17), .lit (.int .u8 4), .lit (.int .u8 8), .lit (.int .u8 31), .lit (.int .u8 27), .lit (.int .u8 13), .lit (.int .u8 23), .lit (.int .u8 21), .lit (.int .u8 19), .lit (.int .u8 16), .lit (.int .u8 7), .lit (.int .u8 26), .lit (.int .u8 12), .lit (.int .u8 18), .lit (.int .u8 6), .lit (.int .u8 11), .lit (.int .u8 5), .lit (.int .u8 10), .lit (.int .u8 9)]
def laid_math_bits_deBruijn64tab {H : Type} : DataW H := .agg [.lit (.int .u8 0), .lit (.int .u8 1), .lit (.int .u8 56), .lit (.int .u8 2), .lit (.int .u8 57), .lit (.int .u8 49), .lit (.int .u8 28), .lit (.int .u8 3), .lit (.int .u8 61), .lit (.int .u8 58), .lit (.int .u8 42), .lit (.int .u8 50), .lit (.int .u8 38), .lit (.int .u8 29), .lit (.int .u8 17), .lit (.int .u8 4), .lit (.int .u8 62), .lit (.int .u8 47), .lit (.int .u8 59), .lit (.int .u8 36), .lit (.int .u8 45), .lit (.int .u8 43), .lit (.int .u8 51), .lit (.int .u8 22), .lit (.int .u8 53), .lit (.int .u8 39), .lit (.int .u8 33), .lit (.int .u8 30), .lit (.int .u8 24), .lit (.int .u8 18), .lit (.int .u8 12), .lit (.int .u8 5), .lit (.int .u8 63), .lit (.int .u8 55), .lit (.int .u8 48), .lit (.int .u8 27), .lit (.int .u8 60), .lit (.int .u8 41), .lit (.int .u8 37), .lit (.int .u8 16), .lit (.int .u8 46), .lit (.int .u8 35), .lit (.int .u8 44), .lit (.int .u8 21), .lit (.int .u8 52), .lit (.int .u8 32), .lit (.int .u8 23), .lit (.int .u8 11), .lit (.int .u8 54), .lit (.int .u8 26), .lit (.int .u8 40), .lit (.int .u8 15), .lit (.int .u8 34), .lit (.int .u8 20), .lit (.int .u8 31), .lit (.int .u8 10), .lit (.int .u8 25), .lit (.int .u8 14), .lit (.int .u8 19), .lit (.int .u8 9), .lit (.int .u8 13), .lit (.int .u8 8), .lit (.int .u8 7), .lit (.int .u8 6)]
def laid_internal_strconv_uint64pow10 {H : Type} : DataW H := .agg [.lit (.int .u64 1), .lit (.int .u64 10), .lit (.int .u64 100), .lit (.int .u64 1000), .lit (.int .u64 10000), .lit (.int .u64 100000), .lit (.int .u64 1000000), .lit (.int .u64 10000000), .lit (.int .u64 100000000), .lit (.int .u64 1000000000), .lit (.int .u64 10000000000), .lit (.int .u64 100000000000), .lit (.int .u64 1000000000000), .lit (.int .u64 10000000000000), .lit (.int .u64 100000000000000), .lit (.int .u64 1000000000000000), .lit (.int .u64 10000000000000000), .lit (.int .u64 100000000000000000), .lit (.int .u64 1000000000000000000), .lit (.int .u64 10000000000000000000)]

/-- 'postilionlaw33.HandoverMatchesReference': WHATEVER THE INPUT: true; the input reads as it did. -/
def handoverMatchesReferenceSpec : ChangeSpec := { name := "handoverMatchesReference", fn := fun _ => fun
  | [d1, d2, d3, d4, d5, d6, d7, d8] => { results := [.lit (.bool true)], args := [d1, d2, d3, d4, d5, d6, d7, d8] }
  | _ => none }
def handoverMatchesReferenceRow : OpenClaim := { program := "ytobdkjjakdjnaaadoor", sum := "3250cfff040b04e7780fd39066afa10853109e229b9048138055224c3e281c51", func := "postilion/postilionlaw33.HandoverMatchesReference", spec := "handoverMatchesReference", inPlace := ["internal/abi.NoEscape", "internal/bytealg.MakeNoZero"], unfollowed := true, recurses := true, named := ["internal/strconv.uint64pow10", "math/bits.deBruijn32tab", "math/bits.deBruijn64tab"], apart := false, laid := [("math/bits.deBruijn32tab", laid_math_bits_deBruijn32tab), ("math/bits.deBruijn64tab", laid_math_bits_deBruijn64tab), ("internal/strconv.uint64pow10", laid_internal_strconv_uint64pow10)] }
def HandoverMatchesReferenceSaid : Prop := handoverMatchesReferenceRow.holds Tryd.pinned (OpenSpec.ofChange handoverMatchesReferenceSpec)

/-- ITS FALSE NEIGHBOUR: 'it returns false'. Refute it at one input. -/
def handoverMatchesReferenceWrong : ChangeSpec := { name := "handoverMatchesReference", fn := fun _ => fun
  | [d1, d2, d3, d4, d5, d6, d7, d8] => { results := [.lit (.bool false)], args := [d1, d2, d3, d4, d5, d6, d7, d8] }
  | _ => none }
def HandoverMatchesReferenceWrongFalsely : Prop := handoverMatchesReferenceRow.holds Tryd.pinned (OpenSpec.ofChange handoverMatchesReferenceWrong)

/-- 'postilionlaw33.HandoverWritten': WHATEVER THE INPUT: true; the input reads as it did. -/
def handoverWrittenSpec : ChangeSpec := { name := "handoverWritten", fn := fun _ => fun
  | [d1, d2, d3, d4, d5, d6] => { results := [.lit (.bool true)], args := [d1, d2, d3, d4, d5, d6] }
  | _ => none }
def handoverWrittenRow : OpenClaim := { program := "ytobdkjjakdjnaaadoor", sum := "3250cfff040b04e7780fd39066afa10853109e229b9048138055224c3e281c51", func := "postilion/postilionlaw33.HandoverWritten", spec := "handoverWritten", inPlace := ["internal/abi.NoEscape", "internal/bytealg.MakeNoZero"], unfollowed := true, recurses := true, named := ["internal/strconv.uint64pow10", "math/bits.deBruijn32tab", "math/bits.deBruijn64tab"], apart := false, laid := [("math/bits.deBruijn32tab", laid_math_bits_deBruijn32tab), ("math/bits.deBruijn64tab", laid_math_bits_deBruijn64tab), ("internal/strconv.uint64pow10", laid_internal_strconv_uint64pow10)] }
def HandoverWrittenSaid : Prop := handoverWrittenRow.holds Tryd.pinned (OpenSpec.ofChange handoverWrittenSpec)

/-- ITS FALSE NEIGHBOUR: 'it returns false'. Refute it at one input. -/
def handoverWrittenWrong : ChangeSpec := { name := "handoverWritten", fn := fun _ => fun
  | [d1, d2, d3, d4, d5, d6] => { results := [.lit (.bool false)], args := [d1, d2, d3, d4, d5, d6] }
  | _ => none }
def HandoverWrittenWrongFalsely : Prop := handoverWrittenRow.holds Tryd.pinned (OpenSpec.ofChange handoverWrittenWrong)

/-- 'postilionlaw33.HandoverChanged': WHATEVER THE INPUT: true; the input reads as it did. -/
def handoverChangedSpec : ChangeSpec := { name := "handoverChanged", fn := fun _ => fun
  | [d1, d2, d3, d4] => { results := [.lit (.bool true)], args := [d1, d2, d3, d4] }
  | _ => none }
def handoverChangedRow : OpenClaim := { program := "ytobdkjjakdjnaaadoor", sum := "3250cfff040b04e7780fd39066afa10853109e229b9048138055224c3e281c51", func := "postilion/postilionlaw33.HandoverChanged", spec := "handoverChanged", inPlace := ["internal/abi.NoEscape", "internal/bytealg.MakeNoZero"], unfollowed := true, recurses := true, named := ["internal/strconv.uint64pow10", "math/bits.deBruijn32tab", "math/bits.deBruijn64tab"], apart := false, laid := [("math/bits.deBruijn32tab", laid_math_bits_deBruijn32tab), ("math/bits.deBruijn64tab", laid_math_bits_deBruijn64tab), ("internal/strconv.uint64pow10", laid_internal_strconv_uint64pow10)] }
def HandoverChangedSaid : Prop := handoverChangedRow.holds Tryd.pinned (OpenSpec.ofChange handoverChangedSpec)

/-- ITS FALSE NEIGHBOUR: 'it returns false'. Refute it at one input. -/
def handoverChangedWrong : ChangeSpec := { name := "handoverChanged", fn := fun _ => fun
  | [d1, d2, d3, d4] => { results := [.lit (.bool false)], args := [d1, d2, d3, d4] }
  | _ => none }
def HandoverChangedWrongFalsely : Prop := handoverChangedRow.holds Tryd.pinned (OpenSpec.ofChange handoverChangedWrong)

/-- 'postilionlaw33.HandoverBinding': WHATEVER THE INPUT: true; the input reads as it did. -/
def handoverBindingSpec : ChangeSpec := { name := "handoverBinding", fn := fun _ => fun
  | [d1, d2, d3] => { results := [.lit (.bool true)], args := [d1, d2, d3] }
  | _ => none }
def handoverBindingRow : OpenClaim := { program := "ytobdkjjakdjnaaadoor", sum := "3250cfff040b04e7780fd39066afa10853109e229b9048138055224c3e281c51", func := "postilion/postilionlaw33.HandoverBinding", spec := "handoverBinding", inPlace := ["internal/abi.NoEscape", "internal/bytealg.MakeNoZero"], unfollowed := true, recurses := true, named := ["internal/strconv.uint64pow10", "math/bits.deBruijn32tab", "math/bits.deBruijn64tab"], apart := false, laid := [("math/bits.deBruijn32tab", laid_math_bits_deBruijn32tab), ("math/bits.deBruijn64tab", laid_math_bits_deBruijn64tab), ("internal/strconv.uint64pow10", laid_internal_strconv_uint64pow10)] }
def HandoverBindingSaid : Prop := handoverBindingRow.holds Tryd.pinned (OpenSpec.ofChange handoverBindingSpec)

/-- ITS FALSE NEIGHBOUR: 'it returns false'. Refute it at one input. -/
def handoverBindingWrong : ChangeSpec := { name := "handoverBinding", fn := fun _ => fun
  | [d1, d2, d3] => { results := [.lit (.bool false)], args := [d1, d2, d3] }
  | _ => none }
def HandoverBindingWrongFalsely : Prop := handoverBindingRow.holds Tryd.pinned (OpenSpec.ofChange handoverBindingWrong)

/-- 'postilionlaw33.HandoverContents': WHATEVER THE INPUT: true; the input reads as it did. -/
def handoverContentsSpec : ChangeSpec := { name := "handoverContents", fn := fun _ => fun
  | [d1, d2, d3] => { results := [.lit (.bool true)], args := [d1, d2, d3] }
  | _ => none }
def handoverContentsRow : OpenClaim := { program := "ytobdkjjakdjnaaadoor", sum := "3250cfff040b04e7780fd39066afa10853109e229b9048138055224c3e281c51", func := "postilion/postilionlaw33.HandoverContents", spec := "handoverContents", inPlace := ["internal/abi.NoEscape", "internal/bytealg.MakeNoZero"], unfollowed := true, recurses := true, named := ["internal/strconv.uint64pow10", "math/bits.deBruijn32tab", "math/bits.deBruijn64tab"], apart := false, laid := [("math/bits.deBruijn32tab", laid_math_bits_deBruijn32tab), ("math/bits.deBruijn64tab", laid_math_bits_deBruijn64tab), ("internal/strconv.uint64pow10", laid_internal_strconv_uint64pow10)] }
def HandoverContentsSaid : Prop := handoverContentsRow.holds Tryd.pinned (OpenSpec.ofChange handoverContentsSpec)

/-- ITS FALSE NEIGHBOUR: 'it returns false'. Refute it at one input. -/
def handoverContentsWrong : ChangeSpec := { name := "handoverContents", fn := fun _ => fun
  | [d1, d2, d3] => { results := [.lit (.bool false)], args := [d1, d2, d3] }
  | _ => none }
def HandoverContentsWrongFalsely : Prop := handoverContentsRow.holds Tryd.pinned (OpenSpec.ofChange handoverContentsWrong)

/-- 'postilionlaw33.HandoverKeys': WHATEVER THE INPUT: true; the input reads as it did. -/
def handoverKeysSpec : ChangeSpec := { name := "handoverKeys", fn := fun _ => fun
  | [d1, d2, d3, d4] => { results := [.lit (.bool true)], args := [d1, d2, d3, d4] }
  | _ => none }
def handoverKeysRow : OpenClaim := { program := "ytobdkjjakdjnaaadoor", sum := "3250cfff040b04e7780fd39066afa10853109e229b9048138055224c3e281c51", func := "postilion/postilionlaw33.HandoverKeys", spec := "handoverKeys", inPlace := ["internal/abi.NoEscape", "internal/bytealg.MakeNoZero"], unfollowed := true, recurses := true, named := ["internal/strconv.uint64pow10", "math/bits.deBruijn32tab", "math/bits.deBruijn64tab"], apart := false, laid := [("math/bits.deBruijn32tab", laid_math_bits_deBruijn32tab), ("math/bits.deBruijn64tab", laid_math_bits_deBruijn64tab), ("internal/strconv.uint64pow10", laid_internal_strconv_uint64pow10)] }
def HandoverKeysSaid : Prop := handoverKeysRow.holds Tryd.pinned (OpenSpec.ofChange handoverKeysSpec)

/-- ITS FALSE NEIGHBOUR: 'it returns false'. Refute it at one input. -/
def handoverKeysWrong : ChangeSpec := { name := "handoverKeys", fn := fun _ => fun
  | [d1, d2, d3, d4] => { results := [.lit (.bool false)], args := [d1, d2, d3, d4] }
  | _ => none }
def HandoverKeysWrongFalsely : Prop := handoverKeysRow.holds Tryd.pinned (OpenSpec.ofChange handoverKeysWrong)

/-- 'postilionlaw33.HandoverErrors': WHATEVER THE INPUT: true; the input reads as it did. -/
def handoverErrorsSpec : ChangeSpec := { name := "handoverErrors", fn := fun _ => fun
  | [d1, d2, d3, d4, d5, d6, d7] => { results := [.lit (.bool true)], args := [d1, d2, d3, d4, d5, d6, d7] }
  | _ => none }
def handoverErrorsRow : OpenClaim := { program := "ytobdkjjakdjnaaadoor", sum := "3250cfff040b04e7780fd39066afa10853109e229b9048138055224c3e281c51", func := "postilion/postilionlaw33.HandoverErrors", spec := "handoverErrors", inPlace := ["internal/abi.NoEscape", "internal/bytealg.MakeNoZero"], unfollowed := true, recurses := true, named := ["internal/strconv.uint64pow10", "math/bits.deBruijn32tab", "math/bits.deBruijn64tab"], apart := false, laid := [("math/bits.deBruijn32tab", laid_math_bits_deBruijn32tab), ("math/bits.deBruijn64tab", laid_math_bits_deBruijn64tab), ("internal/strconv.uint64pow10", laid_internal_strconv_uint64pow10)] }
def HandoverErrorsSaid : Prop := handoverErrorsRow.holds Tryd.pinned (OpenSpec.ofChange handoverErrorsSpec)

/-- ITS FALSE NEIGHBOUR: 'it returns false'. Refute it at one input. -/
def handoverErrorsWrong : ChangeSpec := { name := "handoverErrors", fn := fun _ => fun
  | [d1, d2, d3, d4, d5, d6, d7] => { results := [.lit (.bool false)], args := [d1, d2, d3, d4, d5, d6, d7] }
  | _ => none }
def HandoverErrorsWrongFalsely : Prop := handoverErrorsRow.holds Tryd.pinned (OpenSpec.ofChange handoverErrorsWrong)

/- THE SECOND FORM. 'bulk': how many values and letters a reading holds, each counted each time it is reached (what is shared counts as often as it is met; a slice's spare places count too). A statement '..UptoSaid' is the law's where the arguments, and the package variables that the reading takes, are together of bulk at most 1048576: NARROWER than '..Said'. Prove '..Said' where nothing that the law and all that it calls make is longer than what came in: it says more and counts as full. Else prove '..UptoSaid'. A law counts once. -/
mutual
def uptoBulk {H : Type} : DataW H → Nat
  | .lit (.string bytes) => bytes.length + 1
  | .lit _ => 1
  | .nil => 1
  | .ptr d => uptoBulk d + 1
  | .slice elems spare => uptoBulkAll elems + uptoBulkAll spare + 1
  | .agg parts => uptoBulkAll parts + 1
  | .iface _ d => uptoBulk d + 1
  | .map entries => uptoBulkEntries entries + 1
  | .held _ => 1
def uptoBulkAll {H : Type} : List (DataW H) → Nat
  | [] => 0
  | d :: r => uptoBulk d + uptoBulkAll r
def uptoBulkEntries {H : Type} : List (Lit × DataW H) → Nat
  | [] => 0
  | x :: r => uptoBulkEntry x + uptoBulkEntries r
def uptoBulkEntry {H : Type} : Lit × DataW H → Nat
  | (.string bytes, d) => bytes.length + uptoBulk d + 1
  | (_, d) => uptoBulk d + 1
 end
def uptoSmall : (H : Type) → List (DataW H) → Bool := fun _ ds => decide (uptoBulkAll ds ≤ 1048576)
def OpenSpec.upto (s : _root_.Go.ChangeSpec) : _root_.Go.OpenSpec := { _root_.Go.OpenSpec.ofChange s with cond := some uptoSmall }

/-- 'postilionlaw33.HandoverMatchesReference', WHERE WHAT IT READS IS OF BULK AT MOST 1048576: true; the input reads as it did. -/
def handoverMatchesReferenceUptoRow : OpenClaim := { program := "ytobdkjjakdjnaaadoor", sum := "3250cfff040b04e7780fd39066afa10853109e229b9048138055224c3e281c51", func := "postilion/postilionlaw33.HandoverMatchesReference", spec := "handoverMatchesReference", inPlace := ["internal/abi.NoEscape", "internal/bytealg.MakeNoZero"], unfollowed := true, recurses := true, named := ["internal/strconv.uint64pow10", "math/bits.deBruijn32tab", "math/bits.deBruijn64tab"], apart := false, laid := [("math/bits.deBruijn32tab", laid_math_bits_deBruijn32tab), ("math/bits.deBruijn64tab", laid_math_bits_deBruijn64tab), ("internal/strconv.uint64pow10", laid_internal_strconv_uint64pow10)], narrowed := true }
def HandoverMatchesReferenceUptoSaid : Prop := handoverMatchesReferenceUptoRow.holds Tryd.pinned (OpenSpec.upto handoverMatchesReferenceSpec)

/-- 'postilionlaw33.HandoverWritten', WHERE WHAT IT READS IS OF BULK AT MOST 1048576: true; the input reads as it did. -/
def handoverWrittenUptoRow : OpenClaim := { program := "ytobdkjjakdjnaaadoor", sum := "3250cfff040b04e7780fd39066afa10853109e229b9048138055224c3e281c51", func := "postilion/postilionlaw33.HandoverWritten", spec := "handoverWritten", inPlace := ["internal/abi.NoEscape", "internal/bytealg.MakeNoZero"], unfollowed := true, recurses := true, named := ["internal/strconv.uint64pow10", "math/bits.deBruijn32tab", "math/bits.deBruijn64tab"], apart := false, laid := [("math/bits.deBruijn32tab", laid_math_bits_deBruijn32tab), ("math/bits.deBruijn64tab", laid_math_bits_deBruijn64tab), ("internal/strconv.uint64pow10", laid_internal_strconv_uint64pow10)], narrowed := true }
def HandoverWrittenUptoSaid : Prop := handoverWrittenUptoRow.holds Tryd.pinned (OpenSpec.upto handoverWrittenSpec)

/-- 'postilionlaw33.HandoverChanged', WHERE WHAT IT READS IS OF BULK AT MOST 1048576: true; the input reads as it did. -/
def handoverChangedUptoRow : OpenClaim := { program := "ytobdkjjakdjnaaadoor", sum := "3250cfff040b04e7780fd39066afa10853109e229b9048138055224c3e281c51", func := "postilion/postilionlaw33.HandoverChanged", spec := "handoverChanged", inPlace := ["internal/abi.NoEscape", "internal/bytealg.MakeNoZero"], unfollowed := true, recurses := true, named := ["internal/strconv.uint64pow10", "math/bits.deBruijn32tab", "math/bits.deBruijn64tab"], apart := false, laid := [("math/bits.deBruijn32tab", laid_math_bits_deBruijn32tab), ("math/bits.deBruijn64tab", laid_math_bits_deBruijn64tab), ("internal/strconv.uint64pow10", laid_internal_strconv_uint64pow10)], narrowed := true }
def HandoverChangedUptoSaid : Prop := handoverChangedUptoRow.holds Tryd.pinned (OpenSpec.upto handoverChangedSpec)

/-- 'postilionlaw33.HandoverBinding', WHERE WHAT IT READS IS OF BULK AT MOST 1048576: true; the input reads as it did. -/
def handoverBindingUptoRow : OpenClaim := { program := "ytobdkjjakdjnaaadoor", sum := "3250cfff040b04e7780fd39066afa10853109e229b9048138055224c3e281c51", func := "postilion/postilionlaw33.HandoverBinding", spec := "handoverBinding", inPlace := ["internal/abi.NoEscape", "internal/bytealg.MakeNoZero"], unfollowed := true, recurses := true, named := ["internal/strconv.uint64pow10", "math/bits.deBruijn32tab", "math/bits.deBruijn64tab"], apart := false, laid := [("math/bits.deBruijn32tab", laid_math_bits_deBruijn32tab), ("math/bits.deBruijn64tab", laid_math_bits_deBruijn64tab), ("internal/strconv.uint64pow10", laid_internal_strconv_uint64pow10)], narrowed := true }
def HandoverBindingUptoSaid : Prop := handoverBindingUptoRow.holds Tryd.pinned (OpenSpec.upto handoverBindingSpec)

/-- 'postilionlaw33.HandoverContents', WHERE WHAT IT READS IS OF BULK AT MOST 1048576: true; the input reads as it did. -/
def handoverContentsUptoRow : OpenClaim := { program := "ytobdkjjakdjnaaadoor", sum := "3250cfff040b04e7780fd39066afa10853109e229b9048138055224c3e281c51", func := "postilion/postilionlaw33.HandoverContents", spec := "handoverContents", inPlace := ["internal/abi.NoEscape", "internal/bytealg.MakeNoZero"], unfollowed := true, recurses := true, named := ["internal/strconv.uint64pow10", "math/bits.deBruijn32tab", "math/bits.deBruijn64tab"], apart := false, laid := [("math/bits.deBruijn32tab", laid_math_bits_deBruijn32tab), ("math/bits.deBruijn64tab", laid_math_bits_deBruijn64tab), ("internal/strconv.uint64pow10", laid_internal_strconv_uint64pow10)], narrowed := true }
def HandoverContentsUptoSaid : Prop := handoverContentsUptoRow.holds Tryd.pinned (OpenSpec.upto handoverContentsSpec)

/-- 'postilionlaw33.HandoverKeys', WHERE WHAT IT READS IS OF BULK AT MOST 1048576: true; the input reads as it did. -/
def handoverKeysUptoRow : OpenClaim := { program := "ytobdkjjakdjnaaadoor", sum := "3250cfff040b04e7780fd39066afa10853109e229b9048138055224c3e281c51", func := "postilion/postilionlaw33.HandoverKeys", spec := "handoverKeys", inPlace := ["internal/abi.NoEscape", "internal/bytealg.MakeNoZero"], unfollowed := true, recurses := true, named := ["internal/strconv.uint64pow10", "math/bits.deBruijn32tab", "math/bits.deBruijn64tab"], apart := false, laid := [("math/bits.deBruijn32tab", laid_math_bits_deBruijn32tab), ("math/bits.deBruijn64tab", laid_math_bits_deBruijn64tab), ("internal/strconv.uint64pow10", laid_internal_strconv_uint64pow10)], narrowed := true }
def HandoverKeysUptoSaid : Prop := handoverKeysUptoRow.holds Tryd.pinned (OpenSpec.upto handoverKeysSpec)

/-- 'postilionlaw33.HandoverErrors', WHERE WHAT IT READS IS OF BULK AT MOST 1048576: true; the input reads as it did. -/
def handoverErrorsUptoRow : OpenClaim := { program := "ytobdkjjakdjnaaadoor", sum := "3250cfff040b04e7780fd39066afa10853109e229b9048138055224c3e281c51", func := "postilion/postilionlaw33.HandoverErrors", spec := "handoverErrors", inPlace := ["internal/abi.NoEscape", "internal/bytealg.MakeNoZero"], unfollowed := true, recurses := true, named := ["internal/strconv.uint64pow10", "math/bits.deBruijn32tab", "math/bits.deBruijn64tab"], apart := false, laid := [("math/bits.deBruijn32tab", laid_math_bits_deBruijn32tab), ("math/bits.deBruijn64tab", laid_math_bits_deBruijn64tab), ("internal/strconv.uint64pow10", laid_internal_strconv_uint64pow10)], narrowed := true }
def HandoverErrorsUptoSaid : Prop := handoverErrorsUptoRow.holds Tryd.pinned (OpenSpec.upto handoverErrorsSpec)

end Rows
end Go.Proofs.YtobdkjjakdjnaaaDoor
