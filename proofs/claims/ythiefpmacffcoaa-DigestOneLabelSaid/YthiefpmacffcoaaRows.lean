/-
  No cell of these rows narrows 'for every input' (looked for: loops, veiled, ifaces, maps, wideKeys, modest, calm, conditions, laid).
  DERIVED. THE GIVEN ROWS OF THIS SEAT. 6 by the template 'for every input the law returns true; each argument reads behind the call as it read before'; 0 by the template 'total and deterministic' (their statements: YthiefpmacffcoaaTotals.lean).
  GIVEN WITH THE SEED: the statements are not yours to turn. If you find one false, say at which input.
  Laid BY PROGRAM, IN A SANDBOX (cutbox-rows.mjs): the forced cells as the released guide's own fill.sh prints them over the translation da3223bc7d78bcee… (all of the seat's roots in one cut). By AI agents, Wed Nov 11 2026. No macro, syntax, notation, axiom, sorry.
-/
import Derived.Test.YthiefpmacffcoaaChecked
import GoSem.Claim
import GoSem.ClaimJoined
import GoSem.ClaimMapViews
import Derived.JoinedTies
import Derived.KernelRfl
namespace Go.Proofs.Ythiefpmacffcoaa
/- THE CELL 'sum', in the pinned program and in every row, IS THE sha256 OF THE DUMP (.gsa) THAT YthiefpmacffcoaaProg.lean LOADS. Nothing in Lean hashes anything: it is a label: what it is worth is what the hold of that sum in a sandbox is worth. -/
noncomputable def Try.pinned : Pinned := { name := "ythiefpmacffcoaa", sum := "da3223bc7d78bcee970f44b12bd17a41c7dfa057303006ff3ee3235732336541", checked := Try.checked }
namespace Rows
def none {H : Type} : Left H := { results := [], args := [] }

/-- 'postilionlaw32.DigestMatchesReference': WHATEVER THE INPUT: true; the input reads as it did. -/
def digestMatchesReferenceSpec : ChangeSpec := { name := "digestMatchesReference", fn := fun _ => fun
  | [d1, d2, d3, d4, d5] => { results := [.lit (.bool true)], args := [d1, d2, d3, d4, d5] }
  | _ => none }
def digestMatchesReferenceRow : OpenClaim := { program := "ythiefpmacffcoaa", sum := "da3223bc7d78bcee970f44b12bd17a41c7dfa057303006ff3ee3235732336541", func := "postilion/postilionlaw32.DigestMatchesReference", spec := "digestMatchesReference", unfollowed := true, recurses := true, apart := false }
def DigestMatchesReferenceSaid : Prop := digestMatchesReferenceRow.holds Try.pinned (OpenSpec.ofChange digestMatchesReferenceSpec)

/-- ITS FALSE NEIGHBOUR: 'it returns false'. Refute it at one input. -/
def digestMatchesReferenceWrong : ChangeSpec := { name := "digestMatchesReference", fn := fun _ => fun
  | [d1, d2, d3, d4, d5] => { results := [.lit (.bool false)], args := [d1, d2, d3, d4, d5] }
  | _ => none }
def DigestMatchesReferenceWrongFalsely : Prop := digestMatchesReferenceRow.holds Try.pinned (OpenSpec.ofChange digestMatchesReferenceWrong)

/-- 'postilionlaw32.DigestNumbers': WHATEVER THE INPUT: true; the input reads as it did. -/
def digestNumbersSpec : ChangeSpec := { name := "digestNumbers", fn := fun _ => fun
  | [d1, d2, d3, d4] => { results := [.lit (.bool true)], args := [d1, d2, d3, d4] }
  | _ => none }
def digestNumbersRow : OpenClaim := { program := "ythiefpmacffcoaa", sum := "da3223bc7d78bcee970f44b12bd17a41c7dfa057303006ff3ee3235732336541", func := "postilion/postilionlaw32.DigestNumbers", spec := "digestNumbers", unfollowed := true, recurses := true, apart := false }
def DigestNumbersSaid : Prop := digestNumbersRow.holds Try.pinned (OpenSpec.ofChange digestNumbersSpec)

/-- ITS FALSE NEIGHBOUR: 'it returns false'. Refute it at one input. -/
def digestNumbersWrong : ChangeSpec := { name := "digestNumbers", fn := fun _ => fun
  | [d1, d2, d3, d4] => { results := [.lit (.bool false)], args := [d1, d2, d3, d4] }
  | _ => none }
def DigestNumbersWrongFalsely : Prop := digestNumbersRow.holds Try.pinned (OpenSpec.ofChange digestNumbersWrong)

/-- 'postilionlaw32.DigestRows': WHATEVER THE INPUT: true; the input reads as it did. -/
def digestRowsSpec : ChangeSpec := { name := "digestRows", fn := fun _ => fun
  | [d] => { results := [.lit (.bool true)], args := [d] }
  | _ => none }
def digestRowsRow : OpenClaim := { program := "ythiefpmacffcoaa", sum := "da3223bc7d78bcee970f44b12bd17a41c7dfa057303006ff3ee3235732336541", func := "postilion/postilionlaw32.DigestRows", spec := "digestRows", unfollowed := true, recurses := true, apart := false }
def DigestRowsSaid : Prop := digestRowsRow.holds Try.pinned (OpenSpec.ofChange digestRowsSpec)

/-- ITS FALSE NEIGHBOUR: 'it returns false'. Refute it at one input. -/
def digestRowsWrong : ChangeSpec := { name := "digestRows", fn := fun _ => fun
  | [d] => { results := [.lit (.bool false)], args := [d] }
  | _ => none }
def DigestRowsWrongFalsely : Prop := digestRowsRow.holds Try.pinned (OpenSpec.ofChange digestRowsWrong)

/-- 'postilionlaw32.DigestPaths': WHATEVER THE INPUT: true; the input reads as it did. -/
def digestPathsSpec : ChangeSpec := { name := "digestPaths", fn := fun _ => fun
  | [d1, d2] => { results := [.lit (.bool true)], args := [d1, d2] }
  | _ => none }
def digestPathsRow : OpenClaim := { program := "ythiefpmacffcoaa", sum := "da3223bc7d78bcee970f44b12bd17a41c7dfa057303006ff3ee3235732336541", func := "postilion/postilionlaw32.DigestPaths", spec := "digestPaths", unfollowed := true, recurses := true, apart := false }
def DigestPathsSaid : Prop := digestPathsRow.holds Try.pinned (OpenSpec.ofChange digestPathsSpec)

/-- ITS FALSE NEIGHBOUR: 'it returns false'. Refute it at one input. -/
def digestPathsWrong : ChangeSpec := { name := "digestPaths", fn := fun _ => fun
  | [d1, d2] => { results := [.lit (.bool false)], args := [d1, d2] }
  | _ => none }
def DigestPathsWrongFalsely : Prop := digestPathsRow.holds Try.pinned (OpenSpec.ofChange digestPathsWrong)

/-- 'postilionlaw32.DigestOneLabel': WHATEVER THE INPUT: true; the input reads as it did. -/
def digestOneLabelSpec : ChangeSpec := { name := "digestOneLabel", fn := fun _ => fun
  | [d1, d2, d3] => { results := [.lit (.bool true)], args := [d1, d2, d3] }
  | _ => none }
def digestOneLabelRow : OpenClaim := { program := "ythiefpmacffcoaa", sum := "da3223bc7d78bcee970f44b12bd17a41c7dfa057303006ff3ee3235732336541", func := "postilion/postilionlaw32.DigestOneLabel", spec := "digestOneLabel", unfollowed := true, recurses := true, apart := false }
def DigestOneLabelSaid : Prop := digestOneLabelRow.holds Try.pinned (OpenSpec.ofChange digestOneLabelSpec)

/-- ITS FALSE NEIGHBOUR: 'it returns false'. Refute it at one input. -/
def digestOneLabelWrong : ChangeSpec := { name := "digestOneLabel", fn := fun _ => fun
  | [d1, d2, d3] => { results := [.lit (.bool false)], args := [d1, d2, d3] }
  | _ => none }
def DigestOneLabelWrongFalsely : Prop := digestOneLabelRow.holds Try.pinned (OpenSpec.ofChange digestOneLabelWrong)

/-- 'postilionlaw32.DigestHalves': WHATEVER THE INPUT: true; the input reads as it did. -/
def digestHalvesSpec : ChangeSpec := { name := "digestHalves", fn := fun _ => fun
  | [d] => { results := [.lit (.bool true)], args := [d] }
  | _ => none }
def digestHalvesRow : OpenClaim := { program := "ythiefpmacffcoaa", sum := "da3223bc7d78bcee970f44b12bd17a41c7dfa057303006ff3ee3235732336541", func := "postilion/postilionlaw32.DigestHalves", spec := "digestHalves", unfollowed := true, recurses := true, apart := false }
def DigestHalvesSaid : Prop := digestHalvesRow.holds Try.pinned (OpenSpec.ofChange digestHalvesSpec)

/-- ITS FALSE NEIGHBOUR: 'it returns false'. Refute it at one input. -/
def digestHalvesWrong : ChangeSpec := { name := "digestHalves", fn := fun _ => fun
  | [d] => { results := [.lit (.bool false)], args := [d] }
  | _ => none }
def DigestHalvesWrongFalsely : Prop := digestHalvesRow.holds Try.pinned (OpenSpec.ofChange digestHalvesWrong)

/- THE SECOND FORM. 'bulk': how many values and letters a reading holds, each counted each time it is reached (what is shared counts as often as it is met; a slice's spare places count too). A statement '..UptoSaid' is the law's where the arguments, and the package variables that the reading takes, are together of bulk at most 1048576: NARROWER than '..Said'. Prove '..Said' where nothing that the law and all that it calls make is longer than what came in: it says more and counts as full. Else prove '..UptoSaid'. A law counts once. -/
mutual
def uptoBulk {H : Type} : DataW H → Nat
  | .lit (.string bytes) => bytes.length + 1
  | .lit _ => 1
  | .nil => 1
  | .ptr d => uptoBulk d + 1
  | .slice elems spare => uptoBulkAll elems + uptoBulkAll spare + 1
  | .agg parts => uptoBulkAll parts + 1
  | .iface _ d => uptoBulk d + 1
  | .map entries => uptoBulkEntries entries + 1
  | .held _ => 1
def uptoBulkAll {H : Type} : List (DataW H) → Nat
  | [] => 0
  | d :: r => uptoBulk d + uptoBulkAll r
def uptoBulkEntries {H : Type} : List (Lit × DataW H) → Nat
  | [] => 0
  | x :: r => uptoBulkEntry x + uptoBulkEntries r
def uptoBulkEntry {H : Type} : Lit × DataW H → Nat
  | (.string bytes, d) => bytes.length + uptoBulk d + 1
  | (_, d) => uptoBulk d + 1
 end
def uptoSmall : (H : Type) → List (DataW H) → Bool := fun _ ds => decide (uptoBulkAll ds ≤ 1048576)
def OpenSpec.upto (s : _root_.Go.ChangeSpec) : _root_.Go.OpenSpec := { _root_.Go.OpenSpec.ofChange s with cond := some uptoSmall }

/-- 'postilionlaw32.DigestMatchesReference', WHERE WHAT IT READS IS OF BULK AT MOST 1048576: true; the input reads as it did. -/
def digestMatchesReferenceUptoRow : OpenClaim := { program := "ythiefpmacffcoaa", sum := "da3223bc7d78bcee970f44b12bd17a41c7dfa057303006ff3ee3235732336541", func := "postilion/postilionlaw32.DigestMatchesReference", spec := "digestMatchesReference", unfollowed := true, recurses := true, apart := false, narrowed := true }
def DigestMatchesReferenceUptoSaid : Prop := digestMatchesReferenceUptoRow.holds Try.pinned (OpenSpec.upto digestMatchesReferenceSpec)

/-- 'postilionlaw32.DigestNumbers', WHERE WHAT IT READS IS OF BULK AT MOST 1048576: true; the input reads as it did. -/
def digestNumbersUptoRow : OpenClaim := { program := "ythiefpmacffcoaa", sum := "da3223bc7d78bcee970f44b12bd17a41c7dfa057303006ff3ee3235732336541", func := "postilion/postilionlaw32.DigestNumbers", spec := "digestNumbers", unfollowed := true, recurses := true, apart := false, narrowed := true }
def DigestNumbersUptoSaid : Prop := digestNumbersUptoRow.holds Try.pinned (OpenSpec.upto digestNumbersSpec)

/-- 'postilionlaw32.DigestRows', WHERE WHAT IT READS IS OF BULK AT MOST 1048576: true; the input reads as it did. -/
def digestRowsUptoRow : OpenClaim := { program := "ythiefpmacffcoaa", sum := "da3223bc7d78bcee970f44b12bd17a41c7dfa057303006ff3ee3235732336541", func := "postilion/postilionlaw32.DigestRows", spec := "digestRows", unfollowed := true, recurses := true, apart := false, narrowed := true }
def DigestRowsUptoSaid : Prop := digestRowsUptoRow.holds Try.pinned (OpenSpec.upto digestRowsSpec)

/-- 'postilionlaw32.DigestPaths', WHERE WHAT IT READS IS OF BULK AT MOST 1048576: true; the input reads as it did. -/
def digestPathsUptoRow : OpenClaim := { program := "ythiefpmacffcoaa", sum := "da3223bc7d78bcee970f44b12bd17a41c7dfa057303006ff3ee3235732336541", func := "postilion/postilionlaw32.DigestPaths", spec := "digestPaths", unfollowed := true, recurses := true, apart := false, narrowed := true }
def DigestPathsUptoSaid : Prop := digestPathsUptoRow.holds Try.pinned (OpenSpec.upto digestPathsSpec)

/-- 'postilionlaw32.DigestOneLabel', WHERE WHAT IT READS IS OF BULK AT MOST 1048576: true; the input reads as it did. -/
def digestOneLabelUptoRow : OpenClaim := { program := "ythiefpmacffcoaa", sum := "da3223bc7d78bcee970f44b12bd17a41c7dfa057303006ff3ee3235732336541", func := "postilion/postilionlaw32.DigestOneLabel", spec := "digestOneLabel", unfollowed := true, recurses := true, apart := false, narrowed := true }
def DigestOneLabelUptoSaid : Prop := digestOneLabelUptoRow.holds Try.pinned (OpenSpec.upto digestOneLabelSpec)

/-- 'postilionlaw32.DigestHalves', WHERE WHAT IT READS IS OF BULK AT MOST 1048576: true; the input reads as it did. -/
def digestHalvesUptoRow : OpenClaim := { program := "ythiefpmacffcoaa", sum := "da3223bc7d78bcee970f44b12bd17a41c7dfa057303006ff3ee3235732336541", func := "postilion/postilionlaw32.DigestHalves", spec := "digestHalves", unfollowed := true, recurses := true, apart := false, narrowed := true }
def DigestHalvesUptoSaid : Prop := digestHalvesUptoRow.holds Try.pinned (OpenSpec.upto digestHalvesSpec)

end Rows
end Go.Proofs.Ythiefpmacffcoaa
