/-
  What the seven statements of Handover share: the arguments read as documents and papers; the laid variables; a world that meets the condition.
-/
import Derived.Test.YtobdkjjakdjnaaaDoorHb
import Derived.Test.YtobdkjjakdjnaaaDoorRows
import Derived.LaidMore
import Derived.OpenShut
import Derived.Stop.Joined
set_option linter.unusedVariables false
set_option maxRecDepth 100000
namespace Go.Proofs.YtobdkjjakdjnaaaDoor
open Go.Av
open Go.ChangeShapes Go.WideShapes Go.ChangeAt Go.RowKit
theorem own : ownKnob Tryd.prog.godebug = none := by kernel_rfl
theorem laidOut : laidOutB Tryd.prog = true := by kernel_rfl
theorem bd_len {l : List UInt8} (h : l.length ≤ maxLen) : l.length ≤ 9223372036854775807 := by unfold maxLen at h; omega
theorem u32_bd {n : Int} (h : inK .u32 n) : 0 ≤ n ∧ n ≤ 4294967295 := by unfold inK IntKind.min IntKind.max at h; simp [IntKind.signed, IntKind.bits] at h; omega
theorem doc_cells {m : Nat} {cs : List AV} (h : Tyd Tryd.prog (m + 2) 25 cs) : ∃ d : DD, cs = [.str d.lab, .int .i64 d.frm, .int .i64 d.to, .int .i64 d.time, .int .i64 d.count, .int .i64 d.root, .int .i64 d.give, .int .i64 d.take] ∧ d.lab.length ≤ maxLen := by
  obtain ⟨ps, rfl, g⟩ := tyd_fields (ts := [9, 3, 3, 3, 3, 3, 3, 3]) Tryd.underlying25 (by kernel_rfl) h
  obtain ⟨p0, _, rfl, h0, g⟩ := tydF_cons g
  obtain ⟨p1, _, rfl, h1, g⟩ := tydF_cons g
  obtain ⟨p2, _, rfl, h2, g⟩ := tydF_cons g
  obtain ⟨p3, _, rfl, h3, g⟩ := tydF_cons g
  obtain ⟨p4, _, rfl, h4, g⟩ := tydF_cons g
  obtain ⟨p5, _, rfl, h5, g⟩ := tydF_cons g
  obtain ⟨p6, _, rfl, h6, g⟩ := tydF_cons g
  obtain ⟨p7, _, rfl, h7, g⟩ := tydF_cons g
  obtain rfl := tydF_nil g
  obtain ⟨lab, rfl, hl⟩ := cell_str Tryd.underlying9 h0
  obtain ⟨n1, rfl, _⟩ := cell_int Tryd.underlying3 h1
  obtain ⟨n2, rfl, _⟩ := cell_int Tryd.underlying3 h2
  obtain ⟨n3, rfl, _⟩ := cell_int Tryd.underlying3 h3
  obtain ⟨n4, rfl, _⟩ := cell_int Tryd.underlying3 h4
  obtain ⟨n5, rfl, _⟩ := cell_int Tryd.underlying3 h5
  obtain ⟨n6, rfl, _⟩ := cell_int Tryd.underlying3 h6
  obtain ⟨n7, rfl, _⟩ := cell_int Tryd.underlying3 h7
  exact ⟨⟨lab, n1, n2, n3, n4, n5, n6, n7⟩, rfl, hl⟩
theorem tyd_doc {m : Nat} {x : AV} (h : TydV Tryd.prog (m + 2) 25 x) : ∃ d : DD, x = d.av ∧ d.lab.length ≤ maxLen := by
  obtain ⟨c, rfl⟩ := h.2.1 (by kernel_rfl)
  obtain ⟨d, h1, h2⟩ := doc_cells h.1
  have h1 : c = _ := h1
  subst h1
  exact ⟨d, rfl, h2⟩
theorem tyd_paper {m : Nat} {x : AV} (h : TydV Tryd.prog (m + 4) 29 x) : ∃ (d : DD) (s : List UInt8) (i : Int) (path : List Int), x = papA d s i path ∧ d.lab.length ≤ maxLen ∧ s.length ≤ maxLen := by
  obtain ⟨ps, rfl, g⟩ := tyd_struct (ts := [25, 9, 27]) Tryd.underlying29 (by kernel_rfl) h
  obtain ⟨p0, _, rfl, h0, g⟩ := tydF_cons g
  obtain ⟨p1, _, rfl, h1, g⟩ := tydF_cons g
  obtain ⟨p2, _, rfl, h2, g⟩ := tydF_cons g
  obtain rfl := tydF_nil g
  obtain ⟨d, rfl, hd⟩ := doc_cells h0
  obtain ⟨s, rfl, hs⟩ := cell_str Tryd.underlying9 h1
  obtain ⟨qs, rfl, k⟩ := tyd_fields (ts := [3, 22]) Tryd.underlying27 (by kernel_rfl) h2
  obtain ⟨q0, _, rfl, g0, k⟩ := tydF_cons k
  obtain ⟨q1, _, rfl, g1, k⟩ := tydF_cons k
  obtain rfl := tydF_nil k
  obtain ⟨i, rfl, _⟩ := cell_int Tryd.underlying3 g0
  obtain ⟨path, rfl, _⟩ := cell_ints Tryd.underlying22 Tryd.underlying3 (by kernel_rfl) g1
  exact ⟨d, s, i, path, rfl, hd, hs⟩
theorem door_met (os : Os) (args : Array Value) : laidMetH Tryd.prog Rows.handoverKeysRow.laid ((World.doorLaid Tryd.prog 400 os).forCall (fun _ _ => 0) ⟨#[], args, []⟩).memory :=
  laidMetH_of_parts (laidMet_of_run' 8 (by kernel_rfl) (by kernel_rfl)) (by kernel_rfl)
end Go.Proofs.YtobdkjjakdjnaaaDoor
