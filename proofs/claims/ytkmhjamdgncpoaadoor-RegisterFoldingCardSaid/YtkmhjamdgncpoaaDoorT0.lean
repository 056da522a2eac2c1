/-
  What the statements of Register share: the arguments read as changes, points and addresses.
-/
import Derived.Test.YtkmhjamdgncpoaaDoorF10
import Derived.Test.YtkmhjamdgncpoaaDoorRows
import Derived.LaidMore
import Derived.LaidSub
import Derived.LaidLaws
import Derived.MakeChecks
import Derived.OpenShut
import Derived.Stop.Joined
set_option linter.unusedVariables false
set_option maxRecDepth 100000
namespace Go.Proofs.YtkmhjamdgncpoaaDoor
open Go.Av Pl
open Go.ChangeShapes Go.WideShapes Go.ChangeAt Go.RowKit
theorem own : ownKnob Tryd.prog.godebug = none := by kernel_rfl
theorem laidOut : laidOutB Tryd.prog = true := by kernel_rfl
theorem ch_cells {m : Nat} {cs : List AV} (h : Tyd Tryd.prog (m + 2) 29 cs) : ∃ c : Ch, .agg cs = c.v := by
  obtain ⟨ps, rfl, g⟩ := tyd_fields (ts := [3, 3, 3, 9, 9, 9, 3, 3, 3]) Tryd.underlying29 (by kernel_rfl) h
  obtain ⟨p0, _, rfl, h0, g⟩ := tydF_cons g
  obtain ⟨p1, _, rfl, h1, g⟩ := tydF_cons g
  obtain ⟨p2, _, rfl, h2, g⟩ := tydF_cons g
  obtain ⟨p3, _, rfl, h3, g⟩ := tydF_cons g
  obtain ⟨p4, _, rfl, h4, g⟩ := tydF_cons g
  obtain ⟨p5, _, rfl, h5, g⟩ := tydF_cons g
  obtain ⟨p6, _, rfl, h6, g⟩ := tydF_cons g
  obtain ⟨p7, _, rfl, h7, g⟩ := tydF_cons g
  obtain ⟨p8, _, rfl, h8, g⟩ := tydF_cons g
  obtain rfl := tydF_nil g
  obtain ⟨n0, rfl, _⟩ := cell_int Tryd.underlying3 h0
  obtain ⟨n1, rfl, _⟩ := cell_int Tryd.underlying3 h1
  obtain ⟨n2, rfl, _⟩ := cell_int Tryd.underlying3 h2
  obtain ⟨s3, rfl, _⟩ := cell_str Tryd.underlying9 h3
  obtain ⟨s4, rfl, _⟩ := cell_str Tryd.underlying9 h4
  obtain ⟨s5, rfl, _⟩ := cell_str Tryd.underlying9 h5
  obtain ⟨n6, rfl, _⟩ := cell_int Tryd.underlying3 h6
  obtain ⟨n7, rfl, _⟩ := cell_int Tryd.underlying3 h7
  obtain ⟨n8, rfl, _⟩ := cell_int Tryd.underlying3 h8
  exact ⟨⟨n0, n1, n2, s3, s4, s5, n6, n7, n8⟩, rfl⟩
theorem tyd_ch {m : Nat} {x : AV} (h : TydV Tryd.prog (m + 2) 29 x) : ∃ c : Ch, x = c.v := by
  obtain ⟨c, rfl⟩ := h.2.1 (by kernel_rfl)
  exact ch_cells h.1
theorem tyd_chs {m : Nat} {x : AV} (h : TydV Tryd.prog (m + 3) 22 x) : ∃ l : List Ch, x = chs l := by
  obtain ⟨es, rfl, _, h2⟩ := tyd_slice Tryd.underlying22 h
  obtain ⟨l, rfl, _⟩ := list_form (f := Ch.v) (p := fun _ => True) fun y hy => by
    obtain ⟨r, hr⟩ := tyd_ch (m := m) (h2 y hy)
    exact ⟨r, hr, trivial⟩
  exact ⟨l, by rw [show Tryd.prog.cellsOf 29 = 9 by kernel_rfl]; rfl⟩
theorem tyd_ad {m : Nat} {x : AV} (h : TydV Tryd.prog (m + 2) 37 x) : ∃ a : Ad, x = a.v ∧ inK .i64 a.nu := by
  obtain ⟨ps, rfl, g⟩ := tyd_struct (ts := [9, 9, 3, 9, 9]) Tryd.underlying37 (by kernel_rfl) h
  obtain ⟨p0, _, rfl, h0, g⟩ := tydF_cons g
  obtain ⟨p1, _, rfl, h1, g⟩ := tydF_cons g
  obtain ⟨p2, _, rfl, h2, g⟩ := tydF_cons g
  obtain ⟨p3, _, rfl, h3, g⟩ := tydF_cons g
  obtain ⟨p4, _, rfl, h4, g⟩ := tydF_cons g
  obtain rfl := tydF_nil g
  obtain ⟨s0, rfl, _⟩ := cell_str Tryd.underlying9 h0
  obtain ⟨s1, rfl, _⟩ := cell_str Tryd.underlying9 h1
  obtain ⟨n2, rfl, k2⟩ := cell_int Tryd.underlying3 h2
  obtain ⟨s3, rfl, _⟩ := cell_str Tryd.underlying9 h3
  obtain ⟨s4, rfl, _⟩ := cell_str Tryd.underlying9 h4
  exact ⟨⟨s0, s1, n2, s3, s4⟩, rfl, k2⟩
theorem tyd_pt {m : Nat} {x : AV} (h : TydV Tryd.prog (m + 2) 35 x) : ∃ p : Pt, x = p.v ∧ inK .i64 p.s ∧ inK .i64 p.n := by
  obtain ⟨ps, rfl, g⟩ := tyd_struct (ts := [3, 3]) Tryd.underlying35 (by kernel_rfl) h
  obtain ⟨p0, _, rfl, h0, g⟩ := tydF_cons g
  obtain ⟨p1, _, rfl, h1, g⟩ := tydF_cons g
  obtain rfl := tydF_nil g
  obtain ⟨n0, rfl, k0⟩ := cell_int Tryd.underlying3 h0
  obtain ⟨n1, rfl, k1⟩ := cell_int Tryd.underlying3 h1
  exact ⟨⟨n0, n1⟩, rfl, k0, k1⟩
end Go.Proofs.YtkmhjamdgncpoaaDoor
