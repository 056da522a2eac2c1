/-
 What the statements of Network share: the laid variables, as the framework reads them; a world that meets the condition.
-/
import Derived.Test.YtmhlneeboefkgaaGreatDoorR4
import Derived.Test.YtmhlneeboefkgaaGreatDoorRows
import Derived.LaidMore
import Derived.LaidSub
import Derived.MakeChecks
import Derived.OpenShut
import Derived.Stop.Joined
set_option linter.unusedVariables false
set_option maxRecDepth 100000
namespace Go.Proofs.YtmhlneeboefkgaaGreatDoor
open Go.Av
open Go.ChangeShapes Go.WideShapes Go.ChangeAt Go.RowKit
theorem own : ownKnob Tryz.prog.godebug = none := by kernel_rfl
theorem laidOut : laidOutB Tryz.prog = true := by kernel_rfl
theorem mapM_some {α β : Type} {f : α → Option β} : ∀ {l : List α} {xs : List β}, l.mapM f = some xs → xs.length = l.length ∧ ∀ (i : Nat) (h : i < l.length) (h' : i < xs.length), f l[i] = some xs[i]
 | [], xs, h => by simp at h; subst h; simp
 | a :: l, xs, h => by
  rw [List.mapM_cons] at h
  cases hf : f a with
  | none => rw [hf] at h; simp at h
  | some b =>
   rw [hf] at h
   cases hm : l.mapM f with
   | none => rw [hm] at h; simp at h
   | some ys =>
    rw [hm] at h
    simp at h
    subst h
    obtain ⟨h1, h2⟩ := mapM_some hm
    refine ⟨by simp [h1], fun i hi hi' => ?_⟩
    cases i with
    | zero => exact hf
    | succ i => exact h2 i (by simpa using hi) (by simpa using hi')
theorem str_of_trod {H : Type} {enc : TypeId × Value → H} {P : Program} {W : World} {base : Nat} {sp : Nat → Bool} {fuel : Nat} {e : TypeId} {cs : List Value} {s : List UInt8} {p : List MemPlace} (he : P.underlying e = some .string)
  (h : DataW.trod enc P W base sp false fuel e cs = some (.lit (.string s), p)) : cs = [.string ⟨s.toArray⟩] ∧ s.length ≤ maxLen := by
 cases fuel with
 | zero => simp [DataW.trod] at h
 | succ fuel =>
  match cs with
  | [] => simp [DataW.trod, he] at h
  | _ :: _ :: _ => simp [DataW.trod, he] at h
  | [c] =>
   cases c <;> simp [DataW.trod, he] at h
   rename_i x
   obtain ⟨h1, h2, _⟩ := h
   subst h2
   exact ⟨by simp, by simpa using h1⟩
theorem arr_of_trod {H : Type} {enc : TypeId × Value → H} {P : Program} {W : World} {base : Nat} {sp : Nat → Bool} {fuel : Nat} {t e : TypeId} {n : Nat} {cs : List Value} {ss : List (List UInt8)} {p : List MemPlace} (ht : P.underlying t = some (.array n e)) (he : P.underlying e = some .string) (hce : P.cellsOf e = 1) (hct : P.cellsOf t = n)
  (h : DataW.trod enc P W base sp false fuel t cs = some (.agg (ss.map fun s => .lit (.string s)), p)) : cs = ss.map (fun s => .string ⟨s.toArray⟩) ∧ ∀ s ∈ ss, s.length ≤ maxLen := by
 cases fuel with
 | zero => simp [DataW.trod] at h
 | succ fuel =>
  simp only [DataW.trod, ht, hct, hce] at h
  split at h
  ·rename_i hl
   simp only [Option.map_eq_some_iff, Prod.mk.injEq, DataW.agg.injEq] at h
   obtain ⟨xs, hx, h1, _⟩ := h
   obtain ⟨k1, k2⟩ := mapM_some hx
   simp only [List.length_range] at k1
   have hlen : xs.length = ss.length := by have := congrArg List.length h1; simpa using this
   have key : ∀ (i : Nat) (h : i < cs.length) (h' : i < ss.length), cs[i] = .string ⟨(ss[i]).toArray⟩ ∧ ss[i].length ≤ maxLen := by
    intro i hi hi'
    have hix : i < xs.length := by omega
    have q := k2 i (by simp; omega) hix
    simp only [List.getElem_range, Nat.mul_one] at q
    have q1 : (xs[i]).1 = .lit (.string ss[i]) := by
     have e1 : (xs.map (·.1))[i]'(by simp; omega) = (ss.map fun s => DataW.lit (.string s))[i]'(by simp; omega) := by simp only [h1]
     simpa using e1
    have q2 : DataW.trod enc P W base sp false fuel e ((cs.drop i).take 1) = some (.lit (.string ss[i]), (xs[i]).2) := by rw [q, ← q1]
    obtain ⟨r1, r2⟩ := str_of_trod he q2
    refine ⟨?_, r2⟩
    have r3 : [cs[i]] = [Value.string ⟨(ss[i]).toArray⟩] := by rw [← r1, List.drop_eq_getElem_cons hi]; rfl
    simpa using r3
   refine ⟨List.ext_getElem (by simp; omega) fun i hi hi' => ?_, fun s hs => ?_⟩
   ·rw [List.getElem_map]; exact (key i hi (by simpa using hi')).1
   ·obtain ⟨i, hi, rfl⟩ := List.mem_iff_getElem.1 hs
    exact (key i (by omega) hi).2
  ·cases h
theorem laid_at {P : Program} {w : World} {n : String} {d : DataW Unit} : ∀ {l : List (String × DataW Unit)} {ps : List MemPlace}, DataW.LaidVars P w l ps → (n, d) ∈ l →
  ∃ g t cs fuel p, P.globalNamed n = some g ∧ (P.globals[g]?).map (·.type) = some t ∧ w.var? P n = some cs ∧ DataW.trod (fun _ => ()) P w 0 (fun _ => true) false fuel t cs.toList = some (d, p)
 | [], ps, _, hm => by simp at hm
 | (n0, d0) :: r, ps, h, hm => by
  obtain ⟨g, t, cs, fuel, p, q, h1, h2, h3, h4, h5, _⟩ := h
  rcases List.mem_cons.1 hm with e | hm
  ·cases e
   exact ⟨g, t, cs, fuel, p, h1, h2, h3, h4⟩
  ·exact laid_at h5 hm
theorem cells_strs {C : CellSet} {w : World} {g : Nat} : ∀ (ss : List (List UInt8)) (o : Nat), (∀ (i : Nat) (h : i < ss.length), w.cell? ⟨g, o + i, none⟩ = some (.string ⟨(ss[i]).toArray⟩) ∧ C g (o + i)) → (∀ s ∈ ss, s.length ≤ maxLen) → Cells C w (ss.map AV.str) g o
 | [], _, _, _ => by simp [Cells]
 | s :: ss, o, h, hl => by
  simp only [List.map_cons]
  unfold Cells
  obtain ⟨h1, h2⟩ := h 0 (by simp)
  refine ⟨⟨.string ⟨s.toArray⟩, rfl, ⟨by simpa using h2, by simpa using h1⟩, ?_⟩, cells_strs ss (o + 1) (fun i hi => ?_) fun x hx => hl x (by simp [hx])⟩
  ·unfold Rep
   have := hl s (by simp)
   unfold maxLen at this
   exact ⟨rfl, by omega⟩
  ·have := h (i + 1) (by simpa using hi)
   rw [show o + 1 + i = o + (i + 1) by omega]
   simpa using this
theorem var_cells {P : Program} {w : World} {n : String} {g t e : Nat} {k : Nat} {ss : List (List UInt8)} {l : List (String × DataW Unit)} {ps : List MemPlace} (h : DataW.LaidVars P w l ps) (hm : (n, DataW.agg (ss.map fun s => .lit (.string s))) ∈ l)
  (hg : P.globalNamed n = some g) (hty : (P.globals[g]?).map (·.type) = some t) (ht : P.underlying t = some (.array k e)) (he : P.underlying e = some .string) (hce : P.cellsOf e = 1) (hct : P.cellsOf t = k) : Cells (wideC w) w (ss.map AV.str) g 0 := by
 obtain ⟨g', t', cs, fuel, p, h1, h2, h3, h4⟩ := laid_at h hm
 rw [hg] at h1; cases h1
 rw [hty] at h2; cases h2
 obtain ⟨k1, k2⟩ := arr_of_trod ht he hce hct h4
 unfold World.var? at h3
 rw [hg] at h3
 simp only [Option.bind_some] at h3
 split at h3
 ·rename_i cs' a b hb
  cases h3
  have hlt : g < w.heap.size := (Array.getElem?_eq_some_iff.1 hb).1
  refine cells_strs ss 0 (fun i hi => ⟨?_, hlt⟩) k2
  have hc : cs[i]? = some (.string ⟨(ss[i]).toArray⟩) := by
   rw [← Array.getElem?_toList, k1]; simp [hi]
  rw [Nat.zero_add]
  simp [World.cell?, hb, hc]
 ·cases h3
def gl0 : List (List UInt8) := [[45, 62], [123], [125], [40], [41], [91], [93], [44], [59], [58], [61], [46], [45]]
def gl1 : List (List UInt8) := [[99, 97, 108, 101, 110, 100, 97, 114], [111, 112, 101, 114, 97, 116, 111, 114], [111, 102, 102, 105, 99, 101], [108, 105, 110, 101], [99, 108, 97, 115, 115], [122, 111, 110, 101], [119, 101, 101, 107], [104, 111, 108, 105, 100, 97, 121], [112, 111, 99, 107, 101, 116, 115], [112, 97, 115, 115, 101, 115], [109, 105, 110, 117, 116, 101, 115], [99, 111, 100, 101, 115], [97, 116], [116, 114, 97, 118, 101, 108], [108, 111, 97, 100], [99, 117, 116], [100, 101, 108, 105, 118, 101, 114]]
theorem gl_of {w : World} {l : List (String × DataW Unit)} (h : laidMetH Tryz.prog l w) (hp : (l.all fun x => x.2.handleName?.isNone) = true) (m0 : ("postilion/lexer.symbols", DataW.agg (gl0.map fun s => .lit (.string s))) ∈ l) (m1 : ("postilion/network.keyWords", DataW.agg (gl1.map fun s => .lit (.string s))) ∈ l) :
  ∀ x ∈ glTab, Cells (wideC w) w x.2 x.1 0 := by
 rw [Go.MakeChecks.laidMetH_plain _ _ _ hp] at h
 obtain ⟨ps, hv, _⟩ := h
 intro x hx
 have hx : x = (0, gl0.map AV.str) ∨ x = (1, gl1.map AV.str) := by
  rcases List.mem_cons.1 hx with h | hx
  ·exact .inl h
  ·rcases List.mem_cons.1 hx with h | hx
   ·exact .inr h
   ·cases hx
 rcases hx with rfl | rfl
 ·exact var_cells (t := 91) (e := 9) (k := 13) hv m0 (by kernel_rfl) (by kernel_rfl) (by kernel_rfl) Tryz.underlying9 (by kernel_rfl) (by kernel_rfl)
 ·exact var_cells (t := 105) (e := 9) (k := 17) hv m1 (by kernel_rfl) (by kernel_rfl) (by kernel_rfl) Tryz.underlying9 (by kernel_rfl) (by kernel_rfl)
theorem door_met (os : Os) (args : Array Value) : laidMetH Tryz.prog Rows.networkMatchesReferenceRow.laid ((World.doorLaid Tryz.prog 400 os).forCall (fun _ _ => 0) ⟨#[], args, []⟩).memory :=
 laidMetH_of_parts (laidMet_of_run' 8 (by kernel_rfl) (by kernel_rfl)) (by kernel_rfl)
end Go.Proofs.YtmhlneeboefkgaaGreatDoor
