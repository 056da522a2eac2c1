/-
  AV: abstract values. What a Go value reads as, in terms of plain lists, numbers and texts; 'Rep' ties an abstract value to a value of the model in a world.
-/
import Derived.WalkKit
import Derived.MapKept
import Derived.RangeFuncRecord
set_option linter.unusedSimpArgs false
set_option linter.unusedVariables false
namespace Go.Av
inductive AV where
 | any
 | int (k : IntKind) (n : Int)
 | bool (b : Bool)
 | lit (b : Bool)
 | str (l : List UInt8)
 | sl (sz : Nat) (es : List AV)
 | at_ (cs : List AV)
 | fn (f : FuncId) (cap : List AV)
 | mv (f : FuncId) (fs : List AV)
 | iface (t : TypeId) (x : AV)
 | agg (cs : List AV)
 | tuple (vs : List AV)
 | raw (v : Value)
 | ptr (l o : Nat)
 | el (l sz i o : Nat)
 | own (l sz lo n : Nat)
 | mp (ks vs : List AV)
 | om (l : Nat)
instance : Inhabited AV := ⟨.any⟩
inductive GO where
 | blk (b : Nat)
 | arr (v : Value)
def GO.block? : GO → Option Nat
 | .blk b => some b
 | .arr (.slice (some a) _ _) => some a.block
 | .arr _ => none
abbrev Mu := Nat → Option GO
def Mu.none : Mu := fun _ => Option.none
abbrev CellSet := Nat → Nat → Prop
def inK (k : IntKind) (n : Int) : Prop := k.min ≤ n ∧ n ≤ k.max
def Cl (C : CellSet) (w : World) (b o : Nat) (v : Value) : Prop := C b o ∧ w.cell? ⟨b, o, none⟩ = some v
def lenSl : Value → Nat
 | .slice (some _) n _ => n
 | _ => 0
def capSl : Value → Nat
 | .slice (some _) _ c => c
 | _ => 0
def subSl (x : Value) (sz lo n : Nat) : Value :=
 match x with
 | .slice (some a) _ cap => .slice (some ⟨a.block, a.off + lo * sz, none⟩) n (cap - lo)
 | _ => .slice none 0 0
mutual
def Rep (C : CellSet) (w : World) : AV → Mu → Value → Prop
 | .any, _, _ => True
 | .int k n, _, v => v = .int k n ∧ inK k n
 | .bool b, _, v => v = .bool b
 | .lit b, _, v => v = .bool b
 | .str l, _, v => v = .string ⟨l.toArray⟩ ∧ l.length ≤ 9223372036854775807
 | .sl sz es, _, v => ((∃ a, v = .slice a 0 0) ∧ es = []) ∨
   ∃ b o cap, v = .slice (some ⟨b, o, none⟩) es.length cap ∧ es.length ≤ cap ∧ cap ≤ 9223372036854775807 ∧ Rows C w sz es b o
 | .at_ cs, _, v => ∃ b o, v = .pointer (some ⟨b, o, none⟩) ∧ Cells C w cs b o
 | .fn f cap, mu, v => ∃ vs : List Value, v = .func (.func f) #[] vs.toArray ∧ Reps C w cap mu vs
 | .mv f cap, mu, v => ∃ vs : List Value, v = .func (.func f) vs.toArray #[] ∧ Reps C w cap mu vs
 | .iface t x, mu, v => ∃ y, v = .iface t y ∧ Rep C w x mu y
 | .agg cs, mu, v => ∃ vs : List Value, v = .agg vs.toArray ∧ Reps C w cs mu vs
 | .tuple cs, mu, v => ∃ vs : List Value, v = .tuple vs.toArray ∧ Reps C w cs mu vs
 | .raw x, _, v => v = x
 | .ptr l o, mu, v => ∃ b, mu l = some (.blk b) ∧ v = .pointer (some ⟨b, o, none⟩)
 | .el l sz i o, mu, v => ∃ b n c, mu l = some (.arr (.slice (some ⟨b, 0, none⟩) n c)) ∧ v = .pointer (some ⟨b, i * sz + o, none⟩)
 | .own l sz lo n, mu, v => ∃ x, mu l = some (.arr x) ∧ lo + n ≤ lenSl x ∧ (lenSl x ≤ capSl x ∧ capSl x ≤ 9223372036854775807) ∧ v = subSl x sz lo n
 | .mp ks vs, _, v => (v = .map none ∧ ks = [] ∧ vs = []) ∨ ∃ b es clock, v = .map (some b) ∧ C b 0 ∧ w.heap[b]? = some (.map es clock) ∧
   Reps C w ks Mu.none (es.toList.map MapEntry.key) ∧ Reps C w vs Mu.none (es.toList.map MapEntry.val)
 | .om l, mu, v => ∃ b, mu l = some (.blk b) ∧ v = .map (some b)
def Reps (C : CellSet) (w : World) : List AV → Mu → List Value → Prop
 | [], _, vs => vs = []
 | a :: as, mu, vs => ∃ v vs', vs = v :: vs' ∧ Rep C w a mu v ∧ Reps C w as mu vs'
def Rows (C : CellSet) (w : World) (sz : Nat) : List AV → Nat → Nat → Prop
 | [], _, _ => True
 | .agg cs :: es, b, o => cs.length = sz ∧ Cells C w cs b o ∧ Rows C w sz es b (o + sz)
 | e :: es, b, o => sz = 1 ∧ (∃ v, v.oneCell' = true ∧ Cl C w b o v ∧ Rep C w e Mu.none v) ∧ Rows C w sz es b (o + sz)
def Cells (C : CellSet) (w : World) : List AV → Nat → Nat → Prop
 | [], _, _ => True
 | c :: cs, b, o => (∃ v, v.oneCell' = true ∧ Cl C w b o v ∧ Rep C w c Mu.none v) ∧ Cells C w cs b (o + 1)
end
structure Ext (C C' : CellSet) (w w' : World) : Prop where
 sub : ∀ b o, C b o → C' b o
 block : ∀ b o, C b o → w'.heap[b]? = w.heap[b]?
theorem Ext.same {C C' : CellSet} {w w' : World} (h : Ext C C' w w') (b o : Nat) (v : Value) (hc : C b o) (hv : w.cell? ⟨b, o, none⟩ = some v) : w'.cell? ⟨b, o, none⟩ = some v := by
 rw [World.cell?_of_block (h.block b o hc)]; exact hv
theorem Ext.maps {C C' : CellSet} {w w' : World} (h : Ext C C' w w') (b o : Nat) (es : Array MapEntry) (clock : Nat) (hc : C b o) (hv : w.heap[b]? = some (.map es clock)) : w'.heap[b]? = some (.map es clock) := by
 rw [h.block b o hc]; exact hv
theorem Ext.of_block {C C' : CellSet} {w w' : World} (h : ∀ b o, C b o → C' b o) (k : ∀ b o, C b o → w'.heap[b]? = w.heap[b]?) : Ext C C' w w' := ⟨h, k⟩
theorem Ext.refl (C : CellSet) (w : World) : Ext C C w w := ⟨fun _ _ h => h, fun _ _ _ => rfl⟩
theorem Cl.ext {C C' : CellSet} {w w' : World} (h : Ext C C' w w') {b o : Nat} {v : Value} (c : Cl C w b o v) : Cl C' w' b o v :=
 ⟨h.sub b o c.1, h.same b o v c.1 c.2⟩
def MuLe (mu mu' : Mu) : Prop := ∀ l g, mu l = some g → mu' l = some g
theorem MuLe.refl (mu : Mu) : MuLe mu mu := fun _ _ h => h
theorem MuLe.none (mu : Mu) : MuLe Mu.none mu := fun _ _ h => by cases h
set_option linter.unusedSectionVars false
section mono
variable {C C' : CellSet} {w w' : World} (hx : Ext C C' w w')
include hx
mutual
theorem Rep.mono : ∀ (a : AV) {mu mu' : Mu} {v : Value}, MuLe mu mu' → Rep C w a mu v → Rep C' w' a mu' v
 | .any, _, _, _, _, _ => by unfold Rep; trivial
 | .int _ _, _, _, _, _, h => by unfold Rep at *; exact h
 | .bool _, _, _, _, _, h => by unfold Rep at *; exact h
 | .lit _, _, _, _, _, h => by unfold Rep at *; exact h
 | .str _, _, _, _, _, h => by unfold Rep at *; exact h
 | .sl sz es, _, _, _, _, h => by
  unfold Rep at *
  rcases h with h | ⟨b, o, cap, h1, h2, h3, h4⟩
  ·exact .inl h
  ·exact .inr ⟨b, o, cap, h1, h2, h3, Rows.mono es h4⟩
 | .at_ cs, _, _, _, _, h => by
  unfold Rep at *
  obtain ⟨b, o, h1, h2⟩ := h
  exact ⟨b, o, h1, Cells.mono cs h2⟩
 | .fn f cap, _, _, _, hm, h => by
  unfold Rep at *
  obtain ⟨vs, h1, h2⟩ := h
  exact ⟨vs, h1, Reps.mono cap hm h2⟩
 | .mv f cap, _, _, _, hm, h => by
  unfold Rep at *
  obtain ⟨vs, h1, h2⟩ := h
  exact ⟨vs, h1, Reps.mono cap hm h2⟩
 | .iface t x, _, _, _, hm, h => by
  unfold Rep at *
  obtain ⟨y, h1, h2⟩ := h
  exact ⟨y, h1, Rep.mono x hm h2⟩
 | .agg cs, _, _, _, hm, h => by
  unfold Rep at *
  obtain ⟨vs, h1, h2⟩ := h
  exact ⟨vs, h1, Reps.mono cs hm h2⟩
 | .tuple cs, _, _, _, hm, h => by
  unfold Rep at *
  obtain ⟨vs, h1, h2⟩ := h
  exact ⟨vs, h1, Reps.mono cs hm h2⟩
 | .raw _, _, _, _, _, h => by unfold Rep at *; exact h
 | .ptr l o, _, _, _, hm, h => by
  unfold Rep at *
  obtain ⟨b, h1, h2⟩ := h
  exact ⟨b, hm _ _ h1, h2⟩
 | .el l sz i o, _, _, _, hm, h => by
  unfold Rep at *
  obtain ⟨b, n, c, h1, h2⟩ := h
  exact ⟨b, n, c, hm _ _ h1, h2⟩
 | .own l sz lo n, _, _, _, hm, h => by
  unfold Rep at *
  obtain ⟨x, h1, h2⟩ := h
  exact ⟨x, hm _ _ h1, h2⟩
 | .mp ks vs, _, _, _, _, h => by
  unfold Rep at *
  rcases h with h | ⟨b, es, clock, h1, h2, h3, h4, h5⟩
  ·exact .inl h
  ·exact .inr ⟨b, es, clock, h1, hx.sub _ _ h2, hx.maps _ _ _ _ h2 h3, Reps.mono ks (MuLe.refl _) h4, Reps.mono vs (MuLe.refl _) h5⟩
 | .om l, _, _, _, hm, h => by
  unfold Rep at *
  obtain ⟨b, h1, h2⟩ := h
  exact ⟨b, hm _ _ h1, h2⟩
theorem Reps.mono : ∀ (as : List AV) {mu mu' : Mu} {vs : List Value}, MuLe mu mu' → Reps C w as mu vs → Reps C' w' as mu' vs
 | [], _, _, _, _, h => by unfold Reps at *; exact h
 | a :: as, _, _, _, hm, h => by
  unfold Reps at *
  obtain ⟨v, vs', h1, h2, h3⟩ := h
  exact ⟨v, vs', h1, Rep.mono a hm h2, Reps.mono as hm h3⟩
theorem Rows.mono {sz : Nat} : ∀ (es : List AV) {b o : Nat}, Rows C w sz es b o → Rows C' w' sz es b o
 | [], _, _, _ => by unfold Rows; trivial
 | .agg cs :: es, _, _, h => by unfold Rows at *; exact ⟨h.1, Cells.mono cs h.2.1, Rows.mono es h.2.2⟩
 | .any :: es, _, _, h => by unfold Rows at *; obtain ⟨h1, ⟨v, h2, h3, h4⟩, h5⟩ := h; exact ⟨h1, ⟨v, h2, h3.ext hx, Rep.mono _ (MuLe.refl _) h4⟩, Rows.mono es h5⟩
 | .int _ _ :: es, _, _, h => by unfold Rows at *; obtain ⟨h1, ⟨v, h2, h3, h4⟩, h5⟩ := h; exact ⟨h1, ⟨v, h2, h3.ext hx, Rep.mono _ (MuLe.refl _) h4⟩, Rows.mono es h5⟩
 | .bool _ :: es, _, _, h => by unfold Rows at *; obtain ⟨h1, ⟨v, h2, h3, h4⟩, h5⟩ := h; exact ⟨h1, ⟨v, h2, h3.ext hx, Rep.mono _ (MuLe.refl _) h4⟩, Rows.mono es h5⟩
 | .lit _ :: es, _, _, h => by unfold Rows at *; obtain ⟨h1, ⟨v, h2, h3, h4⟩, h5⟩ := h; exact ⟨h1, ⟨v, h2, h3.ext hx, Rep.mono _ (MuLe.refl _) h4⟩, Rows.mono es h5⟩
 | .str _ :: es, _, _, h => by unfold Rows at *; obtain ⟨h1, ⟨v, h2, h3, h4⟩, h5⟩ := h; exact ⟨h1, ⟨v, h2, h3.ext hx, Rep.mono _ (MuLe.refl _) h4⟩, Rows.mono es h5⟩
 | .sl _ _ :: es, _, _, h => by unfold Rows at *; obtain ⟨h1, ⟨v, h2, h3, h4⟩, h5⟩ := h; exact ⟨h1, ⟨v, h2, h3.ext hx, Rep.mono _ (MuLe.refl _) h4⟩, Rows.mono es h5⟩
 | .at_ _ :: es, _, _, h => by unfold Rows at *; obtain ⟨h1, ⟨v, h2, h3, h4⟩, h5⟩ := h; exact ⟨h1, ⟨v, h2, h3.ext hx, Rep.mono _ (MuLe.refl _) h4⟩, Rows.mono es h5⟩
 | .fn _ _ :: es, _, _, h => by unfold Rows at *; obtain ⟨h1, ⟨v, h2, h3, h4⟩, h5⟩ := h; exact ⟨h1, ⟨v, h2, h3.ext hx, Rep.mono _ (MuLe.refl _) h4⟩, Rows.mono es h5⟩
 | .mv _ _ :: es, _, _, h => by unfold Rows at *; obtain ⟨h1, ⟨v, h2, h3, h4⟩, h5⟩ := h; exact ⟨h1, ⟨v, h2, h3.ext hx, Rep.mono _ (MuLe.refl _) h4⟩, Rows.mono es h5⟩
 | .iface _ _ :: es, _, _, h => by unfold Rows at *; obtain ⟨h1, ⟨v, h2, h3, h4⟩, h5⟩ := h; exact ⟨h1, ⟨v, h2, h3.ext hx, Rep.mono _ (MuLe.refl _) h4⟩, Rows.mono es h5⟩
 | .tuple _ :: es, _, _, h => by unfold Rows at *; obtain ⟨h1, ⟨v, h2, h3, h4⟩, h5⟩ := h; exact ⟨h1, ⟨v, h2, h3.ext hx, Rep.mono _ (MuLe.refl _) h4⟩, Rows.mono es h5⟩
 | .raw _ :: es, _, _, h => by unfold Rows at *; obtain ⟨h1, ⟨v, h2, h3, h4⟩, h5⟩ := h; exact ⟨h1, ⟨v, h2, h3.ext hx, Rep.mono _ (MuLe.refl _) h4⟩, Rows.mono es h5⟩
 | .ptr _ _ :: es, _, _, h => by unfold Rows at *; obtain ⟨h1, ⟨v, h2, h3, h4⟩, h5⟩ := h; exact ⟨h1, ⟨v, h2, h3.ext hx, Rep.mono _ (MuLe.refl _) h4⟩, Rows.mono es h5⟩
 | .el _ _ _ _ :: es, _, _, h => by unfold Rows at *; obtain ⟨h1, ⟨v, h2, h3, h4⟩, h5⟩ := h; exact ⟨h1, ⟨v, h2, h3.ext hx, Rep.mono _ (MuLe.refl _) h4⟩, Rows.mono es h5⟩
 | .own _ _ _ _ :: es, _, _, h => by unfold Rows at *; obtain ⟨h1, ⟨v, h2, h3, h4⟩, h5⟩ := h; exact ⟨h1, ⟨v, h2, h3.ext hx, Rep.mono _ (MuLe.refl _) h4⟩, Rows.mono es h5⟩
 | .mp _ _ :: es, _, _, h => by unfold Rows at *; obtain ⟨h1, ⟨v, h2, h3, h4⟩, h5⟩ := h; exact ⟨h1, ⟨v, h2, h3.ext hx, Rep.mono _ (MuLe.refl _) h4⟩, Rows.mono es h5⟩
 | .om _ :: es, _, _, h => by unfold Rows at *; obtain ⟨h1, ⟨v, h2, h3, h4⟩, h5⟩ := h; exact ⟨h1, ⟨v, h2, h3.ext hx, Rep.mono _ (MuLe.refl _) h4⟩, Rows.mono es h5⟩
theorem Cells.mono : ∀ (cs : List AV) {b o : Nat}, Cells C w cs b o → Cells C' w' cs b o
 | [], _, _, _ => by unfold Cells; trivial
 | c :: cs, _, _, h => by
  unfold Cells at *
  obtain ⟨⟨v, h2, h3, h4⟩, h5⟩ := h
  exact ⟨⟨v, h2, h3.ext hx, Rep.mono c (MuLe.refl _) h4⟩, Cells.mono cs h5⟩
end
end mono
def AV.cells : AV → List AV
 | .agg cs => cs
 | a => [a]
def flat (es : List AV) : List AV := es.flatMap AV.cells
def Row (C : CellSet) (w : World) (sz : Nat) (e : AV) (b o : Nat) : Prop := e.cells.length = sz ∧ Cells C w e.cells b o
theorem rows_cons {C : CellSet} {w : World} {sz : Nat} {e : AV} {es : List AV} {b o : Nat} :
  Rows C w sz (e :: es) b o ↔ Row C w sz e b o ∧ Rows C w sz es b (o + sz) := by
 cases e <;> simp only [Rows, Row, AV.cells, Cells, and_assoc, and_true, List.length_cons, List.length_nil, Nat.zero_add] <;> (constructor <;> (rintro ⟨h1, h2⟩; exact ⟨h1.symm, h2⟩))
theorem rows_iff {C : CellSet} {w : World} {sz : Nat} {b : Nat} : ∀ (es : List AV) (o : Nat),
  Rows C w sz es b o ↔ ∀ i (h : i < es.length), Row C w sz es[i] b (o + i * sz)
 | [], o => by simp [Rows]
 | e :: es, o => by
  rw [rows_cons, rows_iff es (o + sz)]
  constructor
  ·rintro ⟨h1, h2⟩ i h
   cases i with
   | zero => simpa using h1
   | succ i =>
    have := h2 i (by simpa using h)
    simp only [List.getElem_cons_succ]
    have e : o + (i + 1) * sz = o + sz + i * sz := by rw [Nat.add_mul]; omega
    rw [e]; exact this
  ·intro h
   refine ⟨by have := h 0 (by simp); simp only [Nat.zero_mul, Nat.add_zero] at this; exact this, fun i hi => ?_⟩
   have := h (i + 1) (by simpa using hi)
   simp only [List.getElem_cons_succ] at this
   have e : o + (i + 1) * sz = o + sz + i * sz := by rw [Nat.add_mul]; omega
   rw [e] at this; exact this
theorem cells_iff {C : CellSet} {w : World} {b : Nat} : ∀ (cs : List AV) (o : Nat),
  Cells C w cs b o ↔ ∀ i (h : i < cs.length), ∃ v, v.oneCell' = true ∧ Cl C w b (o + i) v ∧ Rep C w cs[i] Mu.none v
 | [], o => by simp [Cells]
 | c :: cs, o => by
  rw [Cells, cells_iff cs (o + 1)]
  constructor
  ·rintro ⟨h1, h2⟩ i h
   cases i with
   | zero => simpa using h1
   | succ i =>
    have := h2 i (by simpa using h)
    simp only [List.getElem_cons_succ]
    have e : o + (i + 1) = o + 1 + i := by omega
    rw [e]; exact this
  ·intro h
   refine ⟨by have := h 0 (by simp); simp only [Nat.add_zero] at this; exact this, fun i hi => ?_⟩
   have := h (i + 1) (by simpa using hi)
   simp only [List.getElem_cons_succ] at this
   have e : o + (i + 1) = o + 1 + i := by omega
   rw [e] at this; exact this
theorem reps_len {C : CellSet} {w : World} : ∀ (as : List AV) {mu : Mu} {vs : List Value}, Reps C w as mu vs → vs.length = as.length
 | [], _, _, h => by unfold Reps at h; subst h; rfl
 | a :: as, _, _, h => by
  unfold Reps at h
  obtain ⟨v, vs', rfl, _, h3⟩ := h
  simp [reps_len as h3]
theorem reps_iff {C : CellSet} {w : World} : ∀ (as : List AV) {mu : Mu} {vs : List Value},
  Reps C w as mu vs ↔ vs.length = as.length ∧ ∀ i (h : i < as.length) (h' : i < vs.length), Rep C w as[i] mu vs[i]
 | [], _, vs => by cases vs <;> simp [Reps]
 | a :: as, mu, vs => by
  unfold Reps
  constructor
  ·rintro ⟨v, vs', rfl, h2, h3⟩
   have := (reps_iff as).1 h3
   refine ⟨by simp [this.1], fun i h h' => ?_⟩
   cases i with
   | zero => simpa using h2
   | succ i => simpa using this.2 i (by simpa using h) (by simpa using h')
  ·rintro ⟨h1, h2⟩
   cases vs with
   | nil => simp at h1
   | cons v vs =>
    refine ⟨v, vs, rfl, h2 0 (by simp) (by simp), (reps_iff as).2 ⟨by simpa using h1, fun i h h' => ?_⟩⟩
    exact h2 (i + 1) (by simpa using h) (by simpa using h')
theorem reps_append {C : CellSet} {w : World} {mu : Mu} {as bs : List AV} {vs us : List Value} (h : Reps C w as mu vs) (k : Reps C w bs mu us) :
  Reps C w (as ++ bs) mu (vs ++ us) := by
 induction as generalizing vs with
 | nil => unfold Reps at h; subst h; simpa using k
 | cons a as ih =>
  unfold Reps at h
  obtain ⟨v, vs', rfl, h2, h3⟩ := h
  simp only [List.cons_append]
  unfold Reps
  exact ⟨v, _, rfl, h2, ih h3⟩
end Go.Av
namespace Go.Av
def glTab : List (Nat × List AV) := [(0, [.str [99, 97, 108, 101, 110, 100, 97, 114], .str [111, 112, 101, 114, 97, 116, 111, 114], .str [111, 102, 102, 105, 99, 101], .str [108, 105, 110, 101], .str [99, 108, 97, 115, 115], .str [122, 111, 110, 101], .str [119, 101, 101, 107], .str [104, 111, 108, 105, 100, 97, 121], .str [112, 111, 99, 107, 101, 116, 115], .str [112, 97, 115, 115, 101, 115], .str [109, 105, 110, 117, 116, 101, 115], .str [99, 111, 100, 101, 115], .str [97, 116], .str [116, 114, 97, 118, 101, 108], .str [108, 111, 97, 100], .str [99, 117, 116], .str [100, 101, 108, 105, 118, 101, 114]]),
 (1, [.str [45, 62], .str [123], .str [125], .str [40], .str [41], .str [91], .str [93], .str [44], .str [59], .str [58], .str [61], .str [46], .str [45]]),
 (2, [.str [99, 97, 108, 101, 110, 100, 97, 114], .str [111, 112, 101, 114, 97, 116, 111, 114], .str [111, 102, 102, 105, 99, 101], .str [108, 105, 110, 101], .str [99, 108, 97, 115, 115], .str [122, 111, 110, 101], .str [119, 101, 101, 107], .str [104, 111, 108, 105, 100, 97, 121], .str [112, 111, 99, 107, 101, 116, 115], .str [112, 97, 115, 115, 101, 115], .str [109, 105, 110, 117, 116, 101, 115], .str [99, 111, 100, 101, 115], .str [97, 116], .str [116, 114, 97, 118, 101, 108], .str [108, 111, 97, 100], .str [99, 117, 116], .str [100, 101, 108, 105, 118, 101, 114]]),
 (3, [.int .u64 1, .int .u64 10, .int .u64 100, .int .u64 1000, .int .u64 10000, .int .u64 100000, .int .u64 1000000, .int .u64 10000000, .int .u64 100000000, .int .u64 1000000000, .int .u64 10000000000, .int .u64 100000000000, .int .u64 1000000000000, .int .u64 10000000000000, .int .u64 100000000000000, .int .u64 1000000000000000, .int .u64 10000000000000000, .int .u64 100000000000000000, .int .u64 1000000000000000000, .int .u64 10000000000000000000]),
 (5, [.iface 167 .any]),
 (6, [.iface 167 .any])]
end Go.Av
set_option linter.unusedSimpArgs false
set_option linter.unusedVariables false
namespace Go.Av
structure Same (S : Nat → Prop) (w w' : World) : Prop where
 os : w'.os = w.os
 tape : w'.tape = w.tape
 output : w'.output = w.output
 size : w.heap.size ≤ w'.heap.size
 block : ∀ b, S b → w'.heap[b]? = w.heap[b]?
structure Inv where
 J : (Nat → Prop) → (Nat → Prop) → World → Prop
 stab : ∀ Sw Sr w w', J Sw Sr w → Same Sr w w' → J Sw Sr w'
 Cb : CellSet
 nb : Nat
inductive HO where
 | cells (cs : List AV)
 | arr (e : TypeId) (sz : Nat) (es : List AV)
 | dead
 | ghost (cs : List AV) (vs : List Value) (ms : List Nat)
 | inv (I : Inv)
 | map (ks vs : List AV)
inductive TK where
 | scalar | string | bool
 | int (k : IntKind)
 | struct (fs : List (Nat × Nat × Bool))      -- offset, size, an aggregate?
 | array (n esz : Nat) (eagg : Bool)
 | slice (e esz bytes : Nat) (eagg : Bool)
 | map (k v : Nat)
 | iface
structure TY where
 size : Nat
 agg : Bool
 zero : List AV
 k : TK
 eq : Option (List Nat)
def ofC : Value → AV
 | .int k n => bif (decide (k.min ≤ n) && decide (n ≤ k.max)) then .int k n else .any
 | .bool b => .lit b
 | .string s => bif Nat.ble s.data.toList.length 9223372036854775807 then .str s.data.toList else .any
 | v => .raw v
def isAggB (P : Program) (t : TypeId) : Bool := match P.underlying t with | some (.struct _) | some (.array _ _) => true | _ => false
def szOf (P : Program) (t : TypeId) : Nat := match P.underlying t with | some _ => P.cellsOf t | none => 0
def kindOf (P : Program) : TypeDesc → TK
 | .struct fs => .struct (fs.toList.map fun f => (f.offset, szOf P f.type, isAggB P f.type))
 | .array n e => .array n (szOf P e) (isAggB P e)
 | .slice e => .slice e (szOf P e) (P.bytesOf e) (isAggB P e)
 | .int k => .int k
 | .string => .string
 | .bool => .bool
 | .interface _ => .iface
 | .map k v => .map k v
 | _ => .scalar
def leavesFs (P : Program) (lf : TypeId → Option (List Nat)) : Nat → List Field → Option (List Nat)
 | _, [] => some []
 | off, f :: r => match lf f.type with
  | some l => bif Nat.beq f.offset off && f.name != "_" && Nat.beq (szOf P f.type) l.length && Nat.ble 1 l.length then (leavesFs P lf (off + l.length) r).map (l ++ ·) else none
  | none => none
def leavesOf (P : Program) : Nat → TypeId → Option (List Nat)
 | 0, _ => none
 | n + 1, t => match P.underlying t with
  | some .bool => some [0]
  | some (.int _) => some [1]
  | some .string => some [2]
  | some (.struct fs) => bif P.stoodInHeld t then none else leavesFs P (leavesOf P n) 0 fs.toList
  | _ => none
def eqOf (P : Program) (t : TypeId) : Option (List Nat) := bif P.eqGuardType P.depth t then none else leavesOf P 8 t
def zeroOf (ag : Bool) : Option Value → List AV
 | some (.agg cs) => bif ag then cs.toList.map ofC else []
 | some z => bif ag then [] else [ofC z]
 | none => []
theorem zeroOf_cases (ag : Bool) (o : Option Value) : zeroOf ag o = [] ∨ ∃ z, o = some z ∧ zeroOf ag o = z.cells.toList.map ofC ∧ ((ag = true ∧ ∃ cs, z = .agg cs) ∨ (ag = false ∧ z.cells = #[z])) := by
 cases o with
 | none => exact .inl rfl
 | some z =>
  cases ag <;> cases z <;> first | exact .inl rfl | exact .inr ⟨_, rfl, rfl, .inl ⟨rfl, _, rfl⟩⟩ | exact .inr ⟨_, rfl, rfl, .inr ⟨rfl, rfl⟩⟩
def viewTy (P : Program) (t : TypeId) : Option TY :=
 match P.info? t, P.underlying t with
 | some i, some d => some { size := i.size, agg := isAggB P t, zero := zeroOf (isAggB P t) i.zero, k := kindOf P d, eq := eqOf P t }
 | _, _ => none
def TOk (P : Program) (T : List TY) : Prop := ∀ t y, T[t]? = some y → viewTy P t = some y
@[irreducible] def Wr (k : IntKind) (n : Int) : Int := k.wrap n
theorem inK_Wr (k : IntKind) (n : Int) : inK k (Wr k n) := by
 unfold Wr inK IntKind.wrap IntKind.min IntKind.max
 cases k <;> simp [IntKind.signed, IntKind.bits] <;> (try split) <;> omega
theorem Wr_eq (k : IntKind) (n : Int) (h : inK k n) : Wr k n = n := by
 unfold Wr; unfold inK IntKind.min IntKind.max at h; unfold IntKind.wrap
 cases k <;> simp [IntKind.signed, IntKind.bits] at h ⊢ <;> (try split) <;> omega
theorem Wr64 (n : Int) (h : -9223372036854775808 ≤ n) (h' : n ≤ 9223372036854775807) : Wr .i64 n = n := Wr_eq _ _ (by unfold inK IntKind.min IntKind.max; simp [IntKind.signed, IntKind.bits]; omega)
theorem inK64 {n : Int} : inK .i64 n ↔ -9223372036854775808 ≤ n ∧ n ≤ 9223372036854775807 := by
 unfold inK IntKind.min IntKind.max; simp [IntKind.signed, IntKind.bits]
theorem inKu8 {n : Int} : inK .u8 n ↔ 0 ≤ n ∧ n ≤ 255 := by
 unfold inK IntKind.min IntKind.max; simp [IntKind.signed, IntKind.bits]
def AV.force (v : AV) (K : AV → Prop) : Prop :=
 match v with
 | .any => K .any
 | .int k n => K (.int k n)
 | .bool b => K (.bool b)
 | .lit b => K (.lit b)
 | .str l => K (.str l)
 | .sl sz es => K (.sl sz es)
 | .at_ cs => K (.at_ cs)
 | .fn f cap => K (.fn f cap)
 | .mv f cap => K (.mv f cap)
 | .iface t x => K (.iface t x)
 | .agg cs => K (.agg cs)
 | .tuple vs => K (.tuple vs)
 | .raw v => K (.raw v)
 | .ptr l o => K (.ptr l o)
 | .el l sz i o => K (.el l sz i o)
 | .own l sz lo n => K (.own l sz lo n)
 | .mp ks vs => K (.mp ks vs)
 | .om l => K (.om l)
theorem AV.force_iff (v : AV) (K : AV → Prop) : v.force K ↔ K v := by cases v <;> rfl
def lkK {α : Type} : List α → Nat → (α → Prop) → Prop
 | [], _, _ => False
 | x :: _, 0, K => K x
 | _ :: l, k + 1, K => lkK l k K
theorem lkK_iff {α : Type} : ∀ (l : List α) (k : Nat) (K : α → Prop), lkK l k K ↔ ∃ x, l[k]? = some x ∧ K x
 | [], _, _ => by simp [lkK]
 | x :: l, 0, K => by simp [lkK]
 | _ :: l, k + 1, K => by simp [lkK, lkK_iff l k K]
def updK {α : Type} : List α → Nat → α → (List α → Prop) → Prop
 | [], _, _, K => K []
 | _ :: l, 0, v, K => K (v :: l)
 | x :: l, k + 1, v, K => updK l k v fun l => K (x :: l)
theorem updK_iff {α : Type} : ∀ (l : List α) (k : Nat) (v : α) (K : List α → Prop), updK l k v K ↔ K (l.set k v)
 | [], _, _, _ => by simp [updK]
 | x :: l, 0, v, K => by simp [updK]
 | x :: l, k + 1, v, K => by simp [updK, updK_iff l k v]
def dropK {α : Type} : List α → Nat → (List α → Prop) → Prop
 | l, 0, K => K l
 | [], _ + 1, K => K []
 | _ :: l, k + 1, K => dropK l k K
theorem dropK_iff {α : Type} : ∀ (l : List α) (k : Nat) (K : List α → Prop), dropK l k K ↔ K (l.drop k)
 | [], 0, _ => by simp [dropK]
 | [], _ + 1, _ => by simp [dropK]
 | x :: l, 0, K => by simp [dropK]
 | x :: l, k + 1, K => by simp [dropK, dropK_iff l k]
def takeK {α : Type} : List α → Nat → (List α → Prop) → Prop
 | _, 0, K => K []
 | [], _ + 1, _ => False
 | x :: l, k + 1, K => takeK l k fun l => K (x :: l)
theorem takeK_iff {α : Type} : ∀ (l : List α) (k : Nat) (K : List α → Prop), takeK l k K ↔ k ≤ l.length ∧ K (l.take k)
 | _, 0, _ => by simp [takeK]
 | [], _ + 1, _ => by simp [takeK]
 | x :: l, k + 1, K => by simp [takeK, takeK_iff l k]
def snocK {α : Type} : List α → α → (List α → Nat → Prop) → Prop
 | [], v, K => K [v] 0
 | x :: l, v, K => snocK l v fun l n => K (x :: l) (n + 1)
theorem snocK_iff {α : Type} : ∀ (l : List α) (v : α) (K : List α → Nat → Prop), snocK l v K ↔ K (l ++ [v]) l.length
 | [], v, K => by simp [snocK]
 | x :: l, v, K => by simp [snocK, snocK_iff l v]
def putsK : List AV → Nat → List AV → (List AV → Prop) → Prop
 | l, _, [], K => K l
 | l, o, v :: vs, K => updK l o v fun l => putsK l (o + 1) vs K
def puts : List AV → Nat → List AV → List AV
 | l, _, [] => l
 | l, o, v :: vs => puts (l.set o v) (o + 1) vs
theorem putsK_iff : ∀ (vs l : List AV) (o : Nat) (K : List AV → Prop), putsK l o vs K ↔ K (puts l o vs)
 | [], _, _, _ => by simp [putsK, puts]
 | v :: vs, l, o, K => by simp [putsK, puts, updK_iff, putsK_iff vs]
def mapK {α β : Type} (f : α → (β → Prop) → Prop) : List α → (List β → Prop) → Prop
 | [], K => K []
 | x :: l, K => f x fun y => mapK f l fun ys => K (y :: ys)
theorem mapK_iff {α β : Type} (f : α → (β → Prop) → Prop) (g : α → β) (h : ∀ x K, f x K ↔ K (g x)) : ∀ (l : List α) (K : List β → Prop), mapK f l K ↔ K (l.map g)
 | [], _ => by simp [mapK]
 | x :: l, K => by simp [mapK, h, mapK_iff f g h l]
def evD (E : List AV) : Operand → AV
 | .tmp t => E.getD t .any
 | .const v => ofC v
 | .func f => .fn f []
 | .global g => .raw (.pointer (some ⟨g, 0, none⟩))
def lkA : List AV → Nat → (AV → Prop) → Prop
 | [], _, K => K .any
 | x :: _, 0, K => K x
 | _ :: l, k + 1, K => lkA l k K
theorem lkA_iff : ∀ (l : List AV) (k : Nat) (K : AV → Prop), lkA l k K ↔ K (l.getD k .any)
 | [], _, _ => by simp [lkA]
 | x :: l, 0, K => by simp [lkA]
 | _ :: l, k + 1, K => by simp [lkA, lkA_iff l k K]
def evK (E : List AV) (o : Operand) (K : AV → Prop) : Prop :=
 match o with
 | .tmp t => lkA E t K
 | .const v => (ofC v).force K
 | .func f => K (.fn f [])
 | .global g => K (.raw (.pointer (some ⟨g, 0, none⟩)))
theorem evK_iff (E : List AV) (o : Operand) (K : AV → Prop) : evK E o K ↔ K (evD E o) := by
 cases o <;> simp [evK, evD, lkA_iff, AV.force_iff]
def blkMu (mu : Mu) : Mu := fun l => match mu l with | some (.blk b) => some (.blk b) | _ => none
theorem blkMu_le (mu : Mu) : MuLe (blkMu mu) mu := fun l g h => by
 unfold blkMu at h
 split at h
 ·rename_i b hb; rw [hb]; exact h
 ·cases h
def MRel (ks vs : List AV) (es : List MapEntry) : Prop := ∀ C w, Reps C w ks Mu.none (es.map MapEntry.key) ∧ Reps C w vs Mu.none (es.map MapEntry.val)
def FzOK (cur : Array Value) (fz : Nat × Nat) : Prop := fz = (0, 0) ∨ fz = (cur.size, cur.size + 1)
def ABlk (w : World) (b : Nat) (cur : Array Value) (e : TypeId) : Prop := ∃ fz, w.heap[b]? = some (.cells cur e fz) ∧ FzOK cur fz
theorem ABlk.of_eq {w w' : World} {b : Nat} {cur : Array Value} {e : TypeId} (h : ABlk w b cur e) (he : w'.heap[b]? = w.heap[b]?) : ABlk w' b cur e := by
 obtain ⟨fz, h1, h2⟩ := h
 exact ⟨fz, he.trans h1, h2⟩
structure HeapRel (C : CellSet) (w : World) (fresh : Nat → Prop) (mu : Mu) (H : List HO) : Prop where
 dom : ∀ l g, mu l = some g → l < H.length
 fresh : ∀ l g b, mu l = some g → g.block? = some b → fresh b ∧ b < w.heap.size ∧ ∀ o, ¬ C b o
 sep : ∀ l g b l' g', mu l = some g → g.block? = some b → mu l' = some g' → g'.block? = some b → l' = l
 dead : ∀ l, H[l]? = some .dead → mu l = none
 recs : ∀ l cs, H[l]? = some (.cells cs) → ∃ b cur e, mu l = some (.blk b) ∧ w.heap[b]? = some (.cells cur e (0, 0)) ∧ Reps C w cs mu cur.toList ∧ ∀ v ∈ cur.toList, v.oneCell' = true
 arrs : ∀ l e sz es, H[l]? = some (.arr e sz es) → (∀ a ∈ es, a.cells.length = sz) ∧
  ((mu l = some (.arr (.slice none 0 0)) ∧ es = []) ∨ ∃ b cap cur, mu l = some (.arr (.slice (some ⟨b, 0, none⟩) es.length cap)) ∧
   ABlk w b cur e ∧ es.length ≤ cap ∧ cap ≤ 9223372036854775807 ∧ cur.size = cap * sz ∧
   Reps C w (flat es) (blkMu mu) (cur.toList.take (es.length * sz)) ∧ ∀ v ∈ cur.toList, v.oneCell' = true)
 maps : ∀ l ks vs, H[l]? = some (.map ks vs) → ∃ b es clock, mu l = some (.blk b) ∧ w.heap[b]? = some (.map es clock) ∧ MRel ks vs es.toList
structure COK (C : CellSet) (w : World) : Prop where
 lt : ∀ b o, C b o → b < w.heap.size
 gl : ∀ x ∈ glTab, Cells C w x.2 x.1 0
 gs : ∀ x ∈ glTab, x.2 ≠ [] → ∃ cur e fz, w.heap[x.1]? = some (.cells cur e fz) ∧ cur.size = x.2.length
structure GlOK (C0 : CellSet) (M0 : Nat → Prop) (W0 : World) : Prop where
 ok : COK C0 W0
 old : ∀ b o, C0 b o → ¬ M0 b
structure Cx where
 P : Program
 C0 : CellSet
 M0 : Nat → Prop
 W0 : World
 ds : List Deferred := []
 rds : List (Nat × Obj) := []
 rd : Option Nat := none
 pin : Nat → Nat → Prop := fun _ _ => False
 np : Nat := 0
 hrd : ∀ l, rd = some l → ∃ r, (l, Obj.loop r) ∈ rds := by intro l h; cases h
 gok : GlOK C0 M0 W0
def mark (D : Nat) : Deferred := { target := .collected D, args := #[] }
def dfr : Obj := .deferred (some [])
structure MarkOK (C : CellSet) (w : World) (fr : Nat → Prop) (mu : Mu) (D : Nat × Obj) : Prop where
 at_ : w.heap[D.1]? = some D.2
 imm : ∀ o, ¬ C D.1 o
 own : ∀ l g, mu l = some g → g.block? ≠ some D.1
 fr : fr D.1
structure Foot (C : CellSet) (w : World) (fr : Nat → Prop) (mu : Mu) (Cb : CellSet) (nb : Nat) (Sw Sr : Nat → Prop) : Prop where
 fr : ∀ b, Sw b → fr b
 base : nb ≤ w.heap.size
 cb : ∀ b o, C b o → Cb b o ∨ nb ≤ b
 ob : ∀ l g b, mu l = some g → g.block? = some b → nb ≤ b
 sub : ∀ b, Sw b → Sr b
 lt : ∀ b, Sr b → b < w.heap.size
 own : ∀ b, Sr b → ∀ l g, mu l = some g → g.block? ≠ some b
 imm : ∀ b o, Sw b → ¬ C b o
structure XRel (C : CellSet) (w : World) (fr : Nat → Prop) (mu : Mu) (H : List HO) (ds : List (Nat × Obj)) : Prop where
 ghosts : ∀ (l : Nat) cs vs ms, H[l]? = some (.ghost cs vs ms) → Reps C w cs mu vs ∧ ms.Nodup ∧ ∀ D ∈ ms, MarkOK C w fr mu (D, dfr) ∧ D ∉ ds.map Prod.fst
 invs : ∀ (l : Nat) I, H[l]? = some (.inv I) → l = 0 ∧ ∃ Sw Sr, Foot C w fr mu I.Cb I.nb Sw Sr ∧ I.J Sw Sr w ∧ (∀ D ∈ ds, ¬ Sr D.1) ∧ ∀ (l : Nat) cs vs ms, H[l]? = some (.ghost cs vs ms) → ∀ D ∈ ms, ¬ Sr D
 marks : ∀ D ∈ ds, MarkOK C w fr mu D
 nd : (ds.map Prod.fst).Nodup
 sep : ∀ (l l' : Nat) cs vs ms cs' vs' ms', H[l]? = some (.ghost cs vs ms) → H[l']? = some (.ghost cs' vs' ms') → l ≠ l' → ∀ D ∈ ms, D ∉ ms'
def Cx.fresh (G : Cx) (b : Nat) : Prop := G.W0.heap.size ≤ b ∨ G.M0 b
structure Keep (G : Cx) (w : World) : Prop where
 os : w.os = G.W0.os
 tape : w.tape = G.W0.tape
 output : w.output = G.W0.output
 size : G.W0.heap.size ≤ w.heap.size
 block : ∀ k, k < G.W0.heap.size → ¬ G.M0 k → w.heap[k]? = G.W0.heap[k]?
structure StC (G : Cx) (C : CellSet) (mu : Mu) (E : List AV) (H : List HO) (a : Act) (w : World) : Prop where
 c0 : ∀ b o, G.C0 b o → C b o
 c1 : ∀ b o, C b o → G.C0 b o ∨ G.fresh b
 lt : ∀ b o, C b o → b < w.heap.size
 heap : HeapRel C w G.fresh mu H
 env : Reps C w E mu a.tmps.toList
 defers : ∃ ms : List Nat, a.defers = ms.map mark ++ G.ds ∧ XRel C w G.fresh mu H (ms.map (fun D => (D, dfr)) ++ G.rds)
 keep : Keep G w
 pin : G.np ≤ H.length ∧ ∀ l b, l < G.np → G.pin l b → mu l = some (.blk b)
def St (G : Cx) (E : List AV) (H : List HO) (a : Act) (w : World) : Prop := ∃ C mu, StC G C mu E H a w
theorem StC.ext0 {G : Cx} {C : CellSet} {mu : Mu} {E : List AV} {H : List HO} {a : Act} {w : World} (h : StC G C mu E H a w) : Ext G.C0 C G.W0 w :=
 ⟨h.c0, fun b o hc => h.keep.block b (G.gok.ok.lt b o hc) (G.gok.old b o hc)⟩
theorem COK.mono {C C' : CellSet} {w w' : World} (h : COK C w) (hx : Ext C C' w w') (hl : ∀ b o, C' b o → b < w'.heap.size) : COK C' w' :=
 ⟨hl, fun x k => Cells.mono hx _ (h.gl x k), fun x k hn => by
  obtain ⟨cur, e, fz, h1, h2⟩ := h.gs x k hn
  have hc : C x.1 0 := by
   have := h.gl x k
   cases hx2 : x.2 with
   | nil => exact absurd hx2 hn
   | cons y ys => rw [hx2] at this; unfold Cells at this; obtain ⟨⟨v, _, hc, _⟩, _⟩ := this; exact hc.1
  exact ⟨cur, e, fz, by rw [hx.block _ _ hc]; exact h1, h2⟩⟩
theorem StC.cok {G : Cx} {C : CellSet} {mu : Mu} {E : List AV} {H : List HO} {a : Act} {w : World} (h : StC G C mu E H a w) : COK C w := G.gok.ok.mono h.ext0 h.lt
theorem rep_any {C : CellSet} {w : World} {mu : Mu} (v : Value) : Rep C w .any mu v := by unfold Rep; trivial
theorem rep_ofC {C : CellSet} {w : World} {mu : Mu} (v : Value) : Rep C w (ofC v) mu v := by
 unfold ofC
 split
 ·rename_i k n
  cases h : (decide (k.min ≤ n) && decide (n ≤ k.max)) with
  | true => simp at h; simp only [cond_true]; unfold Rep; exact ⟨rfl, h⟩
  | false => exact rep_any _
 ·unfold Rep; rfl
 ·rename_i s
  cases h : Nat.ble s.data.toList.length 9223372036854775807 with
  | true => simp only [cond_true]; unfold Rep; exact ⟨by simp, Nat.le_of_ble_eq_true h⟩
  | false => exact rep_any _
 ·unfold Rep; rfl
theorem Reps.get {C : CellSet} {w : World} {mu : Mu} {E : List AV} {vs : Array Value} (h : Reps C w E mu vs.toList) (t : Nat) :
  Rep C w (E.getD t .any) mu (vs.getD t undef) := by
 obtain ⟨h1, h2⟩ := (reps_iff E).1 h
 by_cases ht : t < E.length
 ·have ht' : t < vs.toList.length := by omega
  have := h2 t ht ht'
  simpa [List.getD, Array.getD, ht, show t < vs.size from by simpa using ht'] using this
 ·have : E.getD t .any = .any := by simp [List.getD, List.getElem?_eq_none (Nat.le_of_not_lt ht)]
  rw [this]; exact rep_any _
theorem rep_ev {C : CellSet} {w : World} {mu : Mu} {E : List AV} {a : Act} (h : Reps C w E mu a.tmps.toList) (o : Operand) : Rep C w (evD E o) mu (a.eval o) := by
 cases o with
 | tmp t => exact h.get t
 | const v => exact rep_ofC v
 | global g => unfold evD Rep; rfl
 | func f => unfold evD Rep; exact ⟨[], by simp [Act.eval], by unfold Reps; rfl⟩
theorem Reps.put {C : CellSet} {w : World} {mu : Mu} {E : List AV} {vs : Array Value} (h : Reps C w E mu vs.toList) (t : Nat) {x : AV} {v : Value} (hv : Rep C w x mu v) :
  Reps C w (E.set t x) mu (vs.setIfInBounds t v).toList := by
 obtain ⟨h1, h2⟩ := (reps_iff E).1 h
 refine (reps_iff _).2 ⟨by simp_all, fun i hi hi' => ?_⟩
 simp only [Array.toList_setIfInBounds, List.getElem_set]
 split
 ·exact hv
 ·exact h2 i (by simpa using hi) (by simpa using hi')
def updO (E : List AV) (d : Option Tmp) (x : AV) : List AV := match d with | some d => E.set d x | none => E
theorem reps_put {C : CellSet} {w : World} {mu : Mu} {E : List AV} {a : Act} (h : Reps C w E mu a.tmps.toList) (d : Option Tmp) {x : AV} {v : Value} (hv : Rep C w x mu v) :
  Reps C w (updO E d x) mu (a.put d v).tmps.toList := by
 cases d with
 | none => exact h
 | some d => exact h.put d hv
theorem put_defers (a : Act) (d : Option Tmp) (v : Value) : (a.put d v).defers = a.defers := by cases d <;> rfl
theorem TOk.facts {P : Program} {T : List TY} (h : TOk P T) {t : TypeId} {y : TY} (e : T[t]? = some y) : ∃ i d, P.info? t = some i ∧ P.underlying t = some d ∧
  y = { size := i.size, agg := isAggB P t, zero := zeroOf (isAggB P t) i.zero, k := kindOf P d, eq := eqOf P t } := by
 have h := h t y e
 unfold viewTy at h
 split at h
 ·rename_i i d hi hd
  exact ⟨i, d, hi, hd, by simpa using h.symm⟩
 ·cases h
theorem TOk.slice {P : Program} {T : List TY} (h : TOk P T) {t : TypeId} {y : TY} (e : T[t]? = some y) {el sz by' : Nat} {ag : Bool} (hk : y.k = .slice el sz by' ag) :
  P.underlying t = some (.slice el) ∧ szOf P el = sz ∧ P.bytesOf el = by' ∧ isAggB P el = ag := by
 obtain ⟨i, d, h1, h2, rfl⟩ := h.facts e
 cases d <;> simp_all [kindOf] <;> (obtain ⟨rfl, h⟩ := hk; exact h)
theorem TOk.struct {P : Program} {T : List TY} (h : TOk P T) {t : TypeId} {y : TY} (e : T[t]? = some y) {fs : List (Nat × Nat × Bool)} (hk : y.k = .struct fs) :
  ∃ fields, P.underlying t = some (.struct fields) ∧ fs = fields.toList.map fun f => (f.offset, szOf P f.type, isAggB P f.type) := by
 obtain ⟨i, d, h1, h2, rfl⟩ := h.facts e
 cases d <;> simp_all [kindOf]
theorem TOk.string {P : Program} {T : List TY} (h : TOk P T) {t : TypeId} {y : TY} (e : T[t]? = some y) (hk : y.k = .string) : P.underlying t = some .string := by
 obtain ⟨i, d, h1, h2, rfl⟩ := h.facts e
 cases d <;> simp_all [kindOf]
theorem TOk.bool {P : Program} {T : List TY} (h : TOk P T) {t : TypeId} {y : TY} (e : T[t]? = some y) (hk : y.k = .bool) : P.underlying t = some .bool := by
 obtain ⟨i, d, h1, h2, rfl⟩ := h.facts e
 cases d <;> simp_all [kindOf]
theorem TOk.int {P : Program} {T : List TY} (h : TOk P T) {t : TypeId} {y : TY} (e : T[t]? = some y) {k : IntKind} (hk : y.k = .int k) : P.underlying t = some (.int k) := by
 obtain ⟨i, d, h1, h2, rfl⟩ := h.facts e
 cases d <;> simp_all [kindOf]
theorem szOf_pos {P : Program} {t : TypeId} {n : Nat} (h : szOf P t = n + 1) : ∃ i d, P.info? t = some i ∧ P.underlying t = some d ∧ i.size = n + 1 := by
 unfold szOf at h
 split at h
 ·rename_i d hd
  unfold Program.cellsOf at h
  cases hi : P.info? t with
  | none => simp [hi] at h
  | some i => exact ⟨i, d, rfl, hd, by simpa [hi] using h⟩
 ·cases h
end Go.Av
set_option linter.unusedSimpArgs false
set_option linter.unusedVariables false
namespace Go.Av
def kEq (a b : IntKind) : Bool :=
 match a, b with
 | .i8, .i8 | .i16, .i16 | .i32, .i32 | .i64, .i64 | .u8, .u8 | .u16, .u16 | .u32, .u32 | .u64, .u64 => true
 | _, _ => false
theorem kEq_eq {a b : IntKind} (h : kEq a b = true) : a = b := by cases a <;> cases b <;> simp_all [kEq]
def bitsR (op : BinOp) (k : IntKind) (x y : Int) : Int :=
 let a := BitVec.ofInt k.bits x
 let b := BitVec.ofInt k.bits y
 match op with
 | .and => (a &&& b).toNat
 | .or => (a ||| b).toNat
 | .xor => (a ^^^ b).toNat
 | _ => (a &&& ~~~b).toNat
def intK (op : BinOp) (k : IntKind) (m n : Int) (K : AV → Prop) : Prop :=
 match op with
 | .add => K (.int k (Wr k (m + n)))
 | .sub => K (.int k (Wr k (m - n)))
 | .mul => K (.int k (Wr k (m * n)))
 | .quo => n ≠ 0 ∧ K (.int k (Wr k (m.tdiv n)))
 | .rem => n ≠ 0 ∧ K (.int k (m.tmod n))
 | .eql => K (.bool (decide (m = n)))
 | .neq => K (.bool (!decide (m = n)))
 | .lss => K (.bool (decide (m < n)))
 | .leq => K (.bool (decide (m ≤ n)))
 | .gtr => K (.bool (decide (n < m)))
 | .geq => K (.bool (decide (n ≤ m)))
 | .and => K (.int k (Wr k (bitsR .and k m n)))
 | .or => K (.int k (Wr k (bitsR .or k m n)))
 | .xor => K (.int k (Wr k (bitsR .xor k m n)))
 | .andNot => K (.int k (Wr k (bitsR .andNot k m n)))
 | _ => False
def strK (op : BinOp) (p q : List UInt8) (K : AV → Prop) : Prop :=
 match op with
 | .add => p.length + q.length ≤ 9223372036854775807 ∧ K (.str (p ++ q))
 | .eql => K (.bool (p == q))
 | .neq => K (.bool (!(p == q)))
 | .lss => K (.bool (Op.bytesLess p q))
 | .leq => K (.bool (Op.bytesLess p q || p == q))
 | .gtr => K (.bool (!(Op.bytesLess p q || p == q)))
 | .geq => K (.bool (!Op.bytesLess p q))
 | _ => False
def boolK (op : BinOp) (p q : Bool) (K : AV → Prop) : Prop :=
 match op with
 | .eql => K (.bool (p == q))
 | .neq => K (.bool (!(p == q)))
 | _ => False
def leafK (k : Nat) (a b : AV) (K : Bool → Prop) : Prop :=
 match k with
 | 0 => (match a with
  | .bool p => (match b with | .bool q => K (p == q) | .lit q => K (p == q) | _ => False)
  | .lit p => (match b with | .bool q => K (p == q) | .lit q => K (p == q) | _ => False)
  | _ => False)
 | 1 => (match a with
  | .int k m => (match b with | .int k' n => (match kEq k k' with | true => K (decide (m = n)) | false => False) | _ => False)
  | _ => False)
 | 2 => (match a with
  | .str p => (match b with | .str q => K (decide (p = q)) | _ => False)
  | _ => False)
 | _ => False
def eqLK : List Nat → List AV → List AV → (Bool → Prop) → Prop
 | [], [], [], K => K true
 | k :: ls, a :: xs, b :: ys, K => leafK k a b fun p => eqLK ls xs ys fun r => K (p && r)
 | _, _, _, _ => False
def aggEqK (T : List TY) (op : BinOp) (t : TypeId) (cs ds : List AV) (K : AV → Prop) : Prop :=
 lkK T t fun y => match y.agg with
  | true => (match y.eq with
   | some ls => (match op with
    | .eql => eqLK ls cs ds fun r => K (.bool r)
    | .neq => eqLK ls cs ds fun r => K (.bool (!r))
    | _ => False)
   | none => False)
  | false => False
def binK (T : List TY) (op : BinOp) (t : TypeId) (a b : AV) (K : AV → Prop) : Prop :=
 match a with
 | .int k m => match b with | .int k' n => (match kEq k k' with | true => intK op k m n K | false => False) | _ => False
 | .bool p => match b with
  | .bool q => lkK T t fun y => (match y.k with | .bool => boolK op p q K | _ => False)
  | .lit q => lkK T t fun y => (match y.k with | .bool => boolK op p q K | _ => False)
  | _ => False
 | .lit p => match b with
  | .bool q => lkK T t fun y => (match y.k with | .bool => boolK op p q K | _ => False)
  | .lit q => lkK T t fun y => (match y.k with | .bool => boolK op p q K | _ => False)
  | _ => False
 | .str p => match b with | .str q => strK op p q K | _ => False
 | .agg cs => match b with | .agg ds => aggEqK T op t cs ds K | _ => False
 | _ => False
def unK (op : UnOp) (a : AV) (K : AV → Prop) : Prop :=
 match op with
 | .neg => match a with | .int k n => K (.int k (Wr k (0 - n))) | _ => False
 | .not => match a with | .bool b => K (.bool (!b)) | .lit b => (match b with | true => K (.lit false) | false => K (.lit true)) | _ => False
 | _ => False
def ldK (T : List TY) (t : TypeId) (cs : List AV) (K : AV → Prop) : Prop :=
 lkK T t fun y => match y.agg with
  | true => takeK cs y.size fun cs => K (.agg cs)
  | false => match cs with | c :: _ => c.force K | [] => False
def cellsK (v : AV) (K : List AV → Prop) : Prop :=
 match v with
 | .agg cs => K cs
 | .int k n => K [.int k n]
 | .bool b => K [.bool b]
 | .lit b => K [.lit b]
 | .str l => K [.str l]
 | .sl sz es => K [.sl sz es]
 | .at_ cs => K [.at_ cs]
 | .fn f cap => K [.fn f cap]
 | .mv f cap => K [.mv f cap]
 | .iface t x => K [.iface t x]
 | .tuple vs => K [.tuple vs]
 | .raw v => K [.raw v]
 | .ptr l o => K [.ptr l o]
 | .el l sz i o => K [.el l sz i o]
 | .own l sz lo n => K [.own l sz lo n]
 | .mp ks vs => K [.mp ks vs]
 | .om l => K [.om l]
 | .any => K [.any]
theorem cellsK_iff (v : AV) (K : List AV → Prop) : cellsK v K ↔ K v.cells := by cases v <;> rfl
def loadK (T : List TY) (H : List HO) (t : TypeId) (p : AV) (K : AV → Prop) : Prop :=
 match p with
 | .at_ cs => ldK T t cs K
 | .ptr l o => lkK H l fun ob => match ob with | .cells cs => dropK cs o fun cs => ldK T t cs K | _ => False
 | .el l sz i o => lkK H l fun ob => match ob with
  | .arr _ sz' es => (match Nat.beq sz sz' with
   | true => ∃ v, es[i]? = some v ∧ cellsK v fun cs => dropK cs o fun cs => ldK T t cs K
   | false => False)
  | _ => False
 | _ => False
def indexAddrK (T : List TY) (H : List HO) (t : TypeId) (x i : AV) (K : AV → Prop) : Prop :=
 match x with
 | .sl sz es => lkK T t fun y => (match y.k with
  | .slice _ esz _ _ => (match Nat.beq esz sz && Nat.ble 1 sz with
   | true => (match i with
    | .int _ n => 0 ≤ n ∧ ∃ v, es[n.toNat]? = some v ∧ cellsK v fun cs => K (.at_ cs)
    | _ => False)
   | false => False)
  | _ => False)
 | .own l sz lo m => lkK T t fun y => (match y.k with
  | .slice _ esz _ _ => lkK H l fun ob => (match ob with
   | .arr _ sz' _ => (match Nat.beq esz sz && Nat.ble 1 sz && Nat.beq sz sz' with
    | true => (match i with
     | .int _ n => (0 ≤ n ∧ n < m) ∧ K (.el l sz (lo + n.toNat) 0)
     | _ => False)
    | false => False)
   | _ => False)
  | _ => False)
 | .ptr l o => lkK T t fun y => (match y.k with
  | .array n sz _ => (match Nat.ble 1 sz with
   | true => (match i with
    | .int _ m => (0 ≤ m ∧ m < n) ∧ K (.ptr l (o + m.toNat * sz))
    | _ => False)
   | false => False)
  | _ => False)
 | _ => False
def indexK (T : List TY) (t : TypeId) (x i : AV) (K : AV → Prop) : Prop :=
 match x with
 | .str l => lkK T t fun y => match y.k with
  | .string => match i with
   | .int _ n => (0 ≤ n ∧ n < l.length) ∧ K (.int .u8 (l.getD n.toNat 0).toNat)
   | _ => False
  | _ => False
 | .agg cs => lkK T t fun y => match y.k with
  | .array n sz ag => (match Nat.beq sz 1 && !ag with
   | true => (match i with | .int _ m => (0 ≤ m ∧ m < n) ∧ ∃ v, cs[m.toNat]? = some v ∧ K v | _ => False)
   | false => (match ag && Nat.ble 1 sz && Nat.beq cs.length (n * sz) with
    | true => (match i with | .int _ m => (0 ≤ m ∧ m < n) ∧ K (.agg ((cs.drop (m.toNat * sz)).take sz)) | _ => False)
    | false => False))
  | _ => False
 | _ => False
def fieldAddrK (T : List TY) (t : TypeId) (x : AV) (f : Nat) (K : AV → Prop) : Prop :=
 lkK T t fun y => match y.k with
  | .struct fs => lkK fs f fun (off, size, _) => match size with
   | 0 => False
   | _ + 1 => match x with
    | .at_ cs => dropK cs off fun cs => K (.at_ cs)
    | .ptr l o => K (.ptr l (o + off))
    | .el l sz i o => K (.el l sz i (o + off))
    | .raw v => (match v with | .pointer p => (match p with | some ⟨b, o, none⟩ => K (.raw (.pointer (some ⟨b, o + off, none⟩))) | _ => False) | _ => False)
    | _ => False
  | _ => False
def fieldK (T : List TY) (t : TypeId) (x : AV) (f : Nat) (K : AV → Prop) : Prop :=
 lkK T t fun y => match y.k with
  | .struct fs => lkK fs f fun (off, size, agg) => match x with
   | .agg cs => dropK cs off fun cs => (match agg with
    | true => takeK cs size fun cs => K (.agg cs)
    | false => match size with | 0 => False | _ + 1 => match cs with | c :: _ => c.force K | [] => False)
   | _ => False
  | _ => False
def lenK (T : List TY) (t : TypeId) (x : AV) (K : AV → Prop) : Prop :=
 lkK T t fun y => match y.k with
  | .slice _ _ _ _ => match x with
   | .sl _ es => K (.int .i64 es.length)
   | .own _ _ _ n => K (.int .i64 n)
   | .raw (.slice none 0 0) => K (.int .i64 0)
   | _ => False
  | .string => match x with
   | .str l => K (.int .i64 l.length)
   | _ => False
  | _ => False
def convK (T : List TY) (s d : TypeId) (x : AV) (K : AV → Prop) : Prop :=
 match x with
 | .int _ n => lkK T s fun _ => lkK T d fun y => match y.k with | .int k => K (.int k (Wr k n)) | .string => (0 ≤ n ∧ n < 128) ∧ K (.str [UInt8.ofNat n.toNat]) | _ => False
 | .str l => lkK T s fun _ => lkK T d fun y => match y.k with | .string => K (.str l) | _ => False
 | _ => False
def optK (o : Option AV) (d : Int) (K : Int → Prop) : Prop :=
 match o with
 | none => K d
 | some v => match v with | .int _ n => K n | _ => False
def sliceK (T : List TY) (t : TypeId) (x : AV) (lo hi : Option AV) (K : AV → Prop) : Prop :=
 match x with
 | .str l => lkK T t fun y => match y.k with
  | .string => optK lo 0 fun a => optK hi l.length fun b => (0 ≤ a ∧ a ≤ b ∧ b ≤ l.length) ∧ K (.str ((l.take b.toNat).drop a.toNat))
  | _ => False
 | .sl sz es => lkK T t fun y => match y.k with
  | .slice _ esz _ _ => match Nat.beq esz sz && Nat.ble 1 sz with
   | true => optK lo 0 fun a => optK hi es.length fun b => (0 ≤ a ∧ a ≤ b ∧ b ≤ es.length) ∧ K (.sl sz ((es.take b.toNat).drop a.toNat))
   | false => False
  | _ => False
 | .own l sz p n => lkK T t fun y => match y.k with
  | .slice _ esz _ _ => match Nat.beq esz sz && Nat.ble 1 sz with
   | true => optK lo 0 fun a => optK hi n fun b => (0 ≤ a ∧ a ≤ b ∧ b ≤ n ∧ (a < n ∨ a = 0)) ∧ K (.own l sz (p + a.toNat) (b.toNat - a.toNat))
   | false => False
  | _ => False
 | _ => False
def minK (a b : AV) (K : AV → Prop) : Prop :=
 match a with
 | .int k m => (match b with
  | .int k' n => (match kEq k k' with | true => K (.int k (min m n)) | false => False)
  | _ => False)
 | _ => False
def ifcK (T : List TY) (op : BinOp) (t : TypeId) (r : Bool) (K : AV → Prop) : Prop :=
 lkK T t fun y => match y.k with
  | .iface => (match op with
   | .eql => (match r with | true => K (.lit true) | false => K (.lit false))
   | .neq => (match r with | true => K (.lit false) | false => K (.lit true))
   | _ => False)
  | _ => False
def isCo (o : Operand) : Bool := match o with | .const _ => true | _ => false
def nilK (T : List TY) (op : BinOp) (t : TypeId) (a b : AV) (c : Bool) (K : AV → Prop) : Prop :=
 match a with
 | .iface _ _ => (match b with
  | .raw v => (match v with | .nilIface => ifcK T op t false K | _ => False)
  | _ => False)
 | .raw u => (match u with
  | .nilIface => (match b with
   | .raw v => (match v with
    | .nilIface => (match c with | true => ifcK T op t true K | false => False)
    | _ => False)
   | .iface _ _ => ifcK T op t false K
   | _ => False)
  | _ => False)
 | a => binK T op t a b K
def zeroVK (T : List TY) (e : TypeId) (K : AV → Prop) : Prop :=
 lkK T e fun y => match y.agg with
  | true => (match y.zero with | [] => False | z :: zs => K (.agg (z :: zs)))
  | false => match y.zero with | [z] => z.force K | _ => False
def keyEq (k a : AV) : Bool := match k with
 | .str p => (match a with | .str q => p == q | _ => false)
 | .int i m => (match a with | .int j n => kEq i j && decide (m = n) | _ => false)
 | _ => false
def keyLike (k a : AV) : Bool := match k with
 | .str _ => (match a with | .str _ => true | _ => false)
 | .int i _ => (match a with | .int j _ => kEq i j | _ => false)
 | _ => false
def keyOK (d : TK) (k : AV) : Bool := match d with
 | .string => (match k with | .str _ => true | _ => false)
 | .int i => (match k with | .int j _ => kEq i j | _ => false)
 | _ => false
def midx (k : AV) : List AV → Option Nat
 | [] => none
 | a :: ks => bif keyEq k a then some 0 else (midx k ks).map (· + 1)
def mget (k : AV) (ks vs : List AV) : Option AV := (midx k ks).bind (vs[·]?)
def mkeys (k : AV) (ks : List AV) : List AV := match midx k ks with | none => ks ++ [k] | some _ => ks
def mvals (k v : AV) (ks vs : List AV) : List AV := match midx k ks with | none => vs ++ [v] | some i => vs.set i v
def mapOfK (H : List HO) (x : AV) (K : List AV → List AV → Prop) : Prop := match x with
 | .mp ks vs => K ks vs
 | .om l => lkK H l fun ob => (match ob with | .map ks vs => K ks vs | _ => False)
 | _ => False
def lookupK (T : List TY) (H : List HO) (t : TypeId) (x k : AV) (ok : Bool) (K : AV → Prop) : Prop :=
 lkK T t fun y => match y.k with
  | .map kt vt => lkK T kt fun yk => (match keyOK yk.k k with
   | true => mapOfK H x fun ks vs => (∀ a ∈ ks, keyLike k a = true) ∧
    ((mget k ks vs = none → zeroVK T vt fun z => (match ok with | true => K (.tuple [z, .lit false]) | false => z.force K)) ∧
     ∀ v, mget k ks vs = some v → (match ok with | true => K (.tuple [v, .lit true]) | false => K v))
   | false => False)
  | _ => False
def pureK (T : List TY) (E : List AV) (H : List HO) (o : Op) (K : AV → Prop) : Prop :=
 match o with
 | .move x => evK E x K
 | .assign x => evK E x K
 | .pick c a b => evK E c fun v => match v with
  | .lit t => (match t with | true => evK E a K | false => evK E b K)
  | _ => False
 | .binOp op t x y _ => evK E x fun u => evK E y fun v => nilK T op t u v (isCo x || isCo y) K
 | .unOp op _ x => evK E x fun u => unK op u K
 | .load t x => evK E x fun u => loadK T H t u K
 | .fieldAddr t x f => evK E x fun u => fieldAddrK T t u f K
 | .field t x f => evK E x fun u => fieldK T t u f K
 | .indexAddr t x i => evK E x fun u => evK E i fun v => indexAddrK T H t u v K
 | .index t x i => evK E x fun u => evK E i fun v => indexK T t u v K
 | .convert s d x => evK E x fun u => convK T s d u K
 | .extract x i => evK E x fun u => match u with
  | .tuple vs => lkK vs i fun v => v.force K
  | _ => False
 | .nilCheck x => evK E x fun u => match u with
  | .at_ cs => K (.at_ cs)
  | .ptr l o => K (.ptr l o)
  | .el l sz i o => K (.el l sz i o)
  | .fn f cap => K (.fn f cap)
  | .mv f cap => K (.mv f cap)
  | .raw v => (match v with | .pointer p => (match p with | some a => K (.raw (.pointer (some a))) | _ => False) | _ => False)
  | _ => False
 | .makeFunc fn first cap => match fn with
  | .func f => (match first.toList with
   | [] => mapK (evK E) cap.toList fun cs => K (.fn f cs)
   | _ :: _ => (match cap.toList with
    | [] => mapK (evK E) first.toList fun fs => K (.mv f fs)
    | _ :: _ => False))
  | _ => False
 | .makeInterface t x => evK E x fun u => lkK T t fun y => match y.k with
  | .iface => False
  | _ => K (.iface t u)
 | .slice t x lo hi mx => match mx with
  | none => evK E x fun u => (match lo, hi with
   | none, none => sliceK T t u none none K
   | some l, none => evK E l fun l => sliceK T t u (some l) none K
   | none, some h => evK E h fun h => sliceK T t u none (some h) K
   | some l, some h => evK E l fun l => evK E h fun h => sliceK T t u (some l) (some h) K)
  | some _ => False
 | .call c => match c.callee with
  | .builtin .len => (match c.args.toList with
   | [x] => (match c.argTypes.toList with
    | [t] => evK E x fun u => lenK T t u K
    | _ => False)
   | _ => False)
  | .builtin .min => (match c.args.toList with
   | [x, y] => evK E x fun u => evK E y fun v => minK u v K
   | _ => False)
  | _ => False
 | .lookup t x i ok => evK E x fun u => evK E i fun v => lookupK T H t u v ok K
 | _ => False
end Go.Av
set_option linter.unusedSimpArgs false
set_option linter.unusedVariables false
namespace Go.Av
section
variable {P : Program} {C : CellSet} {w : World} {mu : Mu}
theorem rep_int {k : IntKind} {n : Int} (h : inK k n) : Rep C w (.int k n) mu (.int k n) := by unfold Rep; exact ⟨rfl, h⟩
theorem rep_bool {b : Bool} : Rep C w (.bool b) mu (.bool b) := by unfold Rep; rfl
theorem rep_str {l : List UInt8} (h : l.length ≤ 9223372036854775807) : Rep C w (.str l) mu (.string ⟨l.toArray⟩) := by unfold Rep; exact ⟨rfl, h⟩
theorem rep_int_inv {k : IntKind} {n : Int} {v : Value} (h : Rep C w (.int k n) mu v) : v = .int k n ∧ inK k n := by unfold Rep at h; exact h
theorem rep_bool_inv {b : Bool} {v : Value} (h : Rep C w (.bool b) mu v) : v = .bool b := by unfold Rep at h; exact h
theorem rep_lit_inv {b : Bool} {v : Value} (h : Rep C w (.lit b) mu v) : v = .bool b := by unfold Rep at h; exact h
theorem rep_lit {b : Bool} : Rep C w (.lit b) mu (.bool b) := by unfold Rep; rfl
theorem rep_str_inv {l : List UInt8} {v : Value} (h : Rep C w (.str l) mu v) : v = .string ⟨l.toArray⟩ ∧ l.length ≤ 9223372036854775807 := by unfold Rep at h; exact h
theorem inK_tmod {k : IntKind} {m : Int} (n : Int) (h : inK k m) : inK k (m.tmod n) := by
 have h0 : k.min ≤ 0 := by cases k <;> simp [IntKind.min, IntKind.signed, IntKind.bits]
 have h1 : 0 ≤ k.max := by cases k <;> simp [IntKind.max, IntKind.signed, IntKind.bits]
 obtain ⟨ha, hb⟩ := h
 unfold inK
 have hle : (m.tmod n).natAbs ≤ m.natAbs := by rw [Int.natAbs_tmod]; exact Nat.mod_le _ _
 rcases Int.le_total 0 m with hm | hm
 ·have e1 : 0 ≤ m.tmod n := Int.tmod_nonneg _ hm
  omega
 ·have e1 : m.tmod n = -((-m).tmod n) := by simp
  have e3 : 0 ≤ (-m).tmod n := Int.tmod_nonneg _ (by omega)
  omega
theorem run_equal_bool {t : TypeId} (a b : Bool) (hu : P.underlying t = some .bool) : (Op.equal t (.bool a) (.bool b)).run P w = .ok (a == b) w := by
 have h : ∀ d, (Op.equalIn (d + 1) t (.bool a) (.bool b)).run P w = .ok (a == b) w := fun d => by simp [Op.equalIn, run_underlying hu]
 exact h 9999
theorem size_of_list (l : List UInt8) : (⟨l.toArray⟩ : ByteArray).size = l.length := by simp [ByteArray.size]
theorem bool_case {op : BinOp} {t : TypeId} {u v : Value} {p q : Bool} {K : AV → Prop} {T : List TY} (hT : TOk P T) (hx : u = .bool p) (hy : v = .bool q)
  (h : lkK T t fun y => (match y.k with | .bool => boolK op p q K | _ => False)) : ∃ r z, K r ∧ Rep C w r mu z ∧ (binOp op t u v).run P w = .ok z w := by
 subst hx; subst hy
 replace h := (lkK_iff _ _ _).1 h; obtain ⟨y, hy, h⟩ := h
 split at h
 ·rename_i hb
  have hu := (hT.bool hy hb)
  unfold boolK at h
  cases op <;> simp only [] at h
  case eql => exact ⟨_, _, h, rep_bool, by rw [binOp.eq_def]; simp [run_equal_bool _ _ hu]⟩
  case neq => exact ⟨_, _, h, rep_bool, by rw [binOp.eq_def]; simp [run_equal_bool _ _ hu]⟩
 ·exact h.elim
theorem run_isAgg0 {t : TypeId} {d : TypeDesc} (h : P.underlying t = some d) : (isAgg t).run P w = .ok (isAggB P t) w := by
 unfold isAgg isAggB
 simp only [Sem.run_bind, run_underlying h, Result.andThen_ok, h]
 cases d <;> simp
theorem run_sizeOf0 {t : TypeId} {n : Nat} (h : szOf P t = n) (hp : 1 ≤ n) : (sizeOf t).run P w = .ok n w := by
 unfold szOf at h
 cases hu : P.underlying t with
 | none => simp [hu] at h; omega
 | some d =>
  simp only [hu] at h
  unfold Program.cellsOf at h
  cases hi : P.info? t with
  | none => simp [hi] at h; omega
  | some i => simp [hi] at h; simp [sizeOf, typeInfo, hi, h]
def LV (k : Nat) (u v : Value) (r : Bool) : Prop :=
 match k with
 | 0 => ∃ p q, u = .bool p ∧ v = .bool q ∧ r = (p == q)
 | 1 => ∃ k m n, u = .int k m ∧ v = .int k n ∧ r = decide (m = n)
 | 2 => ∃ p q : List UInt8, u = .string ⟨p.toArray⟩ ∧ v = .string ⟨q.toArray⟩ ∧ r = decide (p = q)
 | _ => False
def VEq : List Nat → List Value → List Value → Bool → Prop
 | [], _, _, r => r = true
 | k :: ls, u :: us, v :: vs, r => ∃ a b, r = (a && b) ∧ LV k u v a ∧ VEq ls us vs b
 | _ :: _, _, _, _ => False
theorem leaf_ok {k : Nat} {x y : AV} {u v : Value} {K : Bool → Prop} (hx : Rep C w x mu u) (hy : Rep C w y mu v) (h : leafK k x y K) : ∃ r, K r ∧ LV k u v r := by
 unfold leafK at h
 split at h
 ·split at h
  ·obtain rfl := rep_bool_inv hx
   split at h
   ·obtain rfl := rep_bool_inv hy; exact ⟨_, h, _, _, rfl, rfl, rfl⟩
   ·obtain rfl := rep_lit_inv hy; exact ⟨_, h, _, _, rfl, rfl, rfl⟩
   ·exact h.elim
  ·obtain rfl := rep_lit_inv hx
   split at h
   ·obtain rfl := rep_bool_inv hy; exact ⟨_, h, _, _, rfl, rfl, rfl⟩
   ·obtain rfl := rep_lit_inv hy; exact ⟨_, h, _, _, rfl, rfl, rfl⟩
   ·exact h.elim
  ·exact h.elim
 ·split at h
  ·split at h
   ·split at h
    ·rename_i hk
     obtain ⟨rfl, _⟩ := rep_int_inv hx
     obtain ⟨rfl, _⟩ := rep_int_inv hy
     obtain rfl := kEq_eq hk
     exact ⟨_, h, _, _, _, rfl, rfl, rfl⟩
    ·exact h.elim
   ·exact h.elim
  ·exact h.elim
 ·split at h
  ·split at h
   ·obtain ⟨rfl, _⟩ := rep_str_inv hx
    obtain ⟨rfl, _⟩ := rep_str_inv hy
    exact ⟨_, h, _, _, rfl, rfl, rfl⟩
   ·exact h.elim
  ·exact h.elim
 ·exact h.elim
theorem eqL_ok : ∀ (ls : List Nat) (xs ys : List AV) {us vs : List Value} {K : Bool → Prop}, Reps C w xs mu us → Reps C w ys mu vs → eqLK ls xs ys K → ∃ r, K r ∧ VEq ls us vs r ∧ us.length = ls.length ∧ vs.length = ls.length
 | [], [], [], us, vs, K, hx, hy, h => by
  unfold Reps at hx hy; subst hx; subst hy
  exact ⟨true, h, rfl, rfl, rfl⟩
 | k :: ls, a :: xs, b :: ys, us, vs, K, hx, hy, h => by
  unfold Reps at hx hy
  obtain ⟨u, us', rfl, h1, h2⟩ := hx
  obtain ⟨v, vs', rfl, h3, h4⟩ := hy
  obtain ⟨p, h, hp⟩ := leaf_ok h1 h3 h
  obtain ⟨r, h, hr, e1, e2⟩ := eqL_ok ls xs ys h2 h4 h
  exact ⟨_, h, ⟨p, r, rfl, hp, hr⟩, by simp [e1], by simp [e2]⟩
 | [], [], _ :: _, _, _, _, _, _, h => h.elim
 | [], _ :: _, _, _, _, _, _, _, h => h.elim
 | _ :: _, [], _, _, _, _, _, _, h => h.elim
 | _ :: _, _ :: _, [], _, _, _, _, _, h => h.elim
theorem veq_append : ∀ (l1 l2 : List Nat) (us vs : List Value) {r : Bool}, VEq (l1 ++ l2) us vs r → ∃ a b, r = (a && b) ∧ VEq l1 (us.take l1.length) (vs.take l1.length) a ∧ VEq l2 (us.drop l1.length) (vs.drop l1.length) b
 | [], l2, us, vs, r, h => ⟨true, r, by simp, rfl, h⟩
 | k :: l1, l2, u :: us, v :: vs, r, h => by
  obtain ⟨a, b, rfl, h1, h2⟩ := h
  obtain ⟨a', b', rfl, h3, h4⟩ := veq_append l1 l2 us vs h2
  exact ⟨a && a', b', by rw [Bool.and_assoc], ⟨a, a', rfl, h1, h3⟩, h4⟩
 | _ :: _, _, [], _, _, h => h.elim
 | _ :: _, _, _ :: _, [], _, h => h.elim
def mkV (P : Program) (t : TypeId) (us : List Value) : Value := if isAggB P t = true then .agg us.toArray else us.headD undef
theorem part_ok {t : TypeId} {d : TypeDesc} (hu : P.underlying t = some d) {n off : Nat} (hn : szOf P t = n) (h1 : 1 ≤ n) (us : List Value) (hl : off + n ≤ us.length) :
  (part t us.toArray off).run P w = .ok (mkV P t ((us.drop off).take n)) w := by
 unfold part mkV
 simp only [Sem.run_bind, run_isAgg0 hu, Result.andThen_ok]
 cases ha : isAggB P t with
 | true =>
  simp only [if_true, Sem.run_bind, run_sizeOf0 hn h1, Result.andThen_ok, Sem.run_pure]
  congr 2
  apply Array.toList_inj.1
  rw [Array.toList_extract]
  simp [List.extract]
 | false =>
  have hlt : off < us.length := by omega
  obtain ⟨m, rfl⟩ : ∃ m, n = m + 1 := ⟨n - 1, by omega⟩
  have h2 : us.toArray[off]? = some us[off] := by simp [hlt]
  have h3 : ((us.drop off).take (m + 1)).headD undef = us[off] := by rw [List.drop_eq_getElem_cons hlt]; rfl
  simp only [h2, h3, Bool.false_eq_true, if_false, Sem.run_pure]
theorem leaves_under {n : Nat} {t : TypeId} {ls : List Nat} (h : leavesOf P n t = some ls) : ∃ d, P.underlying t = some d := by
 cases n with
 | zero => cases h
 | succ n =>
  unfold leavesOf at h
  cases hu : P.underlying t with
  | none => simp [hu] at h
  | some d => exact ⟨d, rfl⟩
theorem fields_eq {n d : Nat} (ih : ∀ (t : TypeId) (ls : List Nat), leavesOf P n t = some ls → ∀ us vs r, us.length = ls.length → vs.length = ls.length → VEq ls us vs r → (Op.equalIn d t (mkV P t us) (mkV P t vs)).run P w = .ok r w) (us vs : List Value) :
  ∀ (fs : List Field) (off : Nat) (ls : List Nat) (r : Bool), leavesFs P (leavesOf P n) off fs = some ls → off + ls.length = us.length → off + ls.length = vs.length → VEq ls (us.drop off) (vs.drop off) r →
   (Op.eqFields d us.toArray vs.toArray fs).run P w = .ok r w
 | [], off, ls, r, h, _, _, hv => by
  cases h
  have hv : r = true := hv
  subst hv
  simp [Op.eqFields]
 | f :: fs, off, ls, r, h, h1, h2, hv => by
  unfold leavesFs at h
  cases hl : leavesOf P n f.type with
  | none => simp [hl] at h
  | some l =>
   simp only [hl] at h
   cases hc : (Nat.beq f.offset off && f.name != "_" && Nat.beq (szOf P f.type) l.length && Nat.ble 1 l.length) with
   | false => rw [hc] at h; cases h
   | true =>
    rw [hc] at h
    simp only [Bool.and_eq_true] at hc
    obtain ⟨⟨⟨c1, c2⟩, c3⟩, c4⟩ := hc
    have c1 : f.offset = off := Nat.eq_of_beq_eq_true c1
    have c3 := Nat.eq_of_beq_eq_true c3
    have c4 := Nat.le_of_ble_eq_true c4
    have c2 : f.name ≠ "_" := by simpa using c2
    cases hr : leavesFs P (leavesOf P n) (off + l.length) fs with
    | none => simp [hr] at h
    | some l2 =>
     simp only [hr, cond_true, Option.map_some, Option.some.injEq] at h
     subst h
     simp only [List.length_append] at h1 h2
     obtain ⟨a, b, rfl, v1, v2⟩ := veq_append l l2 _ _ hv
     rw [List.drop_drop] at v2
     rw [List.drop_drop] at v2
     obtain ⟨dd, hd⟩ := leaves_under hl
     have e1 := part_ok (w := w) hd c3 c4 us (off := off) (by omega)
     have e2 := part_ok (w := w) hd c3 c4 vs (off := off) (by omega)
     have e3 := ih f.type l hl _ _ a (by simp; omega) (by simp; omega) v1
     have e4 := fields_eq ih us vs fs (off + l.length) l2 b hr (by omega) (by omega) v2
     simp only [Op.eqFields, c1, c2, ne_eq, not_false_eq_true, if_true, Sem.run_bind, e1, e2, e3, Result.andThen_ok]
     cases a with
     | false => simp
     | true => simpa using e4
theorem leaves_eq : ∀ (n d : Nat), n ≤ d → ∀ (t : TypeId) (ls : List Nat), leavesOf P n t = some ls → ∀ us vs r, us.length = ls.length → vs.length = ls.length → VEq ls us vs r → (Op.equalIn d t (mkV P t us) (mkV P t vs)).run P w = .ok r w
 | 0, _, _, _, _, h, _, _, _, _, _, _ => by cases h
 | n + 1, d + 1, hd, t, ls, h, us, vs, r, h1, h2, hv => by
  have h0 := h
  unfold leavesOf at h
  split at h
  ·rename_i hu
   cases h
   match us, vs, h1, h2, hv with
   | [u], [v], _, _, ⟨a, b, hr, ⟨p, q, hu1, hv1, ha⟩, hb⟩ =>
    have hb : b = true := hb
    subst hb; subst hu1; subst hv1; subst ha
    have ea : isAggB P t = false := by simp [isAggB, hu]
    simp only [mkV, ea, hr, Bool.and_true]
    simp [Op.equalIn, run_underlying hu]
  ·rename_i kk hu
   cases h
   match us, vs, h1, h2, hv with
   | [u], [v], _, _, ⟨a, b, hr, ⟨k, m, m', hu1, hv1, ha⟩, hb⟩ =>
    have hb : b = true := hb
    subst hb; subst hu1; subst hv1; subst ha
    have ea : isAggB P t = false := by simp [isAggB, hu]
    simp only [mkV, ea, hr, Bool.and_true]
    have := run_equalIn_int w d t k kk m m' hu
    rw [show decide (m = m') = (m == m') from rfl]
    simpa using this
  ·rename_i hu
   cases h
   match us, vs, h1, h2, hv with
   | [u], [v], _, _, ⟨a, b, hr, ⟨p, q, hu1, hv1, ha⟩, hb⟩ =>
    have hb : b = true := hb
    subst hb; subst hu1; subst hv1; subst ha
    have ea : isAggB P t = false := by simp [isAggB, hu]
    simp only [mkV, ea, hr, Bool.and_true]
    have := run_equalIn_string w d t ⟨p.toArray⟩ ⟨q.toArray⟩ hu
    rw [ByteArray.toList_eq, ByteArray.toList_eq] at this
    have e : decide (p = q) = (p == q) := by rw [Bool.eq_iff_iff]; simp
    rw [e]
    simpa using this
  ·rename_i fs hu
   cases hp : P.stoodInHeld t with
   | true => rw [hp] at h; cases h
   | false =>
    rw [hp] at h
    have h : leavesFs P (leavesOf P n) 0 fs.toList = some ls := h
    have ea : isAggB P t = true := by simp [isAggB, hu]
    have hfo : P.fieldsOf t = fs := by simp [Program.fieldsOf, hu]
    simp only [mkV, ea, if_true]
    rw [run_equalIn_struct w d t _ _ (by rw [hfo]; exact hu) hp, hfo]
    exact fields_eq (fun t ls hl us vs r e1 e2 hv => leaves_eq n d (by omega) t ls hl us vs r e1 e2 hv) us vs fs.toList 0 ls r h (by omega) (by omega) (by simpa using hv)
  ·cases h
 | _ + 1, 0, hd, _, _, _, _, _, _, _, _, _ => by omega
theorem aggEq_ok {op : BinOp} {t : TypeId} {cs ds : List AV} {us vs : List Value} {K : AV → Prop} {T : List TY} (hT : TOk P T) (hx : Reps C w cs mu us) (hy : Reps C w ds mu vs) (h : aggEqK T op t cs ds K) :
  P.eqGuardType P.depth t = false ∧ ∃ r z, K r ∧ Rep C w r mu z ∧ (binOp op t (.agg us.toArray) (.agg vs.toArray)).run P w = .ok z w := by
 unfold aggEqK at h
 replace h := (lkK_iff _ _ _).1 h; obtain ⟨y, hy', h⟩ := h
 obtain ⟨i, d, hi, hd, hyy⟩ := hT.facts hy'
 have he : y.eq = eqOf P t := by rw [hyy]
 have hag : y.agg = isAggB P t := by rw [hyy]
 cases ha : isAggB P t with
 | false => rw [hag, ha] at h; exact h.elim
 | true =>
  rw [hag, ha] at h
  simp only at h
  rw [he] at h
  unfold eqOf at h
  cases hg : P.eqGuardType P.depth t with
  | true => rw [hg] at h; exact h.elim
  | false =>
   refine ⟨rfl, ?_⟩
   rw [hg] at h
   simp only [cond_false] at h
   cases hl : leavesOf P 8 t with
   | none => rw [hl] at h; exact h.elim
   | some ls =>
    rw [hl] at h
    have key : ∀ {K' : Bool → Prop}, eqLK ls cs ds K' → ∃ r, K' r ∧ (Op.equalIn 10000 t (.agg us.toArray) (.agg vs.toArray)).run P w = .ok r w := by
     intro K' hk
     obtain ⟨r, h1, h2, e1, e2⟩ := eqL_ok ls cs ds hx hy hk
     have := leaves_eq (P := P) (w := w) 8 10000 (by omega) t ls hl us vs r e1 e2 h2
     simp only [mkV, ha, if_true] at this
     exact ⟨r, h1, this⟩
    cases op <;> simp only [] at h
    case eql =>
     obtain ⟨r, h1, h2⟩ := key h
     exact ⟨_, _, h1, rep_bool, by rw [run_eql_struct, h2]; rfl⟩
    case neq =>
     obtain ⟨r, h1, h2⟩ := key h
     exact ⟨_, _, h1, rep_bool, by rw [run_neq_struct, h2]; rfl⟩
theorem run_bin {op : BinOp} {t : TypeId} {x y : AV} {u v : Value} {K : AV → Prop} {T : List TY} (hT : TOk P T) (hx : Rep C w x mu u) (hy : Rep C w y mu v) (h : binK T op t x y K) :
  ∃ r z, K r ∧ Rep C w r mu z ∧ (binOp op t u v).run P w = .ok z w := by
 unfold binK at h
 split at h
 ·split at h
  ·split at h
   ·rename_i k m k' n hk
    obtain ⟨rfl, h1⟩ := rep_int_inv hx
    obtain ⟨rfl, h2⟩ := rep_int_inv hy
    obtain rfl := kEq_eq hk
    unfold intK at h
    cases op <;> simp only [] at h
    case quo => obtain ⟨h0, h⟩ := h; exact ⟨_, _, h, rep_int (inK_Wr _ _), by simp [binOp, Op.intDiv, h0, Wr]⟩
    case rem => obtain ⟨h0, h⟩ := h; exact ⟨_, _, h, rep_int (inK_tmod _ h1), by simp [binOp, Op.intDiv, h0]⟩
    case eql => exact ⟨_, _, h, rep_bool, by simp [binOp, Op.intCmp]; rfl⟩
    case neq => exact ⟨_, _, h, rep_bool, by simp [binOp, Op.intCmp]; rfl⟩
    case lss => exact ⟨_, _, h, rep_bool, by simp [binOp, Op.intCmp]⟩
    case leq => exact ⟨_, _, h, rep_bool, by simp [binOp, Op.intCmp]⟩
    case gtr => exact ⟨_, _, h, rep_bool, by simp [binOp, Op.intCmp]⟩
    case geq => exact ⟨_, _, h, rep_bool, by simp [binOp, Op.intCmp]⟩
    case add => exact ⟨_, _, h, rep_int (inK_Wr _ _), by simp [binOp, Op.intArith, Wr]⟩
    case sub => exact ⟨_, _, h, rep_int (inK_Wr _ _), by simp [binOp, Op.intArith, Wr]⟩
    case mul => exact ⟨_, _, h, rep_int (inK_Wr _ _), by simp [binOp, Op.intArith, Wr]⟩
    case and => exact ⟨_, _, h, rep_int (inK_Wr _ _), by simp [binOp, Op.intBits, Wr, bitsR]⟩
    case or => exact ⟨_, _, h, rep_int (inK_Wr _ _), by simp [binOp, Op.intBits, Wr, bitsR]⟩
    case xor => exact ⟨_, _, h, rep_int (inK_Wr _ _), by simp [binOp, Op.intBits, Wr, bitsR]⟩
    case andNot => exact ⟨_, _, h, rep_int (inK_Wr _ _), by simp [binOp, Op.intBits, Wr, bitsR]⟩
   ·exact h.elim
  ·exact h.elim
 ·split at h
  ·exact bool_case hT (rep_bool_inv hx) (rep_bool_inv hy) h
  ·exact bool_case hT (rep_bool_inv hx) (rep_lit_inv hy) h
  ·exact h.elim
 ·split at h
  ·exact bool_case hT (rep_lit_inv hx) (rep_bool_inv hy) h
  ·exact bool_case hT (rep_lit_inv hx) (rep_lit_inv hy) h
  ·exact h.elim
 ·split at h
  ·obtain ⟨rfl, h1⟩ := rep_str_inv hx
   obtain ⟨rfl, h2⟩ := rep_str_inv hy
   rename_i p _ q
   unfold strK at h
   cases op <;> simp only [] at h
   case add =>
    obtain ⟨h0, h⟩ := h
    refine ⟨_, _, h, rep_str (by simpa using h0), ?_⟩
    rw [show binOp .add t (.string ⟨p.toArray⟩) (.string ⟨q.toArray⟩) = Op.stringOp .add ⟨p.toArray⟩ ⟨q.toArray⟩ from by simp [binOp], run_string_add_sum _ _ _ (by simpa [size_of_list] using h0), ByteArray.mk_append_mk]
   case eql => exact ⟨_, _, h, rep_bool, by simp [binOp, Op.stringOp]⟩
   case neq => exact ⟨_, _, h, rep_bool, by simp [binOp, Op.stringOp]⟩
   case lss => exact ⟨_, _, h, rep_bool, by simp [binOp, Op.stringOp]⟩
   case leq => exact ⟨_, _, h, rep_bool, by simp [binOp, Op.stringOp]⟩
   case gtr => exact ⟨_, _, h, rep_bool, by simp [binOp, Op.stringOp]⟩
   case geq => exact ⟨_, _, h, rep_bool, by simp [binOp, Op.stringOp]⟩
  ·exact h.elim
 ·split at h
  ·unfold Rep at hx hy
   obtain ⟨us, rfl, hx⟩ := hx
   obtain ⟨vs, rfl, hy⟩ := hy
   exact (aggEq_ok hT hx hy h).2
  ·exact h.elim
 ·exact h.elim
theorem run_un {op : UnOp} {x : AV} {u : Value} {K : AV → Prop} (hx : Rep C w x mu u) (h : unK op x K) :
  ∃ r z, K r ∧ Rep C w r mu z ∧ (Op.unary op u).run P w = .ok z w := by
 unfold unK at h
 split at h
 ·split at h
  ·obtain ⟨rfl, h1⟩ := rep_int_inv hx
   exact ⟨_, _, h, rep_int (inK_Wr _ _), by simp [Op.unary, Op.intArith, Wr]⟩
  ·exact h.elim
 ·split at h
  ·obtain rfl := rep_bool_inv hx
   exact ⟨_, _, h, rep_bool, by simp [Op.unary]⟩
  ·obtain rfl := rep_lit_inv hx
   split at h
   ·exact ⟨_, _, h, rep_lit, by simp [Op.unary]⟩
   ·exact ⟨_, _, h, rep_lit, by simp [Op.unary]⟩
  ·exact h.elim
 ·exact h.elim
theorem add_lit (b o i : Nat) : (⟨b, o, none⟩ : Addr).add i = ⟨b, o + i, none⟩ := by unfold Addr.add; split <;> simp_all
def Reads (w : World) (b o : Nat) (vs : List Value) : Prop := ∀ i v, vs[i]? = some v → w.cell? ⟨b, o + i, none⟩ = some v
theorem run_isAgg {t : TypeId} {d : TypeDesc} (h : P.underlying t = some d) : (isAgg t).run P w = .ok (isAggB P t) w := by
 unfold isAgg isAggB
 rw [Sem.run_bind, run_underlying h]
 cases d <;> simp [h]
theorem run_ld {T : List TY} (hT : TOk P T) {t : TypeId} {b o : Nat} {vs : List Value} {cs : List AV} {K : AV → Prop} (hr : Reads w b o vs) (hc : Reps C w cs mu vs) (h : ldK T t cs K) :
  ∃ r v, K r ∧ Rep C w r mu v ∧ (loadVar t ⟨b, o, none⟩).run P w = .ok v w := by
 unfold ldK at h
 obtain ⟨y, hy, h⟩ := (lkK_iff _ _ _).1 h
 obtain ⟨i, d, hi, hd, rfl⟩ := hT.facts hy
 simp only at h
 have hlen := reps_len _ hc
 have hri := (reps_iff cs).1 hc
 cases ha : isAggB P t with
 | true =>
  rw [ha] at h
  simp only at h
  obtain ⟨hn, h⟩ := (takeK_iff _ _ _).1 h
  have hl : (loadCells ⟨b, o, none⟩ (vs.take i.size).length).run P w = .ok (vs.take i.size).toArray w :=
   run_loadCells_list (P := P) w ⟨b, o, none⟩ (vs.take i.size) (fun j v hv => by
    rw [add_lit]
    rw [List.getElem?_take] at hv
    split at hv
    ·exact hr j v hv
    ·cases hv)
  rw [List.length_take, Nat.min_eq_left (by omega)] at hl
  refine ⟨_, .agg (vs.take i.size).toArray, h, ?_, ?_⟩
  ·unfold Rep
   refine ⟨_, rfl, (reps_iff _).2 ⟨by simp [hlen], fun j h1 h2 => ?_⟩⟩
   simp only [List.getElem_take]
   exact hri.2 j (by simp at h1; omega) (by simp at h2; omega)
  ·simp [loadVar, run_isAgg hd, ha, sizeOf, typeInfo, hi, hl]
 | false =>
  rw [ha] at h
  cases cs with
  | nil => exact h.elim
  | cons c cs =>
   simp only [AV.force_iff] at h
   cases vs with
   | nil => simp at hlen
   | cons v vs =>
    have h1 := hr 0 v rfl
    have h2 := hri.2 0 (by simp) (by simp)
    simp only [Nat.add_zero] at h1
    exact ⟨_, v, h, h2, by simp [loadVar, run_isAgg hd, ha, h1]⟩
theorem Cells.vals {cs : List AV} {b o : Nat} (h : Cells C w cs b o) : ∃ vs, Reads w b o vs ∧ Reps C w cs Mu.none vs ∧ ∀ v ∈ vs, v.oneCell' = true := by
 induction cs generalizing o with
 | nil => exact ⟨[], fun i v hv => by simp at hv, by unfold Reps; rfl, by simp⟩
 | cons c cs ih =>
  unfold Cells at h
  obtain ⟨⟨v, h1, h2, h3⟩, h4⟩ := h
  obtain ⟨vs, h5, h6, h7⟩ := ih h4
  refine ⟨v :: vs, fun i u hu => ?_, by unfold Reps; exact ⟨v, vs, rfl, h3, h6⟩, by simpa using ⟨h1, h7⟩⟩
  cases i with
  | zero => simp at hu; subst hu; exact h2.2
  | succ i =>
   have := h5 i u (by simpa using hu)
   rw [show o + (i + 1) = o + 1 + i by omega]; exact this
theorem Reps.up {cs : List AV} {vs : List Value} (h : Reps C w cs Mu.none vs) : Reps C w cs mu vs := Reps.mono (Ext.refl C w) cs (MuLe.none mu) h
theorem Reps.drop {cs : List AV} {vs : List Value} (h : Reps C w cs mu vs) (n : Nat) : Reps C w (cs.drop n) mu (vs.drop n) := by
 obtain ⟨h1, h2⟩ := (reps_iff cs).1 h
 refine (reps_iff _).2 ⟨by simp [h1], fun i h3 h4 => ?_⟩
 simp only [List.getElem_drop]
 exact h2 (n + i) (by simp at h3; omega) (by simp at h4; omega)
theorem Reps.take {cs : List AV} {vs : List Value} (h : Reps C w cs mu vs) (n : Nat) : Reps C w (cs.take n) mu (vs.take n) := by
 obtain ⟨h1, h2⟩ := (reps_iff cs).1 h
 refine (reps_iff _).2 ⟨by simp [h1], fun i h3 h4 => ?_⟩
 simp only [List.getElem_take]
 exact h2 i (by simp at h3; omega) (by simp at h4; omega)
theorem Reads.drop {b o : Nat} {vs : List Value} (h : Reads w b o vs) (n : Nat) : Reads w b (o + n) (vs.drop n) := fun i v hv => by
 rw [List.getElem?_drop] at hv
 rw [show o + n + i = o + (n + i) by omega]; exact h _ _ hv
theorem Cells.drop {cs : List AV} {b o : Nat} (h : Cells C w cs b o) (n : Nat) : Cells C w (cs.drop n) b (o + n) := by
 rw [cells_iff] at *
 intro i hi
 have := h (n + i) (by simp at hi; omega)
 simp only [List.getElem_drop]
 rw [show o + n + i = o + (n + i) by omega]; exact this
theorem reads_row {g : Nat} {cur : Array Value} {e : TypeId} {fz : Nat × Nat} (h : w.heap[g]? = some (.cells cur e fz)) : Reads w g 0 cur.toList := fun i v hv => by
 rw [Nat.zero_add, cell_of_row w g i cur e fz h]; simpa using hv
theorem zero_run {T : List TY} (hT : TOk P T) {e : TypeId} {K : AV → Prop} (h : zeroVK T e K) : ∃ r z, K r ∧ Rep C w r mu z ∧ (zeroValue e).run P w = .ok z w := by
 unfold zeroVK at h
 replace h := (lkK_iff _ _ _).1 h; obtain ⟨y, hy, h⟩ := h
 obtain ⟨i, d, hi, hd, rfl⟩ := hT.facts hy
 simp only at h
 have hall : ∀ z : Value, Reps C w (z.cells.toList.map ofC) mu z.cells.toList := fun z => (reps_iff _).2 ⟨by simp, fun j h3 h4 => by simp only [List.getElem_map]; exact rep_ofC _⟩
 rcases zeroOf_cases (isAggB P e) i.zero with h0 | ⟨z, hz, e1, ⟨ha, cs, rfl⟩ | ⟨ha, hc⟩⟩
 ·rw [h0] at h
  cases hb : isAggB P e <;> rw [hb] at h <;> exact h.elim
 ·rw [ha] at h e1
  simp only at h
  split at h
  ·exact h.elim
  ·rename_i z zs hzz
   rw [← hzz, e1] at h
   exact ⟨_, .agg cs, h, by unfold Rep; exact ⟨cs.toList, rfl, hall (.agg cs)⟩, by simp [zeroValue, typeInfo, hi, hz]⟩
 ·rw [ha] at h e1
  simp only at h
  rw [e1, hc] at h
  simp only [List.map_cons, List.map_nil, AV.force_iff] at h
  exact ⟨_, z, h, rep_ofC z, by simp [zeroValue, typeInfo, hi, hz]⟩
theorem flat_drop {sz : Nat} : ∀ (es : List AV), (∀ a ∈ es, a.cells.length = sz) → ∀ i e, es[i]? = some e → ∃ r, (flat es).drop (i * sz) = e.cells ++ r
 | [], _, i, e, h => by simp at h
 | a :: es, hs, 0, e, h => by simp at h; subst h; exact ⟨flat es, by simp [flat]⟩
 | a :: es, hs, i + 1, e, h => by
  obtain ⟨r, hr⟩ := flat_drop es (fun b hb => hs b (by simp [hb])) i e (by simpa using h)
  refine ⟨r, ?_⟩
  have e1 : flat (a :: es) = a.cells ++ flat es := by simp [flat]
  rw [e1, List.drop_append, List.drop_eq_nil_of_le (by rw [hs a (by simp), Nat.add_mul]; omega), hs a (by simp), List.nil_append, ← hr]
  congr 1; rw [Nat.add_mul]; omega
theorem flat_length {sz : Nat} : ∀ (es : List AV), (∀ a ∈ es, a.cells.length = sz) → (flat es).length = es.length * sz
 | [], _ => by simp [flat]
 | a :: es, h => by
  have e1 : flat (a :: es) = a.cells ++ flat es := by simp [flat]
  rw [e1, List.length_append, flat_length es (fun b hb => h b (by simp [hb])), h a (by simp), List.length_cons, Nat.add_mul]; omega
end
end Go.Av
set_option linter.unusedSimpArgs false
set_option linter.unusedVariables false
namespace Go.Av
section
variable {P : Program} {C : CellSet} {w : World} {mu : Mu} {fresh : Nat → Prop} {H : List HO} {T : List TY}
theorem el_reads (hh : HeapRel C w fresh mu H) {l b n c sz i : Nat} {e : TypeId} {sz' : Nat} {es : List AV} {x : AV} (hl : H[l]? = some (.arr e sz' es))
  (hm : mu l = some (.arr (.slice (some ⟨b, 0, none⟩) n c))) (hsz : sz = sz') (hi : es[i]? = some x) :
  ∃ vs, Reads w b (i * sz) vs ∧ Reps C w x.cells mu vs := by
 subst hsz
 obtain ⟨h1, h2⟩ := hh.arrs l e sz es hl
 rcases h2 with ⟨h2, _⟩ | ⟨b', cap, cur, h3, ⟨fz, h4, hfz⟩, h5, h6, h7, h8, h9⟩
 ·rw [hm] at h2; cases h2
 ·rw [hm] at h3
  simp only [Option.some.injEq, GO.arr.injEq, Value.slice.injEq, Addr.mk.injEq] at h3
  obtain ⟨⟨rfl, _⟩, rfl, rfl⟩ := h3
  obtain ⟨r, hr⟩ := flat_drop es h1 i x hi
  have h10 := (Reps.mono (Ext.refl C w) _ (blkMu_le mu) h8).drop (i * sz)
  rw [hr] at h10
  have h11 := h10.take x.cells.length
  rw [List.take_left' rfl] at h11
  refine ⟨_, ?_, h11⟩
  have hR := (reads_row h4).drop (i * sz)
  rw [Nat.zero_add] at hR
  intro j v hv
  refine hR j v ?_
  rw [List.getElem?_take] at hv
  split at hv
  ·rw [List.getElem?_drop] at hv ⊢
   rw [List.getElem?_take] at hv
   split at hv
   ·exact hv
   ·cases hv
  ·cases hv
theorem run_loadK (hT : TOk P T) (hh : HeapRel C w fresh mu H) {t : TypeId} {x : AV} {u : Value} {K : AV → Prop} (hx : Rep C w x mu u) (h : loadK T H t x K) :
  ∃ r v, K r ∧ Rep C w r mu v ∧ (Instr.loadAt t u).run P w = .ok v w := by
 unfold loadK at h
 split at h
 ·unfold Rep at hx
  obtain ⟨b, o, rfl, hc⟩ := hx
  obtain ⟨vs, h1, h2, _⟩ := hc.vals
  obtain ⟨r, v, h3, h4, h5⟩ := run_ld hT h1 h2.up h
  exact ⟨r, v, h3, h4, by simpa [Instr.loadAt, Instr.sureAddr] using h5⟩
 ·rename_i l o
  unfold Rep at hx
  obtain ⟨b, hm, rfl⟩ := hx
  replace h := (lkK_iff _ _ _).1 h; obtain ⟨ob, hob, h⟩ := h
  split at h
  ·rename_i cs
   rw [dropK_iff] at h
   obtain ⟨b', cur, e, hm', hb, hr, _⟩ := hh.recs l cs hob
   rw [hm] at hm'
   simp only [Option.some.injEq, GO.blk.injEq] at hm'
   subst hm'
   have hR := (reads_row hb).drop o
   rw [Nat.zero_add] at hR
   obtain ⟨r, v, h3, h4, h5⟩ := run_ld hT hR (hr.drop o) h
   exact ⟨r, v, h3, h4, by simpa [Instr.loadAt, Instr.sureAddr] using h5⟩
  ·exact h.elim
 ·rename_i l sz i o
  unfold Rep at hx
  obtain ⟨b, n, c, hm, rfl⟩ := hx
  replace h := (lkK_iff _ _ _).1 h; obtain ⟨ob, hob, h⟩ := h
  cases ob with
  | cells _ => exact h.elim
  | dead => exact h.elim
  | ghost _ _ _ => exact h.elim
  | inv _ => exact h.elim
  | map _ _ => exact h.elim
  | arr e sz' es =>
   simp only at h
   split at h
   ·rename_i hsz
    obtain ⟨a, ha, h⟩ := h
    rw [cellsK_iff, dropK_iff] at h
    obtain ⟨vs, h1, h2⟩ := el_reads hh hob hm (Nat.eq_of_beq_eq_true hsz) ha
    obtain ⟨r, v, h3, h4, h5⟩ := run_ld hT (h1.drop o) (h2.drop o) h
    exact ⟨r, v, h3, h4, by simpa [Instr.loadAt, Instr.sureAddr] using h5⟩
   ·exact h.elim
 ·exact h.elim
theorem rep_at {cs : List AV} {b o : Nat} (h : Cells C w cs b o) : Rep C w (.at_ cs) mu (.pointer (some ⟨b, o, none⟩)) := by
 unfold Rep; exact ⟨b, o, rfl, h⟩
theorem run_sizeOf {t : TypeId} {n : Nat} (h : szOf P t = n) (hp : 1 ≤ n) : (sizeOf t).run P w = .ok n w := by
 obtain ⟨m, rfl⟩ : ∃ m, n = m + 1 := ⟨n - 1, by omega⟩
 obtain ⟨i, d, hi1, _, hi2⟩ := szOf_pos h
 simp [sizeOf, typeInfo, hi1, hi2]
theorem run_indexAddr (hT : TOk P T) (hh : HeapRel C w fresh mu H) {t : TypeId} {x i : AV} {u v : Value} {K : AV → Prop} (hx : Rep C w x mu u) (hi : Rep C w i mu v) (h : indexAddrK T H t x i K) :
  ∃ r z, K r ∧ Rep C w r mu z ∧ (Instr.indexAt t u v).run P w = .ok z w := by
 cases x with
 | sl sz es =>
  simp only [indexAddrK] at h
  replace h := (lkK_iff _ _ _).1 h; obtain ⟨y, hy, h⟩ := h
  split at h
  ·rename_i el esz by' ag hk
   split at h
   ·rename_i hb
    simp only [Bool.and_eq_true] at hb
    obtain rfl := Nat.eq_of_beq_eq_true hb.1
    have hpos := Nat.le_of_ble_eq_true hb.2
    cases i with
    | int k n =>
     simp only at h
     obtain ⟨h0, a, ha, h⟩ := h
     rw [cellsK_iff] at h
     obtain ⟨h1, h2, h3, h4⟩ := hT.slice hy hk
     obtain ⟨rfl, _⟩ := rep_int_inv hi
     unfold Rep at hx
     have hlt : n.toNat < es.length := (List.getElem?_eq_some_iff.1 ha).1
     rcases hx with ⟨_, rfl⟩ | ⟨b, o, cap, rfl, h6, h7, h8⟩
     ·simp at hlt
     ·have hrow := (rows_iff es o).1 h8 n.toNat hlt
      have hav : es[n.toNat] = a := by rw [List.getElem?_eq_getElem hlt] at ha; simpa using ha
      rw [hav] at hrow
      refine ⟨_, _, h, rep_at hrow.2, ?_⟩
      have hn : (n : Int) < (es.length : Int) := by omega
      simp [Instr.indexAt, asIntOf, run_underlying h1, h0, hn, run_sizeOf h2 hpos, add_lit]
    | _ => exact h.elim
   ·exact h.elim
  ·exact h.elim
 | own l sz lo m =>
  simp only [indexAddrK] at h
  replace h := (lkK_iff _ _ _).1 h; obtain ⟨y, hy, h⟩ := h
  split at h
  ·rename_i el esz by' ag hk
   replace h := (lkK_iff _ _ _).1 h; obtain ⟨ob, hob, h⟩ := h
   cases ob with
   | cells _ => exact h.elim
   | dead => exact h.elim
   | ghost _ _ _ => exact h.elim
   | inv _ => exact h.elim
   | map _ _ => exact h.elim
   | arr e sz' es =>
    simp only at h
    split at h
    ·rename_i hb
     simp only [Bool.and_eq_true] at hb
     obtain rfl := Nat.eq_of_beq_eq_true hb.1.1
     obtain rfl := Nat.eq_of_beq_eq_true hb.2
     have hpos := Nat.le_of_ble_eq_true hb.1.2
     cases i with
     | int k n =>
      simp only at h
      obtain ⟨⟨h0, hlt⟩, h⟩ := h
      obtain ⟨h1, h2, h3, h4⟩ := hT.slice hy hk
      obtain ⟨rfl, _⟩ := rep_int_inv hi
      unfold Rep at hx
      obtain ⟨x, hm, hle, _, rfl⟩ := hx
      obtain ⟨_, h5⟩ := hh.arrs l e esz es hob
      rcases h5 with ⟨h5, h6⟩ | ⟨b, cap, cur, h5, h6, h7, h8, h9, h10⟩
      ·rw [hm] at h5
       simp only [Option.some.injEq, GO.arr.injEq] at h5
       subst h5
       simp only [lenSl] at hle
       omega
      ·rw [hm] at h5
       simp only [Option.some.injEq, GO.arr.injEq] at h5
       subst h5
       refine ⟨_, .pointer (some ⟨b, (lo + n.toNat) * esz + 0, none⟩), h, ?_, ?_⟩
       ·unfold Rep; exact ⟨b, _, _, hm, rfl⟩
       ·simp [Instr.indexAt, asIntOf, subSl, run_underlying h1, h0, hlt, run_sizeOf h2 hpos, add_lit, Nat.add_mul]
     | _ => exact h.elim
    ·exact h.elim
  ·exact h.elim
 | ptr l o =>
  simp only [indexAddrK] at h
  replace h := (lkK_iff _ _ _).1 h; obtain ⟨y, hy, h⟩ := h
  split at h
  ·rename_i m sz ag hk
   split at h
   ·rename_i hb
    have hpos := Nat.le_of_ble_eq_true hb
    cases i with
    | int k n =>
     simp only at h
     obtain ⟨⟨h0, hlt⟩, h⟩ := h
     obtain ⟨rfl, _⟩ := rep_int_inv hi
     obtain ⟨i', d, _, hd, rfl⟩ := hT.facts hy
     obtain ⟨e, rfl, he1⟩ : ∃ e, d = .array m e ∧ szOf P e = sz := by
      cases d <;> simp [kindOf] at hk
      rename_i m' e
      exact ⟨e, by rw [hk.1], hk.2.1⟩
     unfold Rep at hx
     obtain ⟨b, hm, rfl⟩ := hx
     refine ⟨_, .pointer (some ⟨b, o + n.toNat * sz, none⟩), h, ?_, ?_⟩
     ·unfold Rep; exact ⟨b, hm, rfl⟩
     ·simp [Instr.indexAt, Instr.sureAddr, asIntOf, run_underlying hd, h0, hlt, run_sizeOf he1 hpos, add_lit]
    | _ => exact h.elim
   ·exact h.elim
  ·exact h.elim
 | _ => exact h.elim
end
end Go.Av
set_option linter.unusedSimpArgs false
set_option linter.unusedVariables false
namespace Go.Av
open Go.MapKept
section
variable {P : Program} {C : CellSet} {w : World} {mu : Mu} {fresh : Nat → Prop} {H : List HO} {T : List TY}
theorem run_fieldAddr (hT : TOk P T) {t : TypeId} {x : AV} {f : Nat} {u : Value} {K : AV → Prop} (hx : Rep C w x mu u) (h : fieldAddrK T t x f K) :
  ∃ r z, K r ∧ Rep C w r mu z ∧ (Instr.fieldAt t u f).run P w = .ok z w := by
 unfold fieldAddrK at h
 replace h := (lkK_iff _ _ _).1 h; obtain ⟨y, hy, h⟩ := h
 split at h
 ·rename_i fs hk
  replace h := (lkK_iff _ _ _).1 h; obtain ⟨⟨off, size, ag⟩, hf, h⟩ := h
  obtain ⟨fields, hu, rfl⟩ := hT.struct hy hk
  simp only at h
  rw [List.getElem?_map] at hf
  cases hfi : fields.toList[f]? with
  | none => simp [hfi] at hf
  | some fd =>
   simp only [hfi, Option.map_some, Option.some.injEq, Prod.mk.injEq] at hf
   obtain ⟨rfl, hsz, _⟩ := hf
   have hfa : fields[f]? = some fd := by simpa using hfi
   split at h
   ·exact h.elim
   ·have hs := run_sizeOf (P := P) (w := w) hsz (by omega)
    have key : ∀ b o, (Instr.fieldAt t (.pointer (some ⟨b, o, none⟩)) f).run P w = .ok (.pointer (some ⟨b, o + fd.offset, none⟩)) w := fun b o => by
     simp [Instr.fieldAt, run_underlying hu, hfa, Instr.sureAddr, fieldPlace, hs, add_lit]
    cases x with
    | at_ cs =>
     simp only at h
     rw [dropK_iff] at h
     unfold Rep at hx
     obtain ⟨b, o, rfl, hc⟩ := hx
     exact ⟨_, _, h, rep_at (hc.drop _), key b o⟩
    | ptr l o =>
     unfold Rep at hx
     obtain ⟨b, hm, rfl⟩ := hx
     exact ⟨_, _, h, by unfold Rep; exact ⟨b, hm, rfl⟩, key b o⟩
    | el l sz i o =>
     unfold Rep at hx
     obtain ⟨b, n, c, hm, rfl⟩ := hx
     refine ⟨_, _, h, ?_, key b _⟩
     unfold Rep; exact ⟨b, n, c, hm, by rw [Nat.add_assoc]⟩
    | raw v =>
     simp only at h
     split at h
     case h_2 => exact h.elim
     split at h
     case h_2 => exact h.elim
     rename_i b o
     unfold Rep at hx
     subst hx
     exact ⟨_, _, h, by unfold Rep; rfl, key b o⟩
    | _ => exact h.elim
 ·exact h.elim
theorem run_field (hT : TOk P T) {t : TypeId} {x : AV} {f : Nat} {u : Value} {K : AV → Prop} (hx : Rep C w x mu u) (h : fieldK T t x f K) :
  ∃ r z, K r ∧ Rep C w r mu z ∧ (Instr.field t u f).run P w = .ok z w := by
 unfold fieldK at h
 replace h := (lkK_iff _ _ _).1 h; obtain ⟨y, hy, h⟩ := h
 split at h
 ·rename_i fs hk
  replace h := (lkK_iff _ _ _).1 h; obtain ⟨⟨off, size, ag⟩, hf, h⟩ := h
  obtain ⟨fields, hu, rfl⟩ := hT.struct hy hk
  simp only at h
  rw [List.getElem?_map] at hf
  cases hfi : fields.toList[f]? with
  | none => simp [hfi] at hf
  | some fd =>
   simp only [hfi, Option.map_some, Option.some.injEq, Prod.mk.injEq] at hf
   obtain ⟨rfl, hsz, hag⟩ := hf
   have hfa : fields[f]? = some fd := by simpa using hfi
   cases x with
   | agg cs =>
    simp only at h
    rw [dropK_iff] at h
    unfold Rep at hx
    obtain ⟨vs, rfl, hc⟩ := hx
    have hri := (reps_iff _).1 (hc.drop fd.offset)
    cases hb : ag with
    | true =>
     simp only [hb] at h
     obtain ⟨hn, h⟩ := (takeK_iff _ _ _).1 h
     rw [hb] at hag
     refine ⟨_, .agg ((vs.drop fd.offset).take size).toArray, h, ?_, ?_⟩
     ·unfold Rep; exact ⟨_, rfl, (hc.drop _).take _⟩
     ·obtain ⟨d, hd⟩ : ∃ d, P.underlying fd.type = some d := by
       unfold isAggB at hag; cases hh : P.underlying fd.type with
       | none => simp [hh] at hag
       | some d => exact ⟨d, rfl⟩
      obtain ⟨i, hi⟩ : ∃ i, P.info? fd.type = some i := by
       unfold Program.underlying at hd
       cases hh : P.info? fd.type with
       | none => simp [hh] at hd
       | some i => exact ⟨i, rfl⟩
      have hi2 : i.size = size := by unfold szOf at hsz; simp only [hd] at hsz; unfold Program.cellsOf at hsz; simpa [hi] using hsz
      simp [Instr.field, run_underlying hu, hfa, asAgg, part, run_isAgg hd, hag, sizeOf, typeInfo, hi, hi2]
    | false =>
     simp only [hb] at h
     split at h
     ·exact h.elim
     rename_i m
     obtain ⟨i, d, hi, hd, _⟩ := szOf_pos hsz
     cases hcs : cs.drop fd.offset with
     | nil => simp [hcs] at h
     | cons c r =>
      simp only [hcs, AV.force_iff] at h
      have hl : 0 < (cs.drop fd.offset).length := by rw [hcs]; simp
      have h2 := hri.2 0 hl (by rw [hri.1]; exact hl)
      have hc0 : (cs.drop fd.offset)[0] = c := by simp [hcs]
      rw [hc0] at h2
      refine ⟨c, _, h, h2, ?_⟩
      have hlv : fd.offset < vs.length := by have := hri.1; rw [List.length_drop, List.length_drop] at this; rw [List.length_drop] at hl; omega
      have hv : vs.toArray[fd.offset]? = some ((vs.drop fd.offset)[0]'(by rw [hri.1]; exact hl)) := by
       simp [hlv]
      rw [hb] at hag
      have hia : (isAgg fd.type).run P w = .ok false w := by rw [run_isAgg hd, hag]
      simp [Instr.field, run_underlying hu, hfa, asAgg, part, hia, hlv]
   | _ => exact h.elim
 ·exact h.elim
theorem run_index (hT : TOk P T) {t : TypeId} {x i : AV} {u v : Value} {K : AV → Prop} (hx : Rep C w x mu u) (hi : Rep C w i mu v) (h : indexK T t x i K) :
  ∃ r z, K r ∧ Rep C w r mu z ∧ (Instr.index t u v).run P w = .ok z w := by
 cases x with
 | str l =>
  simp only [indexK] at h
  replace h := (lkK_iff _ _ _).1 h; obtain ⟨y, hy, h⟩ := h
  split at h
  ·rename_i hk
   cases i with
   | int k n =>
    obtain ⟨⟨h0, h1⟩, h⟩ := h
    obtain ⟨rfl, _⟩ := rep_int_inv hi
    obtain ⟨rfl, _⟩ := rep_str_inv hx
    have hu := hT.string hy hk
    have hlt : n.toNat < l.length := by omega
    refine ⟨_, _, h, rep_int (inKu8.2 ⟨by omega, by have := (l.getD n.toNat 0).toNat_lt; omega⟩), ?_⟩
    have hs : (⟨l.toArray⟩ : ByteArray)[n.toNat]? = some (l.getD n.toNat 0) := by
     rw [ByteArray.getElem?_lt' _ _ (by rw [size_of_list]; exact hlt)]
     simp [List.getD, List.getElem?_eq_getElem hlt, ByteArray.getElem_eq_getElem_data]
    simp [Instr.index, asIntOf, run_underlying hu, h0, hs]
   | _ => exact h.elim
  ·exact h.elim
 | agg cs =>
  simp only [indexK] at h
  replace h := (lkK_iff _ _ _).1 h; obtain ⟨y, hy, h⟩ := h
  split at h
  ·rename_i m sz ag hk
   split at h
   ·rename_i hb
    simp only [Bool.and_eq_true, Bool.not_eq_true'] at hb
    have hsz := Nat.eq_of_beq_eq_true hb.1
    subst hsz
    have hag := hb.2
    subst hag
    cases i with
    | int k n =>
     obtain ⟨⟨h0, h1⟩, z, hz, h⟩ := h
     obtain ⟨rfl, _⟩ := rep_int_inv hi
     obtain ⟨i', d, _, hd, rfl⟩ := hT.facts hy
     obtain ⟨e, rfl, he1, he2⟩ : ∃ e, d = .array m e ∧ szOf P e = 1 ∧ isAggB P e = false := by
      cases d <;> simp [kindOf] at hk
      rename_i m' e
      exact ⟨e, by rw [hk.1], hk.2.1, hk.2.2⟩
     obtain ⟨de, hde⟩ : ∃ de, P.underlying e = some de := by
      unfold szOf at he1
      split at he1
      ·rename_i de hde; exact ⟨de, hde⟩
      ·cases he1
     unfold Rep at hx
     obtain ⟨vs, rfl, hvs⟩ := hx
     obtain ⟨hl, hg⟩ := (reps_iff _).1 hvs
     obtain ⟨hlt, hze⟩ := List.getElem?_eq_some_iff.1 hz
     have hlt' : n.toNat < vs.length := by omega
     have hr := hg n.toNat hlt hlt'
     rw [hze] at hr
     refine ⟨_, vs[n.toNat], h, hr, ?_⟩
     have hp := part_ok (w := w) hde he1 (by omega) (off := n.toNat * 1) vs (by omega)
     have hm : mkV P e ((vs.drop (n.toNat * 1)).take 1) = vs[n.toNat] := by
      unfold mkV
      rw [he2, Nat.mul_one, List.drop_eq_getElem_cons hlt']
      rfl
     rw [hm] at hp
     have hs : (sizeOf e).run P w = .ok 1 w := run_sizeOf he1 (by omega)
     simp [Instr.index, asIntOf, run_underlying hd, h0, h1, hs]
     simpa using hp
    | _ => exact h.elim
   ·split at h
    ·rename_i hb
     simp only [Bool.and_eq_true] at hb
     obtain ⟨⟨rfl, hb2⟩, hb3⟩ := hb
     have hpos := Nat.le_of_ble_eq_true hb2
     have hcl := Nat.eq_of_beq_eq_true hb3
     cases i with
     | int k n =>
      obtain ⟨⟨h0, h1⟩, h⟩ := h
      obtain ⟨rfl, _⟩ := rep_int_inv hi
      obtain ⟨i', d, _, hd, rfl⟩ := hT.facts hy
      obtain ⟨e, rfl, he1, he2⟩ : ∃ e, d = .array m e ∧ szOf P e = sz ∧ isAggB P e = true := by
       cases d <;> simp [kindOf] at hk
       rename_i m' e
       exact ⟨e, by rw [hk.1], hk.2.1, hk.2.2⟩
      obtain ⟨de, hde⟩ : ∃ de, P.underlying e = some de := by
       unfold szOf at he1
       split at he1
       ·rename_i de hde; exact ⟨de, hde⟩
       ·omega
      unfold Rep at hx
      obtain ⟨vs, rfl, hvs⟩ := hx
      have hl := reps_len _ hvs
      have hm : (n.toNat + 1) * sz ≤ m * sz := Nat.mul_le_mul_right _ (by omega)
      rw [Nat.add_mul] at hm
      have hp := part_ok (w := w) hde he1 (by omega) (off := n.toNat * sz) vs (by omega)
      have hmk : mkV P e ((vs.drop (n.toNat * sz)).take sz) = .agg ((vs.drop (n.toNat * sz)).take sz).toArray := by
       unfold mkV; rw [he2]; rfl
      rw [hmk] at hp
      have hs : (sizeOf e).run P w = .ok sz w := run_sizeOf he1 (by omega)
      refine ⟨_, .agg ((vs.drop (n.toNat * sz)).take sz).toArray, h, by unfold Rep; exact ⟨_, rfl, (hvs.drop _).take _⟩, ?_⟩
      simp [Instr.index, asIntOf, run_underlying hd, h0, h1, hs]
      simpa using hp
     | _ => exact h.elim
    ·exact h.elim
  ·exact h.elim
 | _ => exact h.elim
theorem subSl_zero {x : Value} {sz lo n : Nat} (h : lo + n ≤ lenSl x) : (∃ a c, subSl x sz lo n = .slice a n c) := by
 unfold lenSl at h
 split at h
 ·exact ⟨_, _, rfl⟩
 ·rename_i hx
  have : n = 0 := by omega
  subst this
  unfold subSl
  split
  ·exact ⟨_, _, rfl⟩
  ·exact ⟨_, _, rfl⟩
theorem run_len (hT : TOk P T) {t ty : TypeId} {x : AV} {u : Value} {K : AV → Prop} (hx : Rep C w x mu u) (h : lenK T t x K) :
  ∃ r z, K r ∧ Rep C w r mu z ∧ (Builtin.len_ #[t] ty #[u]).run P w = .ok z w := by
 unfold lenK at h
 replace h := (lkK_iff _ _ _).1 h; obtain ⟨y, hy, h⟩ := h
 split at h
 ·rename_i el sz by' ag hk
  obtain ⟨hu, _⟩ := hT.slice hy hk
  cases x with
  | sl sz es =>
   simp only at h
   unfold Rep at hx
   rcases hx with ⟨⟨ad, rfl⟩, rfl⟩ | ⟨b, o, cap, rfl, h1, h2, h3⟩
   ·exact ⟨_, _, h, rep_int (inK64.2 (by simp)), by simp [Builtin.len_, run_underlying hu, goInt]⟩
   ·exact ⟨_, _, h, rep_int (inK64.2 (by omega)), by simp [Builtin.len_, run_underlying hu, goInt]⟩
  | own l sz lo n =>
   simp only at h
   unfold Rep at hx
   obtain ⟨x, hm, hle, hmx, rfl⟩ := hx
   obtain ⟨a, c, hs⟩ := subSl_zero (sz := sz) hle
   exact ⟨_, _, h, rep_int (inK64.2 (by omega)), by simp [Builtin.len_, run_underlying hu, goInt, hs]⟩
  | raw v =>
   split at h
   ·rename_i heq; cases heq
   ·rename_i heq; cases heq
   ·rename_i hv
    simp only [AV.raw.injEq] at hv
    unfold Rep at hx
    subst hx
    subst hv
    exact ⟨_, _, h, rep_int (inK64.2 (by omega)), by simp [Builtin.len_, run_underlying hu, goInt]⟩
   ·exact h.elim
  | _ => exact h.elim
 ·rename_i hk
  have hu := hT.string hy hk
  cases x with
  | str l =>
   obtain ⟨rfl, hl⟩ := rep_str_inv hx
   exact ⟨_, _, h, rep_int (inK64.2 (by omega)), by simp [Builtin.len_, run_underlying hu, goInt, size_of_list]⟩
  | _ => exact h.elim
 ·exact h.elim
theorem run_conv (hT : TOk P T) {s d : TypeId} {x : AV} {u : Value} {K : AV → Prop} (hx : Rep C w x mu u) (h : convK T s d x K) :
  ∃ r z, K r ∧ Rep C w r mu z ∧ (convert s d u).run P w = .ok z w := by
 cases x with
 | int k n =>
  simp only [convK] at h
  replace h := (lkK_iff _ _ _).1 h; obtain ⟨y0, hy0, h⟩ := h
  replace h := (lkK_iff _ _ _).1 h; obtain ⟨y, hy, h⟩ := h
  obtain ⟨i, ys, _, hs, _⟩ := hT.facts hy0
  split at h
  ·rename_i k' hk
   have hu := hT.int hy hk
   obtain ⟨rfl, _⟩ := rep_int_inv hx
   exact ⟨_, _, h, rep_int (inK_Wr _ _), by simp [convert, run_underlying hs, run_underlying hu, Conv.intToInt, Wr]⟩
  ·rename_i hk
   have hu := hT.string hy hk
   obtain ⟨rfl, _⟩ := rep_int_inv hx
   obtain ⟨⟨h0, h1⟩, h⟩ := h
   refine ⟨_, _, h, rep_str (by simp), ?_⟩
   have e : Utf8.encode n = ⟨[UInt8.ofNat n.toNat].toArray⟩ := by
    have hv : Utf8.valid n = true := by simp [Utf8.valid]; omega
    unfold Utf8.encode
    simp only [hv, if_true]
    rw [if_pos (by omega)]
   simp [convert, run_underlying hs, run_underlying hu, Conv.intToString, e]
  ·exact h.elim
 | str l =>
  simp only [convK] at h
  replace h := (lkK_iff _ _ _).1 h; obtain ⟨y0, hy0, h⟩ := h
  replace h := (lkK_iff _ _ _).1 h; obtain ⟨y, hy, h⟩ := h
  obtain ⟨i, ys, _, hs, _⟩ := hT.facts hy0
  split at h
  ·rename_i hk
   have hu := hT.string hy hk
   have hx' := hx
   obtain ⟨rfl, _⟩ := rep_str_inv hx
   exact ⟨_, _, h, hx', by simp [convert, run_underlying hs, run_underlying hu]⟩
  ·exact h.elim
 | _ => exact h.elim
theorem run_bounds {isS : Bool} {lo hi : Option AV} {ul uh : Option Value} {len cap : Nat} (hl : ∀ a, lo = some a → ∃ v, ul = some v ∧ Rep C w a mu v) (hl' : lo = none → ul = none)
  (hh : ∀ a, hi = some a → ∃ v, uh = some v ∧ Rep C w a mu v) (hh' : hi = none → uh = none) {K : Int → Int → Prop} (h : optK lo 0 fun a => optK hi len fun b => K a b) :
  ∃ a b : Int, K a b ∧ (0 ≤ a → a ≤ b → b ≤ cap → (Instr.sliceBounds isS len cap ul uh none).run P w = .ok (a.toNat, b.toNat, cap) w) := by
 cases lo with
 | none =>
  cases hi with
  | none =>
   obtain rfl := hl' rfl
   obtain rfl := hh' rfl
   refine ⟨0, len, h, fun h1 h2 h3 => ?_⟩
   simp [Instr.sliceBounds]
  | some a =>
   obtain rfl := hl' rfl
   obtain ⟨v, rfl, hr⟩ := hh a rfl
   cases a with
   | int k n =>
    obtain ⟨rfl, _⟩ := rep_int_inv hr
    refine ⟨0, n, h, fun h1 h2 h3 => ?_⟩
    simp [Instr.sliceBounds, run_sliceBound, h2, h3]
   | _ => simp [optK] at h
 | some a =>
  obtain ⟨v, rfl, hr⟩ := hl a rfl
  cases a with
  | int k n =>
   obtain ⟨rfl, _⟩ := rep_int_inv hr
   cases hi with
   | none =>
    obtain rfl := hh' rfl
    refine ⟨n, len, h, fun h1 h2 h3 => ?_⟩
    simp [Instr.sliceBounds, run_sliceBound, h1, h2]
   | some b =>
    obtain ⟨u, rfl, hr2⟩ := hh b rfl
    cases b with
    | int k2 m =>
     obtain ⟨rfl, _⟩ := rep_int_inv hr2
     refine ⟨n, m, h, fun h1 h2 h3 => ?_⟩
     have e : (m.toNat : Int) = m := Int.toNat_of_nonneg (by omega)
     simp [Instr.sliceBounds, run_sliceBound, h1, h2, h3, e, show 0 ≤ m by omega]
    | _ => simp [optK] at h
  | _ => simp [optK] at h
theorem Rows.cut {sz : Nat} {es : List AV} {b o : Nat} (h : Rows C w sz es b o) (i j : Nat) : Rows C w sz ((es.take j).drop i) b (o + i * sz) := by
 rw [rows_iff] at *
 intro k hk
 have := h (i + k) (by simp at hk; omega)
 simp only [List.getElem_drop, List.getElem_take]
 rw [show o + i * sz + k * sz = o + (i + k) * sz by rw [Nat.add_mul]; omega]; exact this
theorem run_slice (hT : TOk P T) {t : TypeId} {x : AV} {u : Value} {lo hi : Option AV} {ul uh : Option Value} {K : AV → Prop} (hx : Rep C w x mu u)
  (hl : ∀ a, lo = some a → ∃ v, ul = some v ∧ Rep C w a mu v) (hl' : lo = none → ul = none)
  (hh : ∀ a, hi = some a → ∃ v, uh = some v ∧ Rep C w a mu v) (hh' : hi = none → uh = none) (h : sliceK T t x lo hi K) :
  ∃ r z, K r ∧ Rep C w r mu z ∧ (Instr.sliceAt t u ul uh none).run P w = .ok z w := by
 cases x with
 | str l =>
  simp only [sliceK] at h
  replace h := (lkK_iff _ _ _).1 h; obtain ⟨y, hy, h⟩ := h
  split at h
  ·rename_i hk
   have hu := hT.string hy hk
   obtain ⟨rfl, hlen⟩ := rep_str_inv hx
   obtain ⟨a, b, ⟨⟨h0, h1, h2⟩, h⟩, hrun⟩ := run_bounds (P := P) (isS := false) (cap := l.length) hl hl' hh hh' h
   have hrun := hrun h0 h1 h2
   refine ⟨_, _, h, rep_str (by simp; omega), ?_⟩
   have he : (⟨l.toArray⟩ : ByteArray).extract a.toNat b.toNat = ⟨((l.take b.toNat).drop a.toNat).toArray⟩ := by
    rw [ByteArray.extract_mk, List.drop_take]
   simp [Instr.sliceAt, Instr.slice, run_underlying hu, size_of_list, hrun, he]
  ·exact h.elim
 | sl sz es =>
  simp only [sliceK] at h
  replace h := (lkK_iff _ _ _).1 h; obtain ⟨y, hy, h⟩ := h
  split at h
  ·rename_i el esz by' ag hk
   split at h
   ·rename_i hb
    simp only [Bool.and_eq_true] at hb
    obtain rfl := Nat.eq_of_beq_eq_true hb.1
    have hpos := Nat.le_of_ble_eq_true hb.2
    obtain ⟨hu, hs, _⟩ := hT.slice hy hk
    unfold Rep at hx
    rcases hx with ⟨⟨ad, rfl⟩, rfl⟩ | ⟨b, o, cap, rfl, h6, h7, h8⟩
    ·obtain ⟨a, b, ⟨⟨h0, h1, h2⟩, h⟩, hrun⟩ := run_bounds (P := P) (isS := true) (cap := 0) hl hl' hh hh' h
     have hrun := hrun h0 h1 h2
     simp at h2
     obtain rfl : b = 0 := by omega
     obtain rfl : a = 0 := by omega
     refine ⟨_, .slice ad 0 0, h, by unfold Rep; exact .inl ⟨⟨ad, rfl⟩, by simp⟩, ?_⟩
     have hrun : (Instr.sliceBounds true 0 0 ul uh none).run P w = .ok (0, 0, 0) w := hrun
     cases ad <;> simp [Instr.sliceAt, Instr.slice, run_underlying hu, hrun, run_sizeOf hs hpos]
    ·obtain ⟨a, b', ⟨⟨h0, h1, h2⟩, h⟩, hrun⟩ := run_bounds (P := P) (isS := true) (cap := cap) hl hl' hh hh' h
     have hrun := hrun h0 h1 (by omega)
     by_cases hc : cap = a.toNat
     ·have hz : (es.take b'.toNat).drop a.toNat = [] := by apply List.drop_eq_nil_of_le; simp; omega
      refine ⟨_, .slice (some ⟨b, o, none⟩) (b'.toNat - a.toNat) (cap - a.toNat), h, ?_, ?_⟩
      ·unfold Rep; refine .inr ⟨b, o, cap - a.toNat, ?_, ?_, ?_, ?_⟩
       ·simp [hz]; omega
       ·simp [hz]
       ·omega
       ·rw [hz]; unfold Rows; trivial
      ·simp [Instr.sliceAt, Instr.slice, run_underlying hu, hrun, run_sizeOf hs hpos, if_pos hc]
     ·refine ⟨_, .slice (some ⟨b, o + a.toNat * esz, none⟩) (b'.toNat - a.toNat) (cap - a.toNat), h, ?_, ?_⟩
      ·unfold Rep; refine .inr ⟨b, _, cap - a.toNat, ?_, ?_, ?_, h8.cut _ _⟩
       ·simp; omega
       ·simp; omega
       ·omega
      ·simp [Instr.sliceAt, Instr.slice, run_underlying hu, hrun, run_sizeOf hs hpos, hc, add_lit]
   ·exact h.elim
  ·exact h.elim
 | own l sz p n =>
  simp only [sliceK] at h
  replace h := (lkK_iff _ _ _).1 h; obtain ⟨y, hy, h⟩ := h
  split at h
  ·rename_i el esz by' ag hk
   split at h
   ·rename_i hb
    simp only [Bool.and_eq_true] at hb
    obtain rfl := Nat.eq_of_beq_eq_true hb.1
    have hpos := Nat.le_of_ble_eq_true hb.2
    obtain ⟨hu, hs, _⟩ := hT.slice hy hk
    unfold Rep at hx
    obtain ⟨x, hm, hle, hmx, rfl⟩ := hx
    cases x with
    | slice ad N cap =>
     cases ad with
     | none =>
      simp only [lenSl] at hle
      obtain rfl : n = 0 := by omega
      obtain rfl : p = 0 := by omega
      obtain ⟨a, b, ⟨⟨h0, h1, h2, _⟩, h⟩, hrun⟩ := run_bounds (P := P) (isS := true) (cap := 0) hl hl' hh hh' h
      have hrun := hrun h0 h1 h2
      simp at h2
      obtain rfl : b = 0 := by omega
      obtain rfl : a = 0 := by omega
      refine ⟨_, .slice none 0 0, h, by unfold Rep; exact ⟨_, hm, by simp, hmx, by simp [subSl]⟩, ?_⟩
      have hrun : (Instr.sliceBounds true 0 0 ul uh none).run P w = .ok (0, 0, 0) w := hrun
      simp [Instr.sliceAt, Instr.slice, subSl, run_underlying hu, hrun, run_sizeOf hs hpos]
     | some ad =>
      simp only [lenSl] at hle hmx
      simp only [capSl] at hmx
      obtain ⟨a, b, ⟨⟨h0, h1, h2, h3⟩, h⟩, hrun⟩ := run_bounds (P := P) (isS := true) (cap := cap - p) hl hl' hh hh' h
      have hrun := hrun h0 h1 (by omega)
      refine ⟨_, .slice (some ⟨ad.block, ad.off + (p + a.toNat) * esz, none⟩) (b.toNat - a.toNat) (cap - (p + a.toNat)), h, ?_, ?_⟩
      ·unfold Rep
       exact ⟨_, hm, by simp only [lenSl]; omega, by simp only [lenSl, capSl]; exact hmx, by simp [subSl]⟩
      ·have e1 : cap - (p + a.toNat) = cap - p - a.toNat := by omega
       have e2 : ad.off + (p + a.toNat) * esz = ad.off + p * esz + a.toNat * esz := by rw [Nat.add_mul]; omega
       by_cases hc : cap - p = a.toNat
       ·have ha : a = 0 := by
         rcases h3 with h3 | h3
         ·omega
         ·exact h3
        subst ha
        have hc' : cap - p = 0 := hc
        have hrun : (Instr.sliceBounds true n (cap - p) ul uh none).run P w = .ok (0, b.toNat, cap - p) w := hrun
        rw [hc'] at hrun
        simp [Instr.sliceAt, Instr.slice, subSl, run_underlying hu, hrun, run_sizeOf hs hpos, hc']
       ·simp [Instr.sliceAt, Instr.slice, subSl, run_underlying hu, hrun, run_sizeOf hs hpos, hc, add_lit, e1, e2]
    | _ =>
     simp only [lenSl] at hle
     obtain rfl : n = 0 := by omega
     obtain rfl : p = 0 := by omega
     obtain ⟨a, b, ⟨⟨h0, h1, h2, _⟩, h⟩, hrun⟩ := run_bounds (P := P) (isS := true) (cap := 0) hl hl' hh hh' h
     have hrun := hrun h0 h1 h2
     simp at h2
     obtain rfl : b = 0 := by omega
     obtain rfl : a = 0 := by omega
     refine ⟨_, .slice none 0 0, h, by unfold Rep; exact ⟨_, hm, by simp, hmx, by simp [subSl]⟩, ?_⟩
     have hrun : (Instr.sliceBounds true 0 0 ul uh none).run P w = .ok (0, 0, 0) w := hrun
     simp [Instr.sliceAt, Instr.slice, subSl, run_underlying hu, hrun, run_sizeOf hs hpos]
   ·exact h.elim
  ·exact h.elim
 | _ => exact h.elim
theorem TOk.map {P : Program} {T : List TY} (h : TOk P T) {t : TypeId} {y : TY} (e : T[t]? = some y) {kt vt : Nat} (hk : y.k = .map kt vt) : P.underlying t = some (.map kt vt) := by
 obtain ⟨i, d, h1, h2, rfl⟩ := h.facts e
 cases d <;> simp_all [kindOf]
def KeyD (d : TypeDesc) (k : AV) : Prop := (d = .string ∧ ∃ s, k = .str s) ∨ ∃ i n, d = .int i ∧ k = .int i n
theorem keyOK_d (hT : TOk P T) {t : TypeId} {y : TY} (e : T[t]? = some y) {k : AV} (h : keyOK y.k k = true) : ∃ d, P.underlying t = some d ∧ KeyD d k := by
 unfold keyOK at h
 split at h
 ·rename_i hk
  split at h
  ·exact ⟨_, hT.string e hk, .inl ⟨rfl, _, rfl⟩⟩
  ·cases h
 ·rename_i i hk
  split at h
  ·rename_i j n
   obtain rfl := kEq_eq h
   exact ⟨_, hT.int e hk, .inr ⟨_, _, rfl, rfl⟩⟩
  ·cases h
 ·cases h
theorem keyEq_iff {k a : AV} {kv av : Value} (hl : keyLike k a = true) (hk : Rep C w k mu kv) (ha : Rep C w a Mu.none av) {d : TypeDesc} (hd : KeyD d k) :
  Instr.sameNow d kv av = some (keyEq k a) ∧ (keyEq k a = true → a = k ∧ av = kv) := by
 rcases hd with ⟨rfl, s, rfl⟩ | ⟨i, n, rfl, rfl⟩
 ·unfold keyLike at hl
  simp only at hl
  split at hl
  ·rename_i q
   obtain ⟨rfl, _⟩ := rep_str_inv hk
   obtain ⟨rfl, _⟩ := rep_str_inv ha
   refine ⟨?_, fun h => ?_⟩
   ·simp only [Instr.sameNow, keyEq, Option.some.injEq]
    rw [Bool.eq_iff_iff, bytes_beq]; simp
   ·simp only [keyEq, beq_iff_eq] at h
    subst h; exact ⟨rfl, rfl⟩
  ·cases hl
 ·unfold keyLike at hl
  simp only at hl
  split at hl
  ·rename_i j m
   obtain rfl := kEq_eq hl
   obtain ⟨rfl, _⟩ := rep_int_inv hk
   obtain ⟨rfl, _⟩ := rep_int_inv ha
   refine ⟨?_, fun h => ?_⟩
   ·simp only [Instr.sameNow, keyEq, hl, Bool.true_and, if_true, Option.some.injEq]
    rfl
   ·simp only [keyEq, hl, Bool.true_and, decide_eq_true_eq] at h
    subst h; exact ⟨rfl, rfl⟩
  ·cases hl
theorem find_ok {k : AV} {kv : Value} {d : TypeDesc} (hd : KeyD d k) (hk : Rep C w k mu kv) : ∀ (ks : List AV) (es : List MapEntry) (i : Nat), (∀ a ∈ ks, keyLike k a = true) → Reps C w ks Mu.none (es.map MapEntry.key) →
  Instr.findNow d kv es i = some ((midx k ks).bind fun j => es[j]?.map fun e => (i + j, e.val)) ∧ ∀ j, midx k ks = some j → ∃ e, es[j]? = some e ∧ e.key = kv ∧ ks[j]? = some k
 | [], es, i, _, hr => by
  unfold Reps at hr
  have : es = [] := by simpa using hr
  subst this
  exact ⟨rfl, fun j h => by cases h⟩
 | a :: ks, es, i, hl, hr => by
  unfold Reps at hr
  obtain ⟨v, vs', he, h2, h3⟩ := hr
  cases es with
  | nil => cases he
  | cons e es =>
   simp only [List.map_cons, List.cons.injEq] at he
   obtain ⟨rfl, rfl⟩ := he
   obtain ⟨s1, s2⟩ := keyEq_iff (hl a (by simp)) hk h2 hd
   obtain ⟨f1, f2⟩ := find_ok hd hk ks es (i + 1) (fun b hb => hl b (by simp [hb])) h3
   unfold midx
   cases hq : keyEq k a with
   | true =>
    obtain ⟨q1, q2⟩ := s2 hq
    rw [hq] at s1
    exact ⟨by simp [Instr.findNow, s1], fun j h => by simp at h; subst h; exact ⟨e, by simp, q2, by simp [q1]⟩⟩
   | false =>
    rw [hq] at s1
    refine ⟨?_, fun j h => ?_⟩
    ·simp only [Instr.findNow, s1, f1, cond_false]
     cases midx k ks with
     | none => rfl
     | some j => simp [Nat.add_assoc, Nat.add_comm 1 j]
    ·cases hm : midx k ks with
     | none => simp [hm] at h
     | some j' =>
      simp [hm] at h
      subst h
      obtain ⟨e', g1, g2, g3⟩ := f2 j' hm
      exact ⟨e', by simpa using g1, g2, by simpa using g3⟩
theorem KeyD.isKey {d : TypeDesc} {k : AV} (hd : KeyD d k) {v : Value} (hk : Rep C w k mu v) : IsKey d v := by
 rcases hd with ⟨rfl, s, rfl⟩ | ⟨i, n, rfl, rfl⟩
 ·obtain ⟨rfl, _⟩ := rep_str_inv hk; simp [IsKey]
 ·obtain ⟨rfl, _⟩ := rep_int_inv hk; simp [IsKey]
theorem mapOf_ok (hh : HeapRel C w fresh mu H) {x : AV} {u : Value} (hx : Rep C w x mu u) {K : List AV → List AV → Prop} (h : mapOfK H x K) :
  ∃ ks vs es, K ks vs ∧ Reps C w ks Mu.none (es.toList.map MapEntry.key) ∧ Reps C w vs Mu.none (es.toList.map MapEntry.val) ∧ ((u = .map none ∧ es = #[]) ∨ ∃ b clock, u = .map (some b) ∧ w.heap[b]? = some (.map es clock)) := by
 unfold mapOfK at h
 split at h
 ·unfold Rep at hx
  rcases hx with ⟨h1, rfl, rfl⟩ | ⟨b, es, clock, h1, h2, h3, h4, h5⟩
  ·exact ⟨_, _, #[], h, by unfold Reps; rfl, by unfold Reps; rfl, .inl ⟨h1, rfl⟩⟩
  ·exact ⟨_, _, es, h, h4, h5, .inr ⟨b, clock, h1, h3⟩⟩
 ·rename_i l
  replace h := (lkK_iff _ _ _).1 h; obtain ⟨ob, hob, h⟩ := h
  cases ob <;> first | exact h.elim | skip
  rename_i ks vs
  obtain ⟨b, es, clock, h1, h2, h3⟩ := hh.maps l ks vs hob
  unfold Rep at hx
  obtain ⟨b', h4, h5⟩ := hx
  rw [h1] at h4
  simp only [Option.some.injEq, GO.blk.injEq] at h4
  subst h4
  exact ⟨_, _, es, h, (h3 _ _).1, (h3 _ _).2, .inr ⟨b, clock, h5, h2⟩⟩
 ·exact h.elim
theorem run_lookup (hT : TOk P T) (hh : HeapRel C w fresh mu H) {t : TypeId} {x k : AV} {ok : Bool} {u kv : Value} {K : AV → Prop} (hx : Rep C w x mu u) (hk : Rep C w k mu kv) (h : lookupK T H t x k ok K) :
  ∃ r z, K r ∧ Rep C w r mu z ∧ (Instr.lookup t u kv ok).run P w = .ok z w := by
 unfold lookupK at h
 replace h := (lkK_iff _ _ _).1 h; obtain ⟨y, hy, h⟩ := h
 split at h
 ·rename_i kt vt hyk
  have hu := hT.map hy hyk
  replace h := (lkK_iff _ _ _).1 h; obtain ⟨yk, hyk2, h⟩ := h
  split at h
  ·rename_i hko
   obtain ⟨d, hd, hkd⟩ := keyOK_d hT hyk2 hko
   obtain ⟨ks, vs, es, ⟨hl, hn, hs⟩, hks, hvs, hes⟩ := mapOf_ok hh hx h
   obtain ⟨f1, f2⟩ := find_ok hkd hk ks es.toList 0 hl hks
   have hck : (Instr.checkKey es.isEmpty 10000 kt kv).run P w = .ok () w := run_checkKey (P := P) (w := w) hd (hkd.isKey hk) es.isEmpty 9999
   have hfk := run_findKey (w := w) hd f1
   have hrun : (Instr.lookup t u kv ok).run P w = ((do
     let (v, ok') ← match ← Instr.findKey kt kv es.toList with
      | some (_, v) => pure (v, true)
      | none => pure (← zeroValue vt, false)
     pure (if ok then Value.tuple #[v, .bool ok'] else v) : Sem Value)).run P w := by
    rcases hes with ⟨rfl, rfl⟩ | ⟨b, clock, rfl, hb⟩
    ·simp only [Instr.lookup, Sem.run_bind, run_underlying hu, Result.andThen_ok, Sem.run_pure]
     rw [hck]; rfl
    ·simp only [Instr.lookup, Sem.run_bind, run_underlying hu, Result.andThen_ok, Go.MapKept.run_getObj_map hb, Sem.run_pure]
     rw [hck]; rfl
   have hkl := reps_len _ hks
   have hvl := reps_len _ hvs
   simp only [List.length_map] at hkl hvl
   cases hm : midx k ks with
   | none =>
    rw [hm] at hfk
    simp only [Option.bind_none] at hfk
    have hn := hn (by simp [mget, hm])
    obtain ⟨r, z, h1, h2, h3⟩ := zero_run (C := C) (w := w) (mu := mu) hT hn
    cases ok with
    | true => exact ⟨_, .tuple #[z, .bool false], h1, by unfold Rep; exact ⟨[z, .bool false], rfl, by unfold Reps; exact ⟨_, _, rfl, h2, by unfold Reps; exact ⟨_, _, rfl, rep_lit, by unfold Reps; rfl⟩⟩⟩, by rw [hrun]; simp [hfk, h3]⟩
    | false => exact ⟨_, z, (AV.force_iff _ _).1 h1, h2, by rw [hrun]; simp [hfk, h3]⟩
   | some j =>
    rw [hm] at hfk
    obtain ⟨e, g1, g2, g3⟩ := f2 j hm
    have hjl : j < es.toList.length := (List.getElem?_eq_some_iff.1 g1).1
    simp only [Option.bind_some, g1, Option.map_some] at hfk
    have hvj : j < vs.length := by omega
    have h1 := hs vs[j] (by simp [mget, hm, hvj])
    have h2 := ((reps_iff _).1 hvs).2 j hvj (by simp; omega)
    have hej : (es.toList.map MapEntry.val)[j]'(by simp; omega) = e.val := by
     rw [List.getElem_map]
     have := (List.getElem?_eq_some_iff.1 g1).2
     rw [this]
    rw [hej] at h2
    have h2 := Rep.mono (Ext.refl _ _) _ (MuLe.none mu) h2
    cases ok with
    | true => exact ⟨_, .tuple #[e.val, .bool true], h1, by unfold Rep; exact ⟨[e.val, .bool true], rfl, by unfold Reps; exact ⟨_, _, rfl, h2, by unfold Reps; exact ⟨_, _, rfl, rep_lit, by unfold Reps; rfl⟩⟩⟩, by rw [hrun]; simp [hfk]⟩
    | false => exact ⟨_, e.val, h1, h2, by rw [hrun]; simp [hfk]⟩
  ·exact h.elim
 ·exact h.elim
end
end Go.Av
set_option linter.unusedSimpArgs false
set_option linter.unusedVariables false
namespace Go.Av
section
variable {P : Program} {C : CellSet} {w : World} {mu : Mu} {fresh : Nat → Prop} {H : List HO} {T : List TY}
theorem binK_guard {op : BinOp} {t : TypeId} {xo yo : Operand} {x y : AV} {u v : Value} {K : AV → Prop} (hT : TOk P T) (hx : Rep C w x mu u) (hy : Rep C w y mu v) (h : binK T op t x y K) :
  (eqGuard op t xo yo u v).run P w = .ok () w := by
 unfold binK at h
 split at h
 ·obtain ⟨rfl, _⟩ := rep_int_inv hx
  unfold eqGuard; split <;> simp
 ·obtain rfl := rep_bool_inv hx
  unfold eqGuard; split <;> simp
 ·obtain rfl := rep_lit_inv hx
  unfold eqGuard; split <;> simp
 ·obtain ⟨rfl, _⟩ := rep_str_inv hx
  unfold eqGuard; split <;> simp
 ·split at h
  ·unfold Rep at hx hy
   obtain ⟨us, rfl, hx⟩ := hx
   obtain ⟨vs, rfl, hy⟩ := hy
   exact run_eqGuard_agg w op t xo yo _ _ (aggEq_ok hT hx hy h).1
  ·exact h.elim
 ·exact h.elim
theorem eqn_nn (d : Nat) (t : TypeId) {ms : Array (String × TypeId)} (h : P.underlying t = some (.interface ms)) : (Op.equalIn (d + 1) t .nilIface .nilIface).run P w = .ok true w := by
 simp [Op.equalIn, run_underlying h]
theorem eqn_ni (d : Nat) (t u : TypeId) (x : Value) {ms : Array (String × TypeId)} (h : P.underlying t = some (.interface ms)) : (Op.equalIn (d + 1) t .nilIface (.iface u x)).run P w = .ok false w := by
 simp [Op.equalIn, run_underlying h]
theorem eqn_in (d : Nat) (t u : TypeId) (x : Value) {ms : Array (String × TypeId)} (h : P.underlying t = some (.interface ms)) : (Op.equalIn (d + 1) t (.iface u x) .nilIface).run P w = .ok false w := by
 simp [Op.equalIn, run_underlying h]
theorem eqg_constL {op : BinOp} {t : TypeId} {c : Value} {y : Operand} : (eqGuard op t (.const c) y .nilIface .nilIface).run P w = .ok () w := by
 cases op <;> simp [eqGuard]
theorem eqg_constR {op : BinOp} {t : TypeId} {c : Value} {x : Operand} : (eqGuard op t x (.const c) .nilIface .nilIface).run P w = .ok () w := by
 cases op <;> cases x <;> simp [eqGuard]
theorem eqg_ni {op : BinOp} {t u : TypeId} {c : Value} {x y : Operand} : (eqGuard op t x y .nilIface (.iface u c)).run P w = .ok () w := by
 cases op <;> simp [eqGuard]
theorem eqg_in {op : BinOp} {t u : TypeId} {c : Value} {x y : Operand} : (eqGuard op t x y (.iface u c) .nilIface).run P w = .ok () w := by
 cases op <;> simp [eqGuard]
theorem run_ifc {op : BinOp} {t : TypeId} {u v : Value} {r : Bool} {K : AV → Prop} (hT : TOk P T) (h : ifcK T op t r K) (hn : ∀ (d : Nat) (ms : Array (String × TypeId)), P.underlying t = some (.interface ms) → (Op.equalIn (d + 1) t u v).run P w = .ok r w)
  (he : binOp .eql t u v = (do pure (.bool (← Op.equal t u v)))) (he' : binOp .neq t u v = (do pure (.bool (!(← Op.equal t u v))))) :
  ∃ r z, K r ∧ Rep C w r mu z ∧ (binOp op t u v).run P w = .ok z w := by
 unfold ifcK at h
 replace h := (lkK_iff _ _ _).1 h; obtain ⟨y, hy, h⟩ := h
 obtain ⟨i, d, hi, hd, hyy⟩ := hT.facts hy
 subst hyy
 simp only at h
 cases d <;> first | exact h.elim | skip
 rename_i ms
 have hq : (Op.equal t u v).run P w = .ok r w := hn 9999 ms hd
 simp only [kindOf] at h
 cases op <;> simp only [] at h <;> first | exact h.elim | skip
 ·rw [he]
  cases r with
  | true => exact ⟨_, _, h, (by unfold Rep; rfl : Rep C w (.lit true) mu (.bool true)), by simp only [Sem.run_bind, hq]; rfl⟩
  | false => exact ⟨_, _, h, (by unfold Rep; rfl : Rep C w (.lit false) mu (.bool false)), by simp only [Sem.run_bind, hq]; rfl⟩
 ·rw [he']
  cases r with
  | true => exact ⟨_, _, h, (by unfold Rep; rfl : Rep C w (.lit false) mu (.bool false)), by simp only [Sem.run_bind, hq]; rfl⟩
  | false => exact ⟨_, _, h, (by unfold Rep; rfl : Rep C w (.lit true) mu (.bool true)), by simp only [Sem.run_bind, hq]; rfl⟩
theorem run_nil {op : BinOp} {t : TypeId} {xo yo : Operand} {x y : AV} {u v : Value} {c : Bool} {K : AV → Prop} (hT : TOk P T) (hx : Rep C w x mu u) (hy : Rep C w y mu v) (hc : c = true → isCo xo = true ∨ isCo yo = true) (h : nilK T op t x y c K) :
  (eqGuard op t xo yo u v).run P w = .ok () w ∧ ∃ r z, K r ∧ Rep C w r mu z ∧ (binOp op t u v).run P w = .ok z w := by
 unfold nilK at h
 split at h
 ·split at h
  ·split at h
   ·unfold Rep at hx hy
    obtain ⟨y', rfl, _⟩ := hx
    subst hy
    exact ⟨eqg_in, run_ifc hT h (fun d ms hms => eqn_in d _ _ _ hms) rfl rfl⟩
   ·exact h.elim
  ·exact h.elim
 ·split at h
  ·split at h
   ·split at h
    ·split at h
     ·unfold Rep at hx hy
      subst hx; subst hy
      refine ⟨?_, run_ifc hT h (fun d ms hms => eqn_nn d _ hms) rfl rfl⟩
      rcases hc rfl with k | k
      ·cases xo <;> first | exact eqg_constL | cases k
      ·cases yo <;> first | exact eqg_constR | cases k
     ·exact h.elim
    ·exact h.elim
   ·unfold Rep at hx hy
    obtain ⟨y', rfl, _⟩ := hy
    subst hx
    exact ⟨eqg_ni, run_ifc hT h (fun d ms hms => eqn_ni d _ _ _ hms) rfl rfl⟩
   ·exact h.elim
  ·exact h.elim
 ·exact ⟨binK_guard hT hx hy h, run_bin hT hx hy h⟩
theorem run_min {ts : Array TypeId} {ty : TypeId} {x y : AV} {u v : Value} {K : AV → Prop} (hx : Rep C w x mu u) (hy : Rep C w y mu v) (h : minK x y K) : ∃ r z, K r ∧ Rep C w r mu z ∧ (Builtin.min_ ts ty #[u, v]).run P w = .ok z w := by
 cases x <;> first | exact h.elim | skip
 rename_i k m
 cases y <;> first | exact h.elim | skip
 rename_i k' n
 simp only [minK] at h
 split at h
 ·rename_i hk
  obtain rfl := kEq_eq hk
  obtain ⟨rfl, h1⟩ := rep_int_inv hx
  obtain ⟨rfl, h2⟩ := rep_int_inv hy
  have e : (if n < m then n else m) = min m n := by omega
  refine ⟨_, _, h, rep_int ?_, by simp [Builtin.min_, Builtin.min2, ← e]⟩
  rcases Int.le_total m n with q | q
  ·rw [Int.min_eq_left q]; exact h1
  ·rw [Int.min_eq_right q]; exact h2
 ·exact h.elim
theorem mapK_ev {E : List AV} {a : Act} (he : Reps C w E mu a.tmps.toList) : ∀ (l : List Operand), Reps C w (l.map (evD E)) mu (l.map a.eval)
 | [] => by simp [Reps]
 | o :: l => by simp only [List.map_cons]; unfold Reps; exact ⟨_, _, rfl, rep_ev he o, mapK_ev he l⟩
theorem pure_sound (hT : TOk P T) (hh : HeapRel C w fresh mu H) {E : List AV} {a : Act} (he : Reps C w E mu a.tmps.toList) {o : Oper} {K : AV → Prop} (h : pureK T E H o.op K) :
  ∃ r v, K r ∧ Rep C w r mu v ∧ (execOp a.eval o).run P w = .ok (.value v) w := by
 have ev := fun o => rep_ev he o
 unfold pureK at h
 unfold execOp
 split at h
 case h_1 x ho => rw [evK_iff] at h; exact ⟨_, _, h, ev x, by simp [ho]⟩
 case h_2 x ho => rw [evK_iff] at h; exact ⟨_, _, h, ev x, by simp [ho]⟩
 case h_3 c x y ho =>
  rw [evK_iff] at h
  have hc := ev c
  split at h
  ·rename_i t hb
   rw [hb] at hc
   have hc := rep_lit_inv hc
   cases t with
   | true => simp only at h; rw [evK_iff] at h; exact ⟨_, _, h, ev x, by simp [ho, hc, asBool]⟩
   | false => simp only at h; rw [evK_iff] at h; exact ⟨_, _, h, ev y, by simp [ho, hc, asBool]⟩
  ·exact h.elim
 case h_4 op t x y ty ho =>
  rw [evK_iff, evK_iff] at h
  obtain ⟨h0, r, z, h1, h2, h3⟩ := run_nil (xo := x) (yo := y) hT (ev x) (ev y) (fun hc => by simpa using hc) h
  exact ⟨r, z, h1, h2, by simp [ho, h3, h0]⟩
 case h_5 op t x ho =>
  rw [evK_iff] at h
  obtain ⟨r, z, h1, h2, h3⟩ := run_un (P := P) (ev x) h
  exact ⟨r, z, h1, h2, by simp [ho, h3]⟩
 case h_6 t x ho =>
  rw [evK_iff] at h
  obtain ⟨r, z, h1, h2, h3⟩ := run_loadK hT hh (ev x) h
  exact ⟨r, z, h1, h2, by simp [ho, h3]⟩
 case h_7 t x f ho =>
  rw [evK_iff] at h
  obtain ⟨r, z, h1, h2, h3⟩ := run_fieldAddr hT (ev x) h
  exact ⟨r, z, h1, h2, by simp [ho, h3]⟩
 case h_8 t x f ho =>
  rw [evK_iff] at h
  obtain ⟨r, z, h1, h2, h3⟩ := run_field hT (ev x) h
  exact ⟨r, z, h1, h2, by simp [ho, h3]⟩
 case h_9 t x i ho =>
  rw [evK_iff, evK_iff] at h
  obtain ⟨r, z, h1, h2, h3⟩ := run_indexAddr hT hh (ev x) (ev i) h
  exact ⟨r, z, h1, h2, by simp [ho, h3]⟩
 case h_10 t x i ho =>
  rw [evK_iff, evK_iff] at h
  obtain ⟨r, z, h1, h2, h3⟩ := run_index hT (ev x) (ev i) h
  exact ⟨r, z, h1, h2, by simp [ho, h3]⟩
 case h_11 s d x ho =>
  rw [evK_iff] at h
  obtain ⟨r, z, h1, h2, h3⟩ := run_conv hT (ev x) h
  exact ⟨r, z, h1, h2, by simp [ho, h3]⟩
 case h_12 x i ho =>
  rw [evK_iff] at h
  have hx := ev x
  split at h
  ·rename_i vs hb
   rw [hb] at hx
   replace h := (lkK_iff _ _ _).1 h; obtain ⟨v, hv, h⟩ := h
   rw [AV.force_iff] at h
   unfold Rep at hx
   obtain ⟨us, hu, hr⟩ := hx
   obtain ⟨hl, hg⟩ := (reps_iff _).1 hr
   obtain ⟨hi, hvi⟩ := List.getElem?_eq_some_iff.1 hv
   have := hg i hi (by omega)
   rw [hvi] at this
   exact ⟨v, _, h, this, by simp [ho, hu, Instr.extract, show i < us.length by omega]⟩
  ·exact h.elim
 case h_13 x ho =>
  rw [evK_iff] at h
  have hx := ev x
  generalize hev : evD E x = ex at h hx
  cases ex with
  | at_ cs =>
   have hx' := hx
   unfold Rep at hx; obtain ⟨b, o, hp, _⟩ := hx
   exact ⟨_, _, h, hx', by simp [ho, hp]⟩
  | ptr l o =>
   have hx' := hx
   unfold Rep at hx; obtain ⟨b, _, hp⟩ := hx
   exact ⟨_, _, h, hx', by simp [ho, hp]⟩
  | el l sz i o =>
   have hx' := hx
   unfold Rep at hx; obtain ⟨b, _, _, _, hp⟩ := hx
   exact ⟨_, _, h, hx', by simp [ho, hp]⟩
  | fn f cap =>
   have hx' := hx
   unfold Rep at hx; obtain ⟨vs, hp, _⟩ := hx
   exact ⟨_, _, h, hx', by simp [ho, hp]⟩
  | mv f cap =>
   have hx' := hx
   unfold Rep at hx; obtain ⟨vs, hp, _⟩ := hx
   exact ⟨_, _, h, hx', by simp [ho, hp]⟩
  | raw v =>
   simp only at h
   split at h
   case h_2 => exact h.elim
   split at h
   case h_2 => exact h.elim
   have hx' := hx
   unfold Rep at hx
   exact ⟨_, _, h, hx', by simp [ho, hx]⟩
  | _ => exact h.elim
 case h_14 fn first cap ho =>
  split at h
  ·rename_i f
   split at h
   ·rename_i hf
    rw [mapK_iff (evK E) (evD E) (evK_iff E)] at h
    have h1 : first = #[] := by
     cases first; simp_all
    subst h1
    refine ⟨_, .func (.func f) #[] (cap.toList.map a.eval).toArray, h, ?_, ?_⟩
    ·unfold Rep; exact ⟨_, rfl, mapK_ev he _⟩
    ·cases cap; simp [ho, Instr.makeFunc]
   ·split at h
    ·rename_i hc
     rw [mapK_iff (evK E) (evD E) (evK_iff E)] at h
     have h1 : cap = #[] := by
      cases cap; simp_all
     subst h1
     refine ⟨_, .func (.func f) (first.toList.map a.eval).toArray #[], h, ?_, ?_⟩
     ·unfold Rep; exact ⟨_, rfl, mapK_ev he _⟩
     ·cases first; simp [ho, Instr.makeFunc]
    ·exact h.elim
  ·exact h.elim
 case h_15 t x ho =>
  rw [evK_iff] at h
  replace h := (lkK_iff _ _ _).1 h; obtain ⟨y, hy, h⟩ := h
  obtain ⟨i, d, hi, hd, rfl⟩ := hT.facts hy
  refine ⟨.iface t (evD E x), .iface t (a.eval x), ?_, by unfold Rep; exact ⟨_, rfl, ev x⟩, ?_⟩
  ·split at h
   ·exact h.elim
   ·exact h
  ·have : ∀ ms, d ≠ .interface ms := by
    intro ms hm
    subst hm
    simp [kindOf] at h
   cases d <;> simp_all [Instr.makeInterface, run_underlying hd]
 case h_16 t x lo hi mx ho =>
  split at h
  ·rw [evK_iff] at h
   have ev' : ∀ (o : Operand) (a' : AV), (some (evD E o)) = some a' → ∃ v, some (a.eval o) = some v ∧ Rep C w a' mu v := fun o a' e => by
    simp only [Option.some.injEq] at e; subst e; exact ⟨_, rfl, ev o⟩
   cases lo with
   | none =>
    cases hi with
    | none =>
     obtain ⟨r, z, h1, h2, h3⟩ := run_slice (ul := none) (uh := none) hT (ev x) (by simp) (by simp) (by simp) (by simp) h
     exact ⟨r, z, h1, h2, by simp [ho, h3]⟩
    | some q =>
     simp only at h
     rw [evK_iff] at h
     obtain ⟨r, z, h1, h2, h3⟩ := run_slice (ul := none) (uh := some (a.eval q)) hT (ev x) (by simp) (by simp) (ev' q) (by simp) h
     exact ⟨r, z, h1, h2, by simp [ho, h3]⟩
   | some p =>
    cases hi with
    | none =>
     simp only at h
     rw [evK_iff] at h
     obtain ⟨r, z, h1, h2, h3⟩ := run_slice (ul := some (a.eval p)) (uh := none) hT (ev x) (ev' p) (by simp) (by simp) (by simp) h
     exact ⟨r, z, h1, h2, by simp [ho, h3]⟩
    | some q =>
     simp only at h
     rw [evK_iff, evK_iff] at h
     obtain ⟨r, z, h1, h2, h3⟩ := run_slice (ul := some (a.eval p)) (uh := some (a.eval q)) hT (ev x) (ev' p) (by simp) (ev' q) (by simp) h
     exact ⟨r, z, h1, h2, by simp [ho, h3]⟩
  ·exact h.elim
 case h_17 c ho =>
  split at h
  ·rename_i hc
   split at h
   ·rename_i x hx
    split at h
    ·rename_i t ht
     rw [evK_iff] at h
     obtain ⟨cal, args, tys⟩ := c
     simp only at hc hx ht
     subst hc
     obtain rfl : args = #[x] := by cases args; simp_all
     obtain rfl : tys = #[t] := by cases tys; simp_all
     obtain ⟨r, z, h1, h2, h3⟩ := run_len (ty := o.type) hT (ev x) h
     exact ⟨r, z, h1, h2, by simp [ho, resolve, invoke, builtin, h3]⟩
    ·exact h.elim
   ·exact h.elim
  ·rename_i hc
   split at h
   ·rename_i x y hx
    rw [evK_iff, evK_iff] at h
    obtain ⟨cal, args, tys⟩ := c
    simp only at hc hx
    subst hc
    obtain rfl : args = #[x, y] := by cases args; simp_all
    obtain ⟨r, z, h1, h2, h3⟩ := run_min (P := P) (w := w) (ts := tys) (ty := o.type) (ev x) (ev y) h
    exact ⟨r, z, h1, h2, by simp [ho, resolve, invoke, builtin, h3]⟩
   ·exact h.elim
  ·exact h.elim
 case h_18 t x i ok ho =>
  rw [evK_iff, evK_iff] at h
  obtain ⟨r, z, h1, h2, h3⟩ := run_lookup hT hh (ev x) (ev i) h
  exact ⟨r, z, h1, h2, by simp [ho, h3]⟩
 case h_19 => exact h.elim
end
end Go.Av
set_option linter.unusedSimpArgs false
set_option linter.unusedVariables false
namespace Go.Av
def alK (s : Option Nat) (H : List HO) (ob : HO) (K : List HO → Nat → Prop) : Prop :=
 match s with
 | none => snocK H ob K
 | some n => lkK H n fun o => match o with | .dead => updK H n ob fun H' => K H' n | _ => False
structure Al (H : List HO) (n : Nat) (H' : List HO) (ob : HO) : Prop where
 len : H.length ≤ H'.length
 lt : n < H'.length
 get : H'[n]? = some ob
 other : ∀ i, i ≠ n → H'[i]? = H[i]?
 free : H[n]? = none ∨ H[n]? = some .dead
theorem alK_al {s : Option Nat} {H : List HO} {ob : HO} {K : List HO → Nat → Prop} (h : alK s H ob K) : ∃ H' n, Al H n H' ob ∧ K H' n := by
 unfold alK at h
 split at h
 ·rw [snocK_iff] at h
  refine ⟨_, _, ⟨by simp, by simp, by simp, fun i hi => ?_, .inl (by simp)⟩, h⟩
  rw [List.getElem?_append]
  split
  ·rfl
  ·rw [List.getElem?_eq_none (by simp; omega), List.getElem?_eq_none (by omega)]
 ·rename_i n
  replace h := (lkK_iff _ _ _).1 h; obtain ⟨o, ho, h⟩ := h
  split at h
  ·rw [updK_iff] at h
   have hl := (List.getElem?_eq_some_iff.1 ho).1
   exact ⟨_, n, ⟨by simp, by simpa using hl, by simp [hl], fun i hi => List.getElem?_set_ne (Ne.symm hi), .inr ho⟩, h⟩
  ·exact h.elim
section
variable {G : Cx} {C : CellSet} {w : World} {mu : Mu} {H : List HO} {E : List AV} {a : Act}
def Mu.set (mu : Mu) (l : Nat) (g : Option GO) : Mu := fun i => if i = l then g else mu i
theorem Mu.set_same (mu : Mu) (l : Nat) (g : Option GO) : mu.set l g l = g := by simp [Mu.set]
theorem Mu.set_ne (mu : Mu) {l i : Nat} (g : Option GO) (h : i ≠ l) : mu.set l g i = mu i := by simp [Mu.set, h]
theorem muLe_new {mu : Mu} {l : Nat} (g : Option GO) (h : mu l = none) : MuLe mu (mu.set l g) := fun i x e => by
 by_cases hi : i = l
 ·subst hi; rw [h] at e; cases e
 ·rw [Mu.set_ne _ _ hi]; exact e
theorem blkMu_mono {mu mu' : Mu} (h : ∀ l b, mu l = some (.blk b) → mu' l = some (.blk b)) : MuLe (blkMu mu) (blkMu mu') := fun l g e => by
 unfold blkMu at *
 split at e
 ·rename_i b hb; rw [h l b hb]; exact e
 ·cases e
theorem ext_alloc (hlt : ∀ b o, C b o → b < w.heap.size) (o : Obj) : Ext C C w (w.alloc o) :=
 ⟨fun _ _ h => h, fun b i hc => heap_alloc_old _ _ (hlt b i hc)⟩
theorem ext_drew : Ext C C w w.drew := ⟨fun _ _ h => h, fun _ _ _ => rfl⟩
theorem ext_setRow {g : Nat} (hg : ∀ o, ¬ C g o) (cs : Array Value) : Ext C C w (w.setRow g cs) :=
 ⟨fun _ _ h => h, fun b i hc => setRow_other _ _ _ _ (by rintro rfl; exact hg _ hc)⟩
theorem Keep.alloc (h : Keep G w) (o : Obj) : Keep G (w.alloc o) :=
 ⟨h.os, h.tape, h.output, by simp; have := h.size; omega, fun k hk hm => (heap_alloc_old w o (by have := h.size; omega)).trans (h.block k hk hm)⟩
theorem Keep.drew (h : Keep G w) : Keep G w.drew := ⟨h.os, h.tape, h.output, h.size, h.block⟩
theorem Keep.setRow (h : Keep G w) {g : Nat} (hg : G.fresh g) (cs : Array Value) : Keep G (w.setRow g cs) :=
 ⟨h.os, h.tape, h.output, by simp; exact h.size, fun k hk hm => by
  rw [setRow_other]
  ·exact h.block k hk hm
  ·intro e; subst e; rcases hg with hg | hg
   ·omega
   ·exact hm hg⟩
@[simp] def HO.real : HO → Bool
 | .cells _ => true
 | .arr _ _ _ => true
 | .map _ _ => true
 | _ => false
theorem HO.real_dead {ob : HO} (h : ob.real = true) : ob ≠ .dead := by rintro rfl; cases h
theorem HO.real_ghost {ob : HO} (h : ob.real = true) {cs vs ms} : ob ≠ .ghost cs vs ms := by rintro rfl; cases h
theorem HO.real_inv {ob : HO} (h : ob.real = true) {I} : ob ≠ .inv I := by rintro rfl; cases h
theorem MarkOK.step {C C' : CellSet} {w w' : World} {fr : Nat → Prop} {mu mu' : Mu} {D : Nat × Obj} (h : MarkOK C w fr mu D)
  (hw : Same (fun b => b < w.heap.size ∧ ∀ l g, mu l = some g → g.block? ≠ some b) w w')
  (hm : ∀ l g b, mu' l = some g → g.block? = some b → (∃ l' g', mu l' = some g' ∧ g'.block? = some b) ∨ w.heap.size ≤ b)
  (hc : ∀ b o, C' b o → C b o ∨ w.heap.size ≤ b ∨ ∃ l g, mu l = some g ∧ g.block? = some b) : MarkOK C' w' fr mu' D := by
 have hlt := (Array.getElem?_eq_some_iff.1 h.at_).1
 refine ⟨by rw [hw.block D.1 ⟨hlt, h.own⟩]; exact h.at_, fun o hcc => ?_, fun l g hl hg => ?_, h.fr⟩
 ·rcases hc D.1 o hcc with k | k | ⟨l', g', k1, k2⟩
  ·exact h.imm o k
  ·omega
  ·exact h.own l' g' k1 k2
 ·rcases hm l g D.1 hl hg with ⟨l', g', k1, k2⟩ | k
  ·exact h.own l' g' k1 k2
  ·omega
theorem XRel.step {C C' : CellSet} {w w' : World} {mu mu' : Mu} {H H' : List HO} {ds : List (Nat × Obj)} {fr : Nat → Prop} (h : XRel C w fr mu H ds)
  (hw : Same (fun b => b < w.heap.size ∧ ∀ l g, mu l = some g → g.block? ≠ some b) w w')
  (hm : ∀ l g b, mu' l = some g → g.block? = some b → (∃ l' g', mu l' = some g' ∧ g'.block? = some b) ∨ w.heap.size ≤ b)
  (hc : ∀ b o, C' b o → C b o ∨ w.heap.size ≤ b ∨ ∃ l g, mu l = some g ∧ g.block? = some b)
  (hH : ∀ (l : Nat) cs vs ms, H'[l]? = some (.ghost cs vs ms) → ∃ cs0, H[l]? = some (.ghost cs0 vs ms) ∧ (Reps C w cs0 mu vs → Reps C' w' cs mu' vs))
  (hI : ∀ (l : Nat) I, H'[l]? = some (.inv I) → H[l]? = some (.inv I)) : XRel C' w' fr mu' H' ds := by
 refine ⟨fun l cs vs ms hl => ?_, fun l I hl => ?_, fun d hd => (h.marks d hd).step hw hm hc, h.nd, fun l l' cs vs ms cs' vs' ms' hl hl' hne => ?_⟩
 ·obtain ⟨cs0, h1, h2⟩ := hH l cs vs ms hl
  obtain ⟨h3, h5, h4⟩ := h.ghosts l cs0 vs ms h1
  exact ⟨h2 h3, h5, fun d hd => ⟨(h4 d hd).1.step hw hm hc, (h4 d hd).2⟩⟩
 ·obtain ⟨h0, Sw, Sr, h1, h2, h3, h4⟩ := h.invs l I (hI l I hl)
  refine ⟨h0, Sw, Sr, ⟨h1.fr, Nat.le_trans h1.base hw.size, fun b o hcc => ?_, fun l g b hl hg => ?_, h1.sub, fun b hb => Nat.lt_of_lt_of_le (h1.lt b hb) hw.size, fun b hb l g hl hg => ?_, fun b o hb hcc => ?_⟩, I.stab Sw Sr w w' h2 ⟨hw.os, hw.tape, hw.output, hw.size, fun b hb => hw.block b ⟨h1.lt b hb, h1.own b hb⟩⟩, h3, fun l cs vs ms hl D hD => ?_⟩
  ·rcases hc b o hcc with k | k | ⟨l', g', k1, k2⟩
   ·exact h1.cb b o k
   ·exact .inr (Nat.le_trans h1.base k)
   ·exact .inr (h1.ob l' g' b k1 k2)
  ·rcases hm l g b hl hg with ⟨l', g', k1, k2⟩ | k
   ·exact h1.ob l' g' b k1 k2
   ·exact Nat.le_trans h1.base k
  ·rcases hm l g b hl hg with ⟨l', g', k1, k2⟩ | k
   ·exact h1.own b hb l' g' k1 k2
   ·exact absurd (h1.lt b hb) (by omega)
  ·rcases hc b o hcc with k | k | ⟨l', g', k1, k2⟩
   ·exact h1.imm b o hb k
   ·exact absurd (h1.lt b (h1.sub b hb)) (by omega)
   ·exact h1.own b (h1.sub b hb) l' g' k1 k2
  ·obtain ⟨cs0, k1, _⟩ := hH l cs vs ms hl
   exact h4 l cs0 vs ms k1 D hD
 ·obtain ⟨cs0, k1, _⟩ := hH l cs vs ms hl
  obtain ⟨cs1, k2, _⟩ := hH l' cs' vs' ms' hl'
  exact h.sep l l' cs0 vs ms cs1 vs' ms' k1 k2 hne
theorem same_alloc {S : Nat → Prop} (hS : ∀ b, S b → b < w.heap.size) (o : Obj) : Same S w (w.alloc o) := ⟨rfl, rfl, rfl, by simp, fun b hb => heap_alloc_old w o (hS b hb)⟩
theorem same_setRow {S : Nat → Prop} {g : Nat} (hS : ¬ S g) (cs : Array Value) : Same S w (w.setRow g cs) := ⟨rfl, rfl, rfl, by simp, fun b hb => setRow_other _ _ _ _ (fun e => hS (by subst e; exact hb))⟩
theorem StC.drew (h : StC G C mu E H a w) : StC G C mu E H a w.drew :=
 ⟨h.c0, h.c1, h.lt, ⟨h.heap.dom, h.heap.fresh, h.heap.sep, h.heap.dead,
  fun l cs hl => let ⟨b, cur, e, h1, h2, h3, h4⟩ := h.heap.recs l cs hl; ⟨b, cur, e, h1, h2, Reps.mono ext_drew _ (MuLe.refl _) h3, h4⟩,
  fun l e sz es hl => let ⟨h1, h2⟩ := h.heap.arrs l e sz es hl
   ⟨h1, h2.imp id fun ⟨b, cap, cur, k1, k2, k3, k4, k5, k6, k7⟩ => ⟨b, cap, cur, k1, k2, k3, k4, k5, Reps.mono ext_drew _ (MuLe.refl _) k6, k7⟩⟩, h.heap.maps⟩,
  Reps.mono ext_drew _ (MuLe.refl _) h.env,
  let ⟨ms, k1, k2⟩ := h.defers
  ⟨ms, k1, k2.step ⟨rfl, rfl, rfl, Nat.le_refl _, fun _ _ => rfl⟩ (fun l g b hm hb => .inl ⟨l, g, hm, hb⟩) (fun _ _ h => .inl h) (fun l cs vs ms hl => ⟨cs, hl, Reps.mono ext_drew _ (MuLe.refl _)⟩) (fun _ _ h => h)⟩, h.keep.drew, h.pin⟩
theorem StC.frame (h : StC G C mu E H a w) {E' : List AV} {a' : Act} (he : Reps C w E' mu a'.tmps.toList) (hd : a'.defers = a.defers) : StC G C mu E' H a' w :=
 ⟨h.c0, h.c1, h.lt, h.heap, he, by rw [hd]; exact h.defers, h.keep, h.pin⟩
theorem StC.alloc (h : StC G C mu E H a w) (o : Obj) (ob : HO) {n : Nat} {H' : List HO} (hal : Al H n H' ob) (g : GO) (hg : ∀ b, g.block? = some b → b = w.heap.size) (hd : ob.real = true)
  (hcells : ∀ cs, ob = .cells cs → ∃ cur e, g = .blk w.heap.size ∧ o = .cells cur e (0, 0) ∧ Reps C w cs mu cur.toList ∧ ∀ v ∈ cur.toList, v.oneCell' = true)
  (harr : ∀ e sz es, ob = .arr e sz es → (∀ a ∈ es, a.cells.length = sz) ∧ ∃ cap cur, g = .arr (.slice (some ⟨w.heap.size, 0, none⟩) es.length cap) ∧
   (∃ fz, o = .cells cur e fz ∧ FzOK cur fz) ∧ es.length ≤ cap ∧ cap ≤ 9223372036854775807 ∧ cur.size = cap * sz ∧ Reps C w (flat es) (blkMu mu) (cur.toList.take (es.length * sz)) ∧ ∀ v ∈ cur.toList, v.oneCell' = true)
  (hmap : ∀ ks vs, ob = .map ks vs → ∃ es clock, g = .blk w.heap.size ∧ o = .map es clock ∧ MRel ks vs es.toList := by simp) :
  StC G C (mu.set n (some g)) E H' a (w.alloc o) := by
 have hnone : mu n = none := by
  rcases hal.free with hf | hf
  ·cases hm : mu n with
   | none => rfl
   | some x => exact absurd (h.heap.dom _ _ hm) (by have := List.getElem?_eq_none_iff.1 hf; omega)
  ·exact h.heap.dead n hf
 have hle := muLe_new (mu := mu) (l := n) (some g) hnone
 have hx := ext_alloc (C := C) (w := w) h.lt o
 have hfl : ∀ {g' : GO} {l b}, mu l = some g' → g'.block? = some b → b < w.heap.size := fun hm hb => (h.heap.fresh _ _ _ hm hb).2.1
 have hblk : MuLe (blkMu mu) (blkMu (mu.set n (some g))) := blkMu_mono fun l b e => hle l _ e
 refine ⟨h.c0, h.c1, fun b o hc => by have := h.lt b o hc; simp; omega, ⟨?_, ?_, ?_, ?_, ?_, ?_, ?_⟩, Reps.mono hx _ hle h.env, ?_, h.keep.alloc o, Nat.le_trans h.pin.1 hal.len, fun i b hn hi => hle i _ (h.pin.2 i b hn hi)⟩
 rotate_right
 ·obtain ⟨ms, k1, k2⟩ := h.defers
  refine ⟨ms, k1, k2.step (same_alloc (fun b hb => hb.1) o) (fun l g' b hm hb => ?_) (fun _ _ h => .inl h) (fun l cs vs ms hl => ?_) (fun l I hl => ?_)⟩
  ·by_cases e : l = n
   ·subst e
    rw [Mu.set_same] at hm
    simp only [Option.some.injEq] at hm
    subst hm
    exact .inr (Nat.le_of_eq (hg b hb).symm)
   ·rw [Mu.set_ne _ _ e] at hm; exact .inl ⟨l, g', hm, hb⟩
  ·by_cases e : l = n
   ·subst e; rw [hal.get] at hl; simp only [Option.some.injEq] at hl; exact absurd hl (HO.real_ghost hd)
   ·rw [hal.other l e] at hl; exact ⟨cs, hl, Reps.mono hx _ hle⟩
  ·by_cases e : l = n
   ·subst e; rw [hal.get] at hl; simp only [Option.some.injEq] at hl; exact absurd hl (HO.real_inv hd)
   ·rw [hal.other l e] at hl; exact hl
 ·intro l x hl
  by_cases e : l = n
  ·subst e; exact hal.lt
  ·rw [Mu.set_ne _ _ e] at hl; have := h.heap.dom _ _ hl; have := hal.len; omega
 ·intro l x b hl hb
  by_cases e : l = n
  ·subst e
   rw [Mu.set_same] at hl
   simp only [Option.some.injEq] at hl
   subst hl
   obtain rfl := hg b hb
   exact ⟨.inl h.keep.size, by simp, fun o hc => absurd (h.lt _ _ hc) (by omega)⟩
  ·rw [Mu.set_ne _ _ e] at hl
   obtain ⟨k1, k2, k3⟩ := h.heap.fresh _ _ _ hl hb
   exact ⟨k1, by simp; omega, k3⟩
 ·intro l x b l' x' hl hb hl' hb'
  by_cases e : l = n
  ·by_cases e' : l' = n
   ·omega
   ·exfalso
    subst e
    rw [Mu.set_same] at hl
    simp only [Option.some.injEq] at hl
    subst hl
    obtain rfl := hg b hb
    rw [Mu.set_ne _ _ e'] at hl'
    have := hfl hl' hb'
    omega
  ·rw [Mu.set_ne _ _ e] at hl
   by_cases e' : l' = n
   ·exfalso
    subst e'
    rw [Mu.set_same] at hl'
    simp only [Option.some.injEq] at hl'
    subst hl'
    obtain rfl := hg b hb'
    have := hfl hl hb
    omega
   ·rw [Mu.set_ne _ _ e'] at hl'
    exact h.heap.sep _ _ _ _ _ hl hb hl' hb'
 ·intro l hl
  by_cases e : l = n
  ·subst e; rw [hal.get] at hl; simp only [Option.some.injEq] at hl; exact absurd hl (HO.real_dead hd)
  ·rw [hal.other l e] at hl; rw [Mu.set_ne _ _ e]; exact h.heap.dead l hl
 ·intro l cs hl
  by_cases e : l = n
  ·subst e
   rw [hal.get] at hl
   simp only [Option.some.injEq] at hl
   obtain ⟨cur, e, rfl, rfl, k1, k2⟩ := hcells cs hl
   exact ⟨_, cur, e, Mu.set_same _ _ _, heap_alloc_new _ _, Reps.mono hx _ hle k1, k2⟩
  ·rw [hal.other l e] at hl
   obtain ⟨b, cur, e, h1, h2, h3, h4⟩ := h.heap.recs l cs hl
   exact ⟨b, cur, e, hle _ _ h1, by rw [heap_alloc_old _ _ (hfl h1 rfl)]; exact h2, Reps.mono hx _ hle h3, h4⟩
 ·intro l e sz es hl
  by_cases e' : l = n
  ·subst e'
   rw [hal.get] at hl
   simp only [Option.some.injEq] at hl
   obtain ⟨k0, cap, cur, rfl, ⟨fz, rfl, hfz⟩, k3, k4, k5, k6, k7⟩ := harr e sz es hl
   exact ⟨k0, .inr ⟨_, cap, cur, Mu.set_same _ _ _, ⟨fz, heap_alloc_new _ _, hfz⟩, k3, k4, k5, Reps.mono hx _ hblk k6, k7⟩⟩
  ·rw [hal.other l e'] at hl
   obtain ⟨h1, h2⟩ := h.heap.arrs l e sz es hl
   refine ⟨h1, h2.imp (fun ⟨k1, k2⟩ => ⟨hle _ _ k1, k2⟩) fun ⟨b, cap, cur, k1, k2, k3, k4, k5, k6, k7⟩ => ⟨b, cap, cur, hle _ _ k1, ?_, k3, k4, k5, Reps.mono hx _ hblk k6, k7⟩⟩
   exact k2.of_eq (heap_alloc_old _ _ (hfl k1 rfl))
 ·intro l ks vs hl
  by_cases e' : l = n
  ·subst e'
   rw [hal.get] at hl
   simp only [Option.some.injEq] at hl
   obtain ⟨es, clock, rfl, rfl, k1⟩ := hmap ks vs hl
   exact ⟨_, es, clock, Mu.set_same _ _ _, heap_alloc_new _ _, k1⟩
  ·rw [hal.other l e'] at hl
   obtain ⟨b, es, clock, h1, h2, h3⟩ := h.heap.maps l ks vs hl
   exact ⟨b, es, clock, hle _ _ h1, by rw [heap_alloc_old _ _ (hfl h1 rfl)]; exact h2, h3⟩
theorem StC.write (h : StC G C mu E H a w) {l b : Nat} {g : GO} (hm : mu l = some g) (hb : g.block? = some b) {old new : Array Value} {e0 : TypeId} {fz : Nat × Nat} (hold : w.heap[b]? = some (.cells old e0 fz)) (ob : HO)
  {g' : GO} (hg' : g'.block? = some b) (hblk : ∀ k, g = .blk k → g' = .blk k) (hblk' : ∀ k, g' = .blk k → g = .blk k) {E' : List AV} (hE : Reps C (w.setRow b new) E' (mu.set l (some g')) a.tmps.toList)
  (H' : List HO) (hob' : ob.real = true) (hH' : ∀ i, i ≠ l → (H'[i]? = some .dead → H[i]? = some .dead) ∧ (∀ cs, H'[i]? = some (.cells cs) → ∃ cs0, H[i]? = some (.cells cs0) ∧ ∀ vs, Reps C w cs0 mu vs → Reps C w cs (mu.set l (some g')) vs) ∧ (∀ e sz es, H'[i]? = some (.arr e sz es) → H[i]? = some (.arr e sz es)) ∧
   (∀ cs vs ms, H'[i]? = some (.ghost cs vs ms) → ∃ cs0, H[i]? = some (.ghost cs0 vs ms) ∧ ∀ vs, Reps C w cs0 mu vs → Reps C w cs (mu.set l (some g')) vs) ∧ (∀ I, H'[i]? = some (.inv I) → H[i]? = some (.inv I)))
  (hlen : H'.length = H.length) (hob : H'[l]? = some ob)
  (hcells : ∀ cs, ob = .cells cs → g' = .blk b ∧ Reps C w cs mu new.toList ∧ ∀ v ∈ new.toList, v.oneCell' = true)
  (harr : ∀ e sz es, ob = .arr e sz es → (∀ a ∈ es, a.cells.length = sz) ∧ ∃ cap, g' = .arr (.slice (some ⟨b, 0, none⟩) es.length cap) ∧
   e = e0 ∧ es.length ≤ cap ∧ cap ≤ 9223372036854775807 ∧ new.size = cap * sz ∧ Reps C w (flat es) (blkMu mu) (new.toList.take (es.length * sz)) ∧ ∀ v ∈ new.toList, v.oneCell' = true)
  (hmaps : ∀ i, i ≠ l → ∀ ks vs, H'[i]? = some (.map ks vs) → H[i]? = some (.map ks vs)) (hnm : ∀ ks vs, ob ≠ .map ks vs := by simp)
  (hfz : (∀ cs, ob = .cells cs → fz = (0, 0)) ∧ ∀ e sz es, ob = .arr e sz es → FzOK new fz := by exact ⟨fun _ _ => rfl, fun _ _ _ h => by cases h⟩) :
  StC G C (mu.set l (some g')) E' H' a (w.setRow b new) := by
 obtain ⟨f1, f2, f3⟩ := h.heap.fresh _ _ _ hm hb
 have hx := ext_setRow (w := w) f3 new
 have hbm : MuLe (blkMu mu) (blkMu (mu.set l (some g'))) := blkMu_mono fun i k e => by
  by_cases hi : i = l
  ·subst hi; rw [hm] at e; simp only [Option.some.injEq] at e; rw [Mu.set_same, hblk k e]
  ·rw [Mu.set_ne _ _ hi]; exact e
 have hne : ∀ {i x k}, i ≠ l → mu i = some x → x.block? = some k → k ≠ b := fun hi hxx hk e => by
  subst e; exact hi (h.heap.sep _ _ _ _ _ hm hb hxx hk)
 refine ⟨h.c0, h.c1, fun b o hc => by simp; exact h.lt b o hc, ⟨?_, ?_, ?_, ?_, ?_, ?_, ?_⟩, hE, ?_, h.keep.setRow f1 new, by rw [hlen]; exact h.pin.1, fun i k hn hi => by
  have hp := h.pin.2 i k hn hi
  by_cases e : i = l
  ·subst e
   rw [hm] at hp
   rw [Mu.set_same, hblk k (Option.some.inj hp)]
  ·rw [Mu.set_ne _ _ e]; exact hp⟩
 rotate_right
 ·obtain ⟨ms, k1, k2⟩ := h.defers
  refine ⟨ms, k1, k2.step (same_setRow (fun hs => hs.2 _ _ hm hb) new) (fun i x k hi hk => ?_) (fun _ _ h => .inl h) (fun i cs vs ms hi => ?_) (fun i I hi => ?_)⟩
  ·by_cases e : i = l
   ·subst e
    rw [Mu.set_same] at hi
    simp only [Option.some.injEq] at hi
    subst hi
    rw [hg'] at hk
    exact .inl ⟨_, _, hm, hb.trans hk⟩
   ·rw [Mu.set_ne _ _ e] at hi; exact .inl ⟨i, x, hi, hk⟩
  ·by_cases e : i = l
   ·subst e; rw [hob] at hi; simp only [Option.some.injEq] at hi; exact absurd hi (HO.real_ghost hob')
   ·obtain ⟨cs0, k1, k2⟩ := (hH' i e).2.2.2.1 cs vs ms hi
    exact ⟨cs0, k1, fun k => Reps.mono hx _ (MuLe.refl _) (k2 vs k)⟩
  ·by_cases e : i = l
   ·subst e; rw [hob] at hi; simp only [Option.some.injEq] at hi; exact absurd hi (HO.real_inv hob')
   ·exact (hH' i e).2.2.2.2 I hi
 ·intro i x hi
  by_cases e : i = l
  ·subst e; rw [hlen]; exact h.heap.dom _ _ hm
  ·rw [Mu.set_ne _ _ e] at hi; rw [hlen]; exact h.heap.dom _ _ hi
 ·intro i x k hi hk
  by_cases e : i = l
  ·subst e; rw [Mu.set_same] at hi; simp only [Option.some.injEq] at hi; subst hi
   rw [hg'] at hk; simp only [Option.some.injEq] at hk; subst hk
   exact ⟨f1, by simp; exact f2, f3⟩
  ·rw [Mu.set_ne _ _ e] at hi
   obtain ⟨k1, k2, k3⟩ := h.heap.fresh _ _ _ hi hk
   exact ⟨k1, by simp; exact k2, k3⟩
 ·intro i x k i' x' hi hk hi' hk'
  by_cases e : i = l
  ·subst e; rw [Mu.set_same] at hi; simp only [Option.some.injEq] at hi; subst hi
   rw [hg'] at hk; simp only [Option.some.injEq] at hk; subst hk
   by_cases e' : i' = i
   ·exact e'
   ·rw [Mu.set_ne _ _ e'] at hi'
    exact absurd rfl (hne e' hi' hk')
  ·rw [Mu.set_ne _ _ e] at hi
   by_cases e' : i' = l
   ·subst e'; rw [Mu.set_same] at hi'; simp only [Option.some.injEq] at hi'; subst hi'
    rw [hg'] at hk'; simp only [Option.some.injEq] at hk'; subst hk'
    exact absurd rfl (hne e hi hk)
   ·rw [Mu.set_ne _ _ e'] at hi'
    exact h.heap.sep _ _ _ _ _ hi hk hi' hk'
 ·intro i hi
  by_cases e : i = l
  ·subst e; rw [hob] at hi; simp only [Option.some.injEq] at hi; exact absurd hi (HO.real_dead hob')
  ·rw [Mu.set_ne _ _ e]; exact h.heap.dead i ((hH' i e).1 hi)
 ·intro i cs hi
  by_cases e : i = l
  ·subst e
   rw [hob] at hi
   simp only [Option.some.injEq] at hi
   obtain ⟨k1, k2, k3⟩ := hcells cs hi
   have hf0 := hfz.1 cs hi
   subst hf0
   subst k1
   refine ⟨b, new, e0, Mu.set_same _ _ _, setRow_heap _ _ _ _ _ _ hold, Reps.mono hx _ ?_ k2, k3⟩
   intro j x hj
   by_cases e : j = i
   ·subst e
    rw [Mu.set_same]
    cases g with
    | blk k => simp only [GO.block?, Option.some.injEq] at hb; subst hb; rw [hm] at hj; exact hj
    | arr v =>
     exact absurd (hblk' b rfl) (by simp)
   ·rw [Mu.set_ne _ _ e]; exact hj
  ·obtain ⟨cs0, k1, k2⟩ := (hH' i e).2.1 cs hi
   obtain ⟨b', cur, e', h1, h2, h3, h4⟩ := h.heap.recs i cs0 k1
   refine ⟨b', cur, e', by rw [Mu.set_ne _ _ e]; exact h1, ?_, Reps.mono hx _ (MuLe.refl _) (k2 _ h3), h4⟩
   rw [setRow_other _ _ _ _ (hne e h1 rfl)]; exact h2
 ·intro i e' sz es hi
  by_cases e : i = l
  ·subst e
   rw [hob] at hi
   simp only [Option.some.injEq] at hi
   obtain ⟨k0, cap, rfl, rfl, k1, k2, k3, k4, k5⟩ := harr e' sz es hi
   exact ⟨k0, .inr ⟨b, cap, new, Mu.set_same _ _ _, ⟨fz, setRow_heap _ _ _ _ _ _ hold, hfz.2 _ _ _ hi⟩, k1, k2, k3, Reps.mono hx _ hbm k4, k5⟩⟩
  ·obtain ⟨h1, h2⟩ := h.heap.arrs i e' sz es ((hH' i e).2.2.1 _ _ _ hi)
   refine ⟨h1, h2.imp (fun ⟨k1, k2⟩ => ⟨by rw [Mu.set_ne _ _ e]; exact k1, k2⟩) fun ⟨b', cap, cur, k1, k2, k3, k4, k5, k6, k7⟩ => ⟨b', cap, cur, by rw [Mu.set_ne _ _ e]; exact k1, ?_, k3, k4, k5, Reps.mono hx _ hbm k6, k7⟩⟩
   exact k2.of_eq (setRow_other _ _ _ _ (hne e k1 rfl))
 ·intro i ks vs hi
  by_cases e : i = l
  ·subst e
   rw [hob] at hi
   simp only [Option.some.injEq] at hi
   exact absurd hi (hnm ks vs)
  ·obtain ⟨b', es, clock, h1, h2, h3⟩ := h.heap.maps i ks vs (hmaps i e ks vs hi)
   exact ⟨b', es, clock, by rw [Mu.set_ne _ _ e]; exact h1, by rw [setRow_other _ _ _ _ (hne e h1 rfl)]; exact h2, h3⟩
theorem ext_putObj {g : Nat} (hg : ∀ o, ¬ C g o) {es0 : Array MapEntry} {c0 : Nat} (hold : w.heap[g]? = some (.map es0 c0)) (es : Array MapEntry) (cl : Nat) : Ext C C w (w.putObj g (.map es cl)) :=
 ⟨fun _ _ h => h, fun b i hc => World.putObj_heap_other (by rintro rfl; exact hg _ hc)⟩
theorem same_putObj {S : Nat → Prop} {g : Nat} (hS : ¬ S g) (o : Obj) : Same S w (w.putObj g o) :=
 ⟨rfl, rfl, rfl, by simp [World.putObj], fun b hb => World.putObj_heap_other (fun e => hS (by subst e; exact hb))⟩
theorem Keep.putObj (h : Keep G w) {g : Nat} (hg : G.fresh g) (o : Obj) : Keep G (w.putObj g o) :=
 ⟨h.os, h.tape, h.output, by simp [World.putObj]; exact h.size, fun k hk hm => by
  rw [World.putObj_heap_other]
  ·exact h.block k hk hm
  ·intro e; subst e; rcases hg with hg | hg
   ·omega
   ·exact hm hg⟩
theorem StC.putMap (h : StC G C mu E H a w) {l b : Nat} (hm : mu l = some (.blk b)) {es0 : Array MapEntry} {c0 : Nat} (hold : w.heap[b]? = some (.map es0 c0)) {ks0 vs0 : List AV} (hl : H[l]? = some (.map ks0 vs0))
  {es : Array MapEntry} {cl : Nat} {ks vs : List AV} (hr : MRel ks vs es.toList) : StC G C mu E (H.set l (.map ks vs)) a (w.putObj b (.map es cl)) := by
 obtain ⟨f1, f2, f3⟩ := h.heap.fresh _ _ _ hm rfl
 have hx := ext_putObj f3 hold es cl
 have hlt : l < H.length := (List.getElem?_eq_some_iff.1 hl).1
 have hne : ∀ {i x k}, i ≠ l → mu i = some x → x.block? = some k → k ≠ b := fun hi hxx hk e => by
  subst e; exact hi (h.heap.sep _ _ _ _ _ hm rfl hxx hk)
 have hother : ∀ i, i ≠ l → (H.set l (.map ks vs))[i]? = H[i]? := fun i hi => List.getElem?_set_ne (Ne.symm hi)
 have hget : (H.set l (.map ks vs))[l]? = some (.map ks vs) := by simp [hlt]
 refine ⟨h.c0, h.c1, fun b o hc => by simp [World.putObj]; exact h.lt b o hc, ⟨fun i x hi => by simpa using h.heap.dom i x hi, fun i x k hi hk => ?_, h.heap.sep, fun i hi => ?_, fun i cs hi => ?_, fun i e sz es hi => ?_, fun i ks' vs' hi => ?_⟩,
  Reps.mono hx _ (MuLe.refl _) h.env, ?_, h.keep.putObj f1 _, by simpa using h.pin.1, h.pin.2⟩
 rotate_right
 ·obtain ⟨ms, k1, k2⟩ := h.defers
  refine ⟨ms, k1, k2.step (same_putObj (fun hs => hs.2 _ _ hm rfl) _) (fun i x k hi hk => .inl ⟨i, x, hi, hk⟩) (fun _ _ h => .inl h) (fun i cs vs ms hi => ?_) (fun i I hi => ?_)⟩
  ·by_cases e : i = l
   ·subst e; rw [hget] at hi; cases hi
   ·rw [hother i e] at hi; exact ⟨cs, hi, Reps.mono hx _ (MuLe.refl _)⟩
  ·by_cases e : i = l
   ·subst e; rw [hget] at hi; cases hi
   ·rw [hother i e] at hi; exact hi
 ·obtain ⟨k1, k2, k3⟩ := h.heap.fresh i x k hi hk
  exact ⟨k1, by simp [World.putObj]; exact k2, k3⟩
 ·by_cases e : i = l
  ·subst e; rw [hget] at hi; cases hi
  ·rw [hother i e] at hi; exact h.heap.dead i hi
 ·by_cases e : i = l
  ·subst e; rw [hget] at hi; cases hi
  ·rw [hother i e] at hi
   obtain ⟨b', cur, e', h1, h2, h3, h4⟩ := h.heap.recs i cs hi
   exact ⟨b', cur, e', h1, by rw [World.putObj_heap_other (hne e h1 rfl)]; exact h2, Reps.mono hx _ (MuLe.refl _) h3, h4⟩
 ·by_cases e' : i = l
  ·subst e'; rw [hget] at hi; cases hi
  ·rw [hother i e'] at hi
   obtain ⟨h1, h2⟩ := h.heap.arrs i e sz es hi
   refine ⟨h1, h2.imp id fun ⟨b', cap, cur, k1, k2, k3, k4, k5, k6, k7⟩ => ⟨b', cap, cur, k1, ?_, k3, k4, k5, Reps.mono hx _ (MuLe.refl _) k6, k7⟩⟩
   exact k2.of_eq (World.putObj_heap_other (hne e' k1 rfl))
 ·by_cases e : i = l
  ·subst e
   rw [hget] at hi
   simp only [Option.some.injEq, HO.map.injEq] at hi
   obtain ⟨rfl, rfl⟩ := hi
   exact ⟨b, es, cl, hm, World.putObj_heap_same f2, hr⟩
  ·rw [hother i e] at hi
   obtain ⟨b', es', cl', h1, h2, h3⟩ := h.heap.maps i ks' vs' hi
   exact ⟨b', es', cl', h1, by rw [World.putObj_heap_other (hne e h1 rfl)]; exact h2, h3⟩
end
end Go.Av
set_option linter.unusedSimpArgs false
set_option linter.unusedVariables false
namespace Go.Av
def scalB : AV → Bool
 | .any => false
 | .raw v => v.oneCell'
 | .agg _ => false
 | .tuple _ => false
 | _ => true
mutual
/-- It leads to no array of the call's own. -/
def noArr : AV → Bool
 | .own _ _ _ _ => false
 | .el _ _ _ _ => false
 | .fn _ cap => noArrs cap
 | .mv _ cap => noArrs cap
 | .iface _ x => noArr x
 | .agg cs => noArrs cs
 | .tuple vs => noArrs vs
 | _ => true
def noArrs : List AV → Bool
 | [] => true
 | a :: as => noArr a && noArrs as
end
mutual
/-- It leads to nothing of the call's own. -/
def closed : AV → Bool
 | .own _ _ _ _ => false
 | .el _ _ _ _ => false
 | .ptr _ _ => false
 | .om _ => false
 | .fn _ cap => closeds cap
 | .mv _ cap => closeds cap
 | .iface _ x => closed x
 | .agg cs => closeds cs
 | .tuple vs => closeds vs
 | _ => true
def closeds : List AV → Bool
 | [] => true
 | a :: as => closed a && closeds as
end
mutual
/-- It leads to no memory. -/
def memfree : AV → Bool
 | .int _ _ => true
 | .bool _ => true
 | .lit _ => true
 | .str _ => true
 | .raw _ => true
 | .any => true
 | .fn _ cap => memfrees cap
 | .mv _ cap => memfrees cap
 | .iface _ x => memfree x
 | .agg cs => memfrees cs
 | .tuple vs => memfrees vs
 | _ => false
def memfrees : List AV → Bool
 | [] => true
 | a :: as => memfree a && memfrees as
end
mutual
/-- What led to array l is forgotten. -/
def scrub (l : Nat) : AV → AV
 | .own k sz lo n => match Nat.beq k l with | true => .any | false => .own k sz lo n
 | .el k sz i o => match Nat.beq k l with | true => .any | false => .el k sz i o
 | .fn f cap => .fn f (scrubs l cap)
 | .mv f cap => .mv f (scrubs l cap)
 | .iface t x => .iface t (scrub l x)
 | .agg cs => .agg (scrubs l cs)
 | .tuple vs => .tuple (scrubs l vs)
 | a => a
def scrubs (l : Nat) : List AV → List AV
 | [] => []
 | a :: as => scrub l a :: scrubs l as
end
def scrubK (l : Nat) : List AV → (List AV → Prop) → Prop
 | [], K => K []
 | a :: as, K => (scrub l a).force fun b => scrubK l as fun bs => K (b :: bs)
def scrubHK (l : Nat) : List HO → (List HO → Prop) → Prop
 | [], K => K []
 | .cells cs :: r, K => scrubK l cs fun cs => scrubHK l r fun r => K (.cells cs :: r)
 | .arr e sz es :: r, K => scrubHK l r fun r => K (.arr e sz es :: r)
 | .dead :: r, K => scrubHK l r fun r => K (.dead :: r)
 | .ghost cs vs ms :: r, K => scrubK l cs fun cs => scrubHK l r fun r => K (.ghost cs vs ms :: r)
 | .inv I :: r, K => scrubHK l r fun r => K (.inv I :: r)
 | .map ks vs :: r, K => scrubHK l r fun r => K (.map ks vs :: r)
def scrubH (l : Nat) : HO → HO
 | .cells cs => .cells (scrubs l cs)
 | .ghost cs vs ms => .ghost (scrubs l cs) vs ms
 | o => o
theorem scrubK_iff (l : Nat) : ∀ (as : List AV) (K : List AV → Prop), scrubK l as K ↔ K (scrubs l as)
 | [], _ => by simp [scrubK, scrubs]
 | a :: as, K => by simp [scrubK, scrubs, AV.force_iff, scrubK_iff l as]
theorem scrubHK_iff (l : Nat) : ∀ (os : List HO) (K : List HO → Prop), scrubHK l os K ↔ K (os.map (scrubH l))
 | [], _ => by simp [scrubHK]
 | .cells cs :: r, K => by simp [scrubHK, scrubH, scrubK_iff, scrubHK_iff l r]
 | .arr e sz es :: r, K => by simp [scrubHK, scrubH, scrubHK_iff l r]
 | .dead :: r, K => by simp [scrubHK, scrubH, scrubHK_iff l r]
 | .ghost cs vs ms :: r, K => by simp [scrubHK, scrubH, scrubK_iff, scrubHK_iff l r]
 | .inv I :: r, K => by simp [scrubHK, scrubH, scrubHK_iff l r]
 | .map ks vs :: r, K => by simp [scrubHK, scrubH, scrubHK_iff l r]
abbrev KK := List AV → List HO → Prop
def zeroK (T : List TY) (e : TypeId) (K : AV → Prop) : Prop :=
 lkK T e fun y => match y.agg with
  | true => K (.agg y.zero)
  | false => match y.zero with | [z] => z.force K | _ => False
def boxC (E : List AV) (x : Operand) (K : HO → (Nat → AV) → Prop) : Prop :=
 evK E x fun v => cellsK v fun cs => match cs.all scalB with
  | true => K (.cells cs) fun l => .ptr l 0
  | false => False
def allocC (T : List TY) (t : TypeId) (K : HO → (Nat → AV) → Prop) : Prop :=
 lkK T t fun y => match y.zero.all scalB && Nat.beq y.zero.length y.size && Nat.ble 1 y.size with
  | true => K (.cells y.zero) fun l => .ptr l 0
  | false => False
def boxK (s : Option Nat) (E : List AV) (H : List HO) (x : Operand) (K : AV → KK) : Prop := boxC E x fun ob f => alK s H ob fun H' l => K (f l) E H'
def allocK (s : Option Nat) (T : List TY) (E : List AV) (H : List HO) (t : TypeId) (K : AV → KK) : Prop := allocC T t fun ob f => alK s H ob fun H' l => K (f l) E H'
def storeK (T : List TY) (E : List AV) (H : List HO) (t : TypeId) (ad x : Operand) (K : AV → KK) : Prop :=
 lkK T t fun y => evK E ad fun p => evK E x fun v => cellsK v fun cs => match cs.all scalB && Nat.beq cs.length y.size with
  | true => (match p with
   | .ptr l o => lkK H l fun ob => (match ob with
    | .cells old => (match Nat.ble (o + cs.length) old.length with
     | true => putsK old o cs fun new => updK H l (.cells new) fun H' => K (.raw undef) E H'
     | false => False)
    | _ => False)
   | .el l sz i o => lkK H l fun ob => (match ob with
    | .arr e sz' es => (match Nat.beq sz sz' && cs.all noArr with
     | true => ∃ old, es[i]? = some old ∧ cellsK old fun oc => (match Nat.ble (o + cs.length) oc.length with
      | true => (match Nat.beq cs.length sz with
       | true => updK H l (.arr e sz (es.set i v)) fun H' => K (.raw undef) E H'
       | false => putsK oc o cs fun nc => updK H l (.arr e sz (es.set i (.agg nc))) fun H' => K (.raw undef) E H')
      | false => False)
     | false => False)
    | _ => False)
   | _ => False)
  | false => False
def fillK (E : List AV) (fs : List (Nat × Nat × Bool)) : List (Nat × Operand) → List AV → (List AV → Prop) → Prop
 | [], cells, K => K cells
 | (i, x) :: r, cells, K => lkK fs i fun (off, size, _) => evK E x fun v => cellsK v fun cs => match Nat.beq cs.length size && Nat.ble (off + size) cells.length && cs.all scalB with
  | true => putsK cells off cs fun cells => fillK E fs r cells K
  | false => False
def plA (n sz : Nat) (ag : Bool) : Nat → List (Nat × Nat × Bool)
 | i => match n with | 0 => [] | n + 1 => (i, sz, ag) :: plA n sz ag (i + sz)
def buildK (T : List TY) (E : List AV) (t : TypeId) (parts : List (Nat × Operand)) (K : AV → Prop) : Prop :=
 lkK T t fun y => match y.k with
  | .struct fs => (match fs.all (fun f => Nat.ble 1 f.2.1) && Nat.beq y.zero.length y.size && Nat.ble 1 y.size with
   | true => fillK E fs parts y.zero fun cells => K (.agg cells)
   | false => False)
  | .array n sz ag => (match Nat.ble 1 sz && Nat.beq y.zero.length y.size && Nat.ble 1 y.size with
   | true => fillK E (plA n sz ag 0) parts y.zero fun cells => K (.agg cells)
   | false => False)
  | _ => False
def fillEsK (E : List AV) (sz : Nat) : List (Nat × Operand) → List AV → (List AV → Prop) → Prop
 | [], es, K => K es
 | (i, x) :: r, es, K => evK E x fun v => cellsK v fun cs => match Nat.beq cs.length sz && cs.all scalB && cs.all noArr && Nat.blt i es.length with
  | true => updK es i v fun es => fillEsK E sz r es K
  | false => False
def repK {α : Type} (v : α) : Nat → (List α → Prop) → Prop
 | 0, K => K []
 | n + 1, K => repK v n fun l => K (v :: l)
theorem repK_iff {α : Type} (v : α) : ∀ (n : Nat) (K : List α → Prop), repK v n K ↔ K (List.replicate n v)
 | 0, _ => by simp [repK]
 | n + 1, K => by simp [repK, repK_iff v n, List.replicate_succ]
def buildSliceC (T : List TY) (E : List AV) (t : TypeId) (n : Nat) (parts : List (Nat × Operand)) (K : HO → (Nat → AV) → Prop) : Prop :=
 lkK T t fun y => match y.k with
  | .slice e esz _ _ => zeroK T e fun z => cellsK z fun zc => (match Nat.beq zc.length esz && zc.all scalB && zc.all noArr && Nat.ble 1 esz && Nat.ble (n * esz) 16777216 with
   | true => repK z n fun es => fillEsK E esz parts es fun es => K (.arr e esz es) fun l => .own l esz 0 n
   | false => False)
  | _ => False
def buildSliceK (s : Option Nat) (T : List TY) (E : List AV) (H : List HO) (t : TypeId) (n : Nat) (parts : List (Nat × Operand)) (K : AV → KK) : Prop :=
 buildSliceC T E t n parts fun ob f => alK s H ob fun H' l => K (f l) E H'
def makeSliceC (T : List TY) (E : List AV) (t : TypeId) (ln cp : Operand) (K : HO → (Nat → AV) → Prop) : Prop :=
 lkK T t fun y => match y.k with
  | .slice e esz by' _ => zeroK T e fun z => cellsK z fun zc => (match Nat.beq zc.length esz && zc.all scalB && zc.all noArr && Nat.ble 1 esz with
   | true => evK E ln fun ln => evK E cp fun cp => (match ln, cp with
    | .int .i64 n, .int .i64 c => (0 ≤ n ∧ n ≤ c ∧ by' * c ≤ 281474976710656) ∧ K (.arr e esz (List.replicate n.toNat z)) fun l => .own l esz 0 n.toNat
    | _, _ => False)
   | false => False)
  | _ => False
def makeSliceK (s : Option Nat) (T : List TY) (E : List AV) (H : List HO) (t : TypeId) (ln cp : Operand) (K : AV → KK) : Prop :=
 makeSliceC T E t ln cp fun ob f => alK s H ob fun H' l => K (f l) E H'
def elemsK (H : List HO) (x : AV) (K : Nat → List AV → Prop) : Prop :=
 match x with
 | .sl sz es => K sz es
 | .own l sz lo n => lkK H l fun ob => match ob with
  | .arr _ sz' es => (match Nat.beq sz sz' && Nat.beq lo 0 with
   | true => n = es.length ∧ K sz es
   | false => False)
  | _ => False
 | _ => False
def appendK (al : Option Nat) (T : List TY) (E : List AV) (H : List HO) (t t' : TypeId) (s x : Operand) (K : AV → KK) : Prop :=
 match Nat.beq t t' with
 | true => lkK T t fun y => (match y.k with
  | .slice e esz by' _ => (match Nat.ble 1 esz && Nat.ble 1 by' with
   | true => evK E s fun sv => evK E x fun xv => (match xv with
    | .raw (.slice none 0 0) => (match sv with
     | .own l sz lo n => lkK H l fun ob => (match ob with | .arr _ _ _ => K (.own l sz lo n) E H | _ => False)
     | .raw (.slice none 0 0) => K (.raw (.slice none 0 0)) E H
     | _ => False)
    | _ => elemsK H xv fun sz xs => (match Nat.beq sz esz with
     | true => (match sv with
      | .raw (.slice none 0 0) => (xs.length * by' ≤ 140737488355328) ∧ zeroK T e fun z => cellsK z fun zc => (match Nat.beq zc.length esz && zc.all scalB with
       | true => alK al H (.arr e esz xs) fun H' l => K (.own l esz 0 xs.length) E H'
       | false => False)
      | .own l sz' lo n => lkK H l fun ob => (match ob with
       | .arr e' sz'' es => (match Nat.beq sz' esz && Nat.beq sz'' esz && Nat.beq lo 0 && Nat.beq e' e with
        | true => (n = es.length ∧ (es ++ xs).length * by' ≤ 140737488355328) ∧ zeroK T e fun z => cellsK z fun zc => (match Nat.beq zc.length esz && zc.all scalB with
         | true => scrubK l E fun E' => scrubHK l H fun H => updK H l (.arr e esz (es ++ xs)) fun H' => K (.own l esz 0 (es ++ xs).length) E' H'
         | false => False)
        | false => False)
       | _ => False)
      | _ => False)
     | false => False))
   | false => False)
  | _ => False)
 | false => False
def clearL (es : List AV) (lo n : Nat) (z : AV) : List AV := es.take lo ++ (List.replicate n z ++ es.drop (lo + n))
def clearK (T : List TY) (E : List AV) (H : List HO) (t : TypeId) (x : Operand) (K : AV → KK) : Prop :=
 lkK T t fun y => match y.k with
  | .slice e esz _ _ => zeroK T e fun z => cellsK z fun zc => (match Nat.beq zc.length esz && zc.all scalB && zc.all noArr && Nat.ble 1 esz with
   | true => evK E x fun v => (match v with
    | .own l sz lo n => lkK H l fun ob => (match ob with
     | .arr e' sz' es => (match Nat.beq sz esz && Nat.beq sz' esz && Nat.beq e' e with
      | true => updK H l (.arr e esz (clearL es lo n z)) fun H' => K (.tuple []) E H'
      | false => False)
     | _ => False)
    | _ => False)
   | false => False)
  | _ => False
def makeMapK (al : Option Nat) (E : List AV) (H : List HO) (K : AV → KK) : Prop := alK al H (.map [] []) fun H' l => K (.om l) E H'
def mapUpdK (T : List TY) (E : List AV) (H : List HO) (t : TypeId) (m k x : Operand) (K : AV → KK) : Prop :=
 lkK T t fun y => match y.k with
  | .map kt _ => lkK T kt fun yk => evK E m fun mv => evK E k fun kv => evK E x fun v => (match keyOK yk.k kv && memfree v with
   | true => (match mv with
    | .om l => lkK H l fun ob => (match ob with
     | .map ks vs => (∀ a ∈ ks, keyLike kv a = true) ∧ updK H l (.map (mkeys kv ks) (mvals kv v ks vs)) fun H' => K (.raw undef) E H'
     | _ => False)
    | _ => False)
   | false => False)
  | _ => False
def bytesK (T : List TY) (E : List AV) (H : List HO) (s d : TypeId) (x : Operand) (K : AV → KK) : Prop :=
 lkK T s fun ys => lkK T d fun yd => evK E x fun v => match ys.k, yd.k with
  | .string, .slice e esz _ _ => (match v with
   | .str l => (match Nat.beq esz 1 with
    | true => lkK T e fun ye => (match ye.k with
     | .int .u8 => K (.sl 1 (l.map fun b => .int .u8 b.toNat)) E H
     | _ => False)
    | false => False)
   | _ => False)
  | .slice e esz _ _, .string => elemsK H v fun sz es => (match Nat.beq sz 1 && Nat.beq esz 1 with
   | true => lkK T e fun ye => (match ye.k with
    | .int .u8 => ∃ l : List UInt8, ((es = l.map fun b => .int .u8 b.toNat) ∧ l.length ≤ 9223372036854775807) ∧ K (.str l) E H
    | _ => False)
   | false => False)
  | _, _ => False
end Go.Av
