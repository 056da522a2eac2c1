/-
  AV: what is behind the kept objects is forgotten.
-/
import Derived.Test.YtbedaolpfedacaaGreatDoorKc3
import Derived.ProofKit
import Derived.Below
import Derived.ChangeSame
import Derived.Deep.Slices
set_option linter.unusedSimpArgs false
set_option linter.unusedVariables false
set_option linter.unusedSectionVars false
namespace Go.Av
open Go.RowKit (Below)
section
variable {G : Cx} {C C' : CellSet} {w w' : World} {mu mu' : Mu} {H H0 R : List HO} {E : List AV} {a : Act} {T : List TY} {P : Program}
def Mu.below (mu : Mu) (N : Nat) : Mu := fun l => if l < N then mu l else Option.none
theorem below_lt {N l : Nat} (h : l < N) : mu.below N l = mu l := by simp [Mu.below, h]
theorem below_some {N l : Nat} {g : GO} (h : mu.below N l = some g) : l < N ∧ mu l = some g := by unfold Mu.below at h; split at h <;> simp_all
theorem closeds_flat : ∀ {es : List AV}, (∀ e ∈ es, closed e = true) → closeds (flat es) = true
 | [], _ => rfl
 | e :: es, h => by
  have e1 : flat (e :: es) = e.cells ++ flat es := by simp [flat]
  have app : ∀ (xs ys : List AV), closeds xs = true → closeds ys = true → closeds (xs ++ ys) = true := by
   intro xs ys
   induction xs with
   | nil => intro _ h; exact h
   | cons x xs ih =>
    intro h1 h2
    unfold closeds at h1
    simp only [Bool.and_eq_true] at h1
    simp only [List.cons_append]
    unfold closeds
    simp only [Bool.and_eq_true]
    exact ⟨h1.1, ih h1.2 h2⟩
  rw [e1]
  refine app _ _ ?_ (closeds_flat fun a ha => h a (by simp [ha]))
  have he := h e (by simp)
  cases e with
  | agg cs => unfold closed at he; exact he
  | _ => simp only [AV.cells, closeds, Bool.and_true]; exact he
def realAt : List HO → Nat → Bool
 | [], _ => false
 | .cells _ :: _, 0 => true
 | .arr _ _ _ :: _, 0 => true
 | .map _ _ :: _, 0 => true
 | _ :: _, 0 => false
 | _ :: r, k + 1 => realAt r k
mutual
/-- It leads only to what is handed. -/
def within (H0 : List HO) : AV → Bool
 | .own k _ _ _ => realAt H0 k
 | .el k _ _ _ => realAt H0 k
 | .ptr k _ => realAt H0 k
 | .om k => realAt H0 k
 | .fn _ cap => withins H0 cap
 | .mv _ cap => withins H0 cap
 | .iface _ x => within H0 x
 | .agg cs => withins H0 cs
 | .tuple vs => withins H0 vs
 | _ => true
def withins (H0 : List HO) : List AV → Bool
 | [] => true
 | a :: as => within H0 a && withins H0 as
end
def Mu.only (mu : Mu) (H0 : List HO) : Mu := fun l => if realAt H0 l = true then mu l else Option.none
theorem only_some {l : Nat} {g : GO} (h : mu.only H0 l = some g) : realAt H0 l = true ∧ mu l = some g := by unfold Mu.only at h; split at h <;> simp_all
theorem only_eq {l : Nat} (h : realAt H0 l = true) : mu.only H0 l = mu l := by simp [Mu.only, h]
mutual
theorem within_rep : ∀ (x : AV) {v : Value}, within H0 x = true → Rep C w x mu v → Rep C w x (mu.only H0) v
 | .any, _, _, _ => by unfold Rep; trivial
 | .int _ _, _, _, h => by unfold Rep at *; exact h
 | .bool _, _, _, h => by unfold Rep at *; exact h
 | .lit _, _, _, h => by unfold Rep at *; exact h
 | .str _, _, _, h => by unfold Rep at *; exact h
 | .sl _ _, _, _, h => by unfold Rep at *; exact h
 | .at_ _, _, _, h => by unfold Rep at *; exact h
 | .raw _, _, _, h => by unfold Rep at *; exact h
 | .mp _ _, _, _, h => by unfold Rep at *; exact h
 | .om k, _, hn, h => by
  unfold within at hn
  unfold Rep at *
  rw [only_eq hn]; exact h
 | .ptr k o, _, hn, h => by
  unfold within at hn
  unfold Rep at *
  rw [only_eq hn]; exact h
 | .el k sz i o, _, hn, h => by
  unfold within at hn
  unfold Rep at *
  rw [only_eq hn]; exact h
 | .own k sz lo n, _, hn, h => by
  unfold within at hn
  unfold Rep at *
  rw [only_eq hn]; exact h
 | .fn f cap, _, hn, h => by
  unfold within at hn
  unfold Rep at *
  obtain ⟨vs, h1, h2⟩ := h
  exact ⟨vs, h1, withins_rep cap hn h2⟩
 | .mv f cap, _, hn, h => by
  unfold within at hn
  unfold Rep at *
  obtain ⟨vs, h1, h2⟩ := h
  exact ⟨vs, h1, withins_rep cap hn h2⟩
 | .iface t x, _, hn, h => by
  unfold within at hn
  unfold Rep at *
  obtain ⟨y, h1, h2⟩ := h
  exact ⟨y, h1, within_rep x hn h2⟩
 | .agg cs, _, hn, h => by
  unfold within at hn
  unfold Rep at *
  obtain ⟨vs, h1, h2⟩ := h
  exact ⟨vs, h1, withins_rep cs hn h2⟩
 | .tuple cs, _, hn, h => by
  unfold within at hn
  unfold Rep at *
  obtain ⟨vs, h1, h2⟩ := h
  exact ⟨vs, h1, withins_rep cs hn h2⟩
theorem withins_rep : ∀ (xs : List AV) {vs : List Value}, withins H0 xs = true → Reps C w xs mu vs → Reps C w xs (mu.only H0) vs
 | [], _, _, h => by unfold Reps at *; exact h
 | x :: xs, _, hn, h => by
  unfold withins at hn
  simp only [Bool.and_eq_true] at hn
  unfold Reps at *
  obtain ⟨v, vs', h1, h2, h3⟩ := h
  exact ⟨v, vs', h1, within_rep x hn.1 h2, withins_rep xs hn.2 h3⟩
end
theorem realAt_iff : ∀ {H : List HO} {l : Nat}, realAt H l = true ↔ ∃ ob, H[l]? = some ob ∧ ob.real = true
 | [], l => by simp [realAt]
 | o :: r, 0 => by cases o <;> simp [realAt]
 | o :: r, l + 1 => by
  have : realAt (o :: r) (l + 1) = realAt r l := by cases o <;> rfl
  rw [this, realAt_iff]; simp
def objsOK (F : List HO) : List HO → Prop → Prop
 | [], Q => Q
 | .cells cs :: r, Q => withins F cs = true ∧ objsOK F r Q
 | .arr _ _ es :: r, Q => (∀ e ∈ es, closed e = true) ∧ objsOK F r Q
 | .dead :: r, Q => objsOK F r Q
 | .ghost cs _ _ :: r, Q => withins F cs = true ∧ objsOK F r Q
 | .inv _ :: r, Q => objsOK F r Q
 | .map _ _ :: r, Q => objsOK F r Q
theorem objsOK_get {F : List HO} : ∀ {H : List HO} {Q : Prop}, objsOK F H Q → Q ∧ (∀ (i : Nat) cs, H[i]? = some (.cells cs) → withins F cs = true) ∧ (∀ (i : Nat) e sz es, H[i]? = some (.arr e sz es) → ∀ a ∈ es, closed a = true) ∧
   (∀ (i : Nat) cs vs ms, H[i]? = some (.ghost cs vs ms) → withins F cs = true)
 | [], Q, h => ⟨h, fun i cs hi => by simp at hi, fun i e sz es hi => by simp at hi, fun i cs vs ms hi => by simp at hi⟩
 | o :: r, Q, h => by
  cases o with
  | cells cs0 =>
   unfold objsOK at h
   obtain ⟨h0, h⟩ := h
   obtain ⟨k0, k1, k2, k3⟩ := objsOK_get h
   refine ⟨k0, fun i cs hi => ?_, fun i e sz es hi => ?_, fun i cs vs ms hi => ?_⟩
   ·cases i with
    | zero => simp at hi; subst hi; exact h0
    | succ i => exact k1 i cs (by simpa using hi)
   ·cases i with
    | zero => simp at hi
    | succ i => exact k2 i e sz es (by simpa using hi)
   ·cases i with
    | zero => simp at hi
    | succ i => exact k3 i cs vs ms (by simpa using hi)
  | arr e0 sz0 es0 =>
   unfold objsOK at h
   obtain ⟨h0, h⟩ := h
   obtain ⟨k0, k1, k2, k3⟩ := objsOK_get h
   refine ⟨k0, fun i cs hi => ?_, fun i e sz es hi => ?_, fun i cs vs ms hi => ?_⟩
   ·cases i with
    | zero => simp at hi
    | succ i => exact k1 i cs (by simpa using hi)
   ·cases i with
    | zero => simp at hi; obtain ⟨rfl, rfl, rfl⟩ := hi; exact h0
    | succ i => exact k2 i e sz es (by simpa using hi)
   ·cases i with
    | zero => simp at hi
    | succ i => exact k3 i cs vs ms (by simpa using hi)
  | ghost cs0 vs0 ms0 =>
   unfold objsOK at h
   obtain ⟨h0, h⟩ := h
   obtain ⟨k0, k1, k2, k3⟩ := objsOK_get h
   refine ⟨k0, fun i cs hi => ?_, fun i e sz es hi => ?_, fun i cs vs ms hi => ?_⟩
   ·cases i with
    | zero => simp at hi
    | succ i => exact k1 i cs (by simpa using hi)
   ·cases i with
    | zero => simp at hi
    | succ i => exact k2 i e sz es (by simpa using hi)
   ·cases i with
    | zero => simp at hi; obtain ⟨rfl, rfl, rfl⟩ := hi; exact h0
    | succ i => exact k3 i cs vs ms (by simpa using hi)
  | dead =>
   unfold objsOK at h
   obtain ⟨k0, k1, k2, k3⟩ := objsOK_get h
   refine ⟨k0, fun i cs hi => ?_, fun i e sz es hi => ?_, fun i cs vs ms hi => ?_⟩
   ·cases i with
    | zero => simp at hi
    | succ i => exact k1 i cs (by simpa using hi)
   ·cases i with
    | zero => simp at hi
    | succ i => exact k2 i e sz es (by simpa using hi)
   ·cases i with
    | zero => simp at hi
    | succ i => exact k3 i cs vs ms (by simpa using hi)
  | inv I =>
   unfold objsOK at h
   obtain ⟨k0, k1, k2, k3⟩ := objsOK_get h
   refine ⟨k0, fun i cs hi => ?_, fun i e sz es hi => ?_, fun i cs vs ms hi => ?_⟩
   ·cases i with
    | zero => simp at hi
    | succ i => exact k1 i cs (by simpa using hi)
   ·cases i with
    | zero => simp at hi
    | succ i => exact k2 i e sz es (by simpa using hi)
   ·cases i with
    | zero => simp at hi
    | succ i => exact k3 i cs vs ms (by simpa using hi)
  | map _ _ =>
   unfold objsOK at h
   obtain ⟨k0, k1, k2, k3⟩ := objsOK_get h
   refine ⟨k0, fun i cs hi => ?_, fun i e sz es hi => ?_, fun i cs vs ms hi => ?_⟩
   ·cases i with
    | zero => simp at hi
    | succ i => exact k1 i cs (by simpa using hi)
   ·cases i with
    | zero => simp at hi
    | succ i => exact k2 i e sz es (by simpa using hi)
   ·cases i with
    | zero => simp at hi
    | succ i => exact k3 i cs vs ms (by simpa using hi)
theorem only_below : MuLe (mu.only H) (mu.below H.length) := fun l g hl => by
 obtain ⟨k1, k2⟩ := only_some hl
 obtain ⟨ob, ho, _⟩ := realAt_iff.1 k1
 rw [below_lt (List.getElem?_eq_some_iff.1 ho).1]; exact k2
theorem StC.drop (h : StC G C mu E (H ++ R) a w) (hE : withins H E = true) (hO : objsOK H H True) (hn : G.np ≤ H.length) : StC G C (mu.below H.length) E H a w := by
 obtain ⟨_, o1, o2, o3⟩ := objsOK_get hO
 have up : ∀ {i : Nat} {ob : HO}, H[i]? = some ob → (H ++ R)[i]? = some ob := fun {i ob} hi => by
  rw [List.getElem?_append_left (List.getElem?_eq_some_iff.1 hi).1]; exact hi
 have lt : ∀ {i : Nat} {ob : HO}, H[i]? = some ob → i < H.length := fun hi => (List.getElem?_eq_some_iff.1 hi).1
 have wr : ∀ (xs : List AV) {vs : List Value}, withins H xs = true → Reps C w xs mu vs → Reps C w xs (mu.below H.length) vs := fun xs vs h1 h2 => Reps.mono (Ext.refl _ _) _ only_below (withins_rep xs h1 h2)
 refine ⟨h.c0, h.c1, h.lt, ⟨fun l g hl => (below_some hl).1, fun l g b hl hg => h.heap.fresh l g b (below_some hl).2 hg, fun l g b l' g' hl hg hl' hg' => h.heap.sep l g b l' g' (below_some hl).2 hg (below_some hl').2 hg', fun l hl => ?_, fun l cs hl => ?_, fun l e sz es hl => ?_, fun l ks vs hl => ?_⟩,
  wr E hE h.env, ?_, h.keep, hn, fun l b hl hp => ?_⟩
 ·rw [below_lt (lt hl)]; exact h.heap.dead l (up hl)
 ·obtain ⟨b, cur, e, k1, k2, k3, k4⟩ := h.heap.recs l cs (up hl)
  exact ⟨b, cur, e, by rw [below_lt (lt hl)]; exact k1, k2, wr cs (o1 l cs hl) k3, k4⟩
 ·obtain ⟨k0, k⟩ := h.heap.arrs l e sz es (up hl)
  refine ⟨k0, ?_⟩
  rw [below_lt (lt hl)]
  exact k.imp id fun ⟨b, cap, cur, k1, k2, k3, k4, k5, k6, k7⟩ => ⟨b, cap, cur, k1, k2, k3, k4, k5, Reps.mono (Ext.refl _ _) _ (MuLe.none _) (closeds_rep _ (closeds_flat (o2 l e sz es hl)) k6), k7⟩
 ·obtain ⟨b, es, cl, k1, k2, k3⟩ := h.heap.maps l ks vs (up hl)
  exact ⟨b, es, cl, by rw [below_lt (lt hl)]; exact k1, k2, k3⟩
 ·obtain ⟨ms, d1, d2⟩ := h.defers
  have hmk : ∀ {D : Nat × Obj}, MarkOK C w G.fresh mu D → MarkOK C w G.fresh (mu.below H.length) D := fun k => ⟨k.at_, k.imm, fun l g hl => k.own l g (below_some hl).2, k.fr⟩
  refine ⟨ms, d1, ⟨fun l cs vs gm hl => ?_, fun l I hl => ?_, fun d hd => hmk (d2.marks d hd), d2.nd, fun l l' cs vs gm cs' vs' gm' hl hl' => d2.sep l l' cs vs gm cs' vs' gm' (up hl) (up hl')⟩⟩
  ·obtain ⟨k1, k2, k3⟩ := d2.ghosts l cs vs gm (up hl)
   exact ⟨wr cs (o3 l cs vs gm hl) k1, k2, fun D hD => ⟨hmk (k3 D hD).1, (k3 D hD).2⟩⟩
  ·obtain ⟨h0, Sw, Sr, f, q2, q3, q4⟩ := d2.invs l I (up hl)
   exact ⟨h0, Sw, Sr, ⟨f.fr, f.base, f.cb, fun i g b hi => f.ob i g b (below_some hi).2, f.sub, f.lt, fun b hb i g hi => f.own b hb i g (below_some hi).2, f.imm⟩, q2, q3, fun k cs vs gm hk => q4 k cs vs gm (up hk)⟩
 ·rw [below_lt (Nat.lt_of_lt_of_le hl hn)]; exact h.pin.2 l b hl hp
def hpreK : List HO → List HO → Prop → Prop
 | _, [], Q => Q
 | x :: xs, y :: ys, Q => x = y ∧ hpreK xs ys Q
 | [], _ :: _, _ => False
theorem hpreK_iff : ∀ {xs ys : List HO} {Q : Prop}, hpreK xs ys Q → Q ∧ ∃ R, xs = ys ++ R
 | xs, [], Q, h => ⟨by cases xs <;> exact h, xs, by simp⟩
 | x :: xs, y :: ys, Q, h => by
  unfold hpreK at h
  obtain ⟨rfl, h⟩ := h
  obtain ⟨q, R, rfl⟩ := hpreK_iff h
  exact ⟨q, R, rfl⟩
 | [], _ :: _, _, h => by unfold hpreK at h; exact h.elim
end
end Go.Av
set_option linter.unusedSimpArgs false
set_option linter.unusedVariables false
namespace Go.Av
open Go.RowKit (Below)
structure HPost (C : CellSet) (mu : Mu) (w : World) (C' : CellSet) (mu' : Mu) (w' : World) : Prop where
 same : Same (fun b => b < w.heap.size ∧ ∀ l g, mu l = some g → g.block? ≠ some b) w w'
 sub : ∀ b o, C b o → C' b o
 new : ∀ b o, C' b o → b < w'.heap.size ∧ (C b o ∨ w.heap.size ≤ b ∨ ∃ l g, mu l = some g ∧ g.block? = some b)
 pin : ∀ l b, mu l = some (.blk b) → mu' l = some (.blk b)
 ob : ∀ l g b, mu' l = some g → g.block? = some b → (∃ l g, mu l = some g ∧ g.block? = some b) ∨ w.heap.size ≤ b
def realH : List HO → Bool
 | [] => true
 | .cells _ :: r => realH r
 | .arr _ _ _ :: r => realH r
 | .map _ _ :: r => realH r
 | .dead :: r => realH r
 | _ :: _ => false
theorem realH_get : ∀ {H : List HO}, realH H = true → ∀ {l : Nat} {ob : HO}, H[l]? = some ob → ob.real = true ∨ ob = .dead
 | [], _, l, ob, h => by simp at h
 | o :: r, hr, 0, ob, h => by
  simp only [List.getElem?_cons_zero, Option.some.injEq] at h
  subst h
  cases o <;> simp_all [realH]
 | o :: r, hr, l + 1, ob, h => by
  have hr' : realH r = true := by cases o <;> first | exact hr | cases hr
  exact realH_get hr' (by simpa using h)
structure HCtr (P : Program) (f : FuncId) (args : List AV) (H0 : List HO) (R X : AV → List HO → Prop) : Prop where
 good : goodF P f = true
 out : ∀ (C : CellSet) (mu : Mu) (w : World) (vs : List Value), COK C w → HeapRel C w (fun _ => True) mu H0 → Reps C w args mu vs →
  Calls P f vs.toArray w fun e w' => ∃ r v H1 C' mu', ((e = .returned v ∧ R r H1) ∨ (e = .panicked [{ v, recovered := false }] ∧ X r H1)) ∧ HPost C mu w C' mu' w' ∧ HeapRel C' w' (fun _ => True) mu' H1 ∧ Rep C' w' r mu' v ∧
   H1.length = H0.length ∧ realH H1 = true ∧ ∀ l : Nat, H0[l]? = some HO.dead → H1[l]? = some HO.dead
def closeN (N : Nat) (H : List HO) : Nat → AV → (AV → Prop) → Prop
 | 0, v, K => match closed v with | true => v.force K | false => False
 | n + 1, v, K => match v with
  | .own l sz lo m => match Nat.blt l N with
   | true => K (.own l sz lo m)
   | false => lkK H l fun ob => (match ob with
    | .arr _ sz' es => (match Nat.beq sz sz' && Nat.beq lo 0 with
     | true => (m = es.length ∧ ∀ e ∈ es, closed e = true) ∧ K (.sl sz es)
     | false => False)
    | _ => False)
  | .el l sz i o => match Nat.blt l N with | true => K (.el l sz i o) | false => False
  | .ptr l o => match Nat.blt l N with
   | true => K (.ptr l o)
   | false => lkK H l fun ob => (match ob with
    | .cells cs => mapK (closeN N H n) cs fun cs => (match closeds cs with | true => dropK cs o fun cs => K (.at_ cs) | false => False)
    | _ => False)
  | .fn f cap => mapK (closeN N H n) cap fun cs => K (.fn f cs)
  | .mv f cap => mapK (closeN N H n) cap fun cs => K (.mv f cs)
  | .agg cs => mapK (closeN N H n) cs fun cs => K (.agg cs)
  | .tuple cs => mapK (closeN N H n) cs fun cs => K (.tuple cs)
  | .iface t x => closeN N H n x fun x => K (.iface t x)
  | .om l => (match Nat.blt l N with
   | true => K (.om l)
   | false => lkK H l fun ob => (match ob with | .map ks vs => K (.mp ks vs) | _ => False))
  | v => v.force K
def hendK (N : Nat) (H : List HO) : List HO → List HO → (List HO → Prop) → Prop
 | [], _, K => K []
 | .dead :: r0, .dead :: r, K => hendK N H r0 r fun r => K (.dead :: r)
 | .dead :: _, _, _ => False
 | _ :: r0, .dead :: r, K => hendK N H r0 r fun r => K (.dead :: r)
 | _ :: r0, .cells cs :: r, K => mapK (closeN N H 4) cs fun cs => hendK N H r0 r fun r => K (.cells cs :: r)
 | _ :: r0, .arr e sz es :: r, K => (∀ e ∈ es, closed e = true) ∧ hendK N H r0 r fun r => K (.arr e sz es :: r)
 | _ :: r0, .map ks vs :: r, K => hendK N H r0 r fun r => K (.map ks vs :: r)
 | _, _, _ => False
def hretK (T : List TY) (rs : List ResultVar) (H0 : List HO) (R : AV → List HO → Prop) (E : List AV) (H : List HO) : Prop :=
 resK T E H rs fun vs => match vs with
  | [v] => closeN H0.length H 4 v fun v => hendK H0.length H H0 H fun H1 => R v H1
  | vs => closeN H0.length H 5 (.tuple vs) fun v => hendK H0.length H H0 H fun H1 => R v H1
def hpanK (H0 : List HO) (X : AV → List HO → Prop) (x : AV) (H : List HO) : Prop :=
 closeN H0.length H 4 x fun x => hendK H0.length H H0 H fun H1 => X x H1
section
variable {G : Cx} {C C' : CellSet} {w w' : World} {mu : Mu} {H : List HO} {E : List AV} {a : Act} {T : List TY} {P : Program}
theorem leaves_gen {n : Nat} {fn : Func} {R : Ending → World → Prop} {tmps tm2 : Array Value} (hds : G.ds = []) {u : FrameMode} (hu : u ≠ .run) : ∀ (ms : List Nat) {w : World} {a : Act}, a.tmps = tm2 → StC G C mu E H a w → XRel C w G.fresh mu H (ms.map (fun D => (D, dfr)) ++ G.rds) →
  (∀ a' w', a'.tmps = tm2 → StC G C mu E H a' w' → LeavesIn (fw none) n G.P fn tmps R [] u w') → LeavesInM (fw none) n G.P fn tmps R (ms.map mark) u w
 | [], w, a, ha, h, hx, hr => by
  simp only [List.map_nil, LeavesInM]
  exact hr a w ha h
 | D :: ms, w, a, ha, h, hx, hr => by
  simp only [List.map_cons, LeavesInM]
  obtain ⟨h1, h2⟩ := h.takeMark hx
  refine ⟨hu, .inl ⟨D, _, rfl, run_takeDeferred ?_, leaves_gen hds hu ms (by exact ha) h1 h2 hr⟩⟩
  exact (hx.marks (D, dfr) (by simp)).at_
def endC (G : Cx) (C : CellSet) (mu : Mu) (w : World) (N : Nat) : CellSet := fun b o => C b o ∨ (b < w.heap.size ∧ G.fresh b ∧ ∀ l g, mu.below N l = some g → g.block? ≠ some b)
theorem endC_ext (N : Nat) : Ext C (endC G C mu w N) w w := ⟨fun _ _ h => .inl h, fun _ _ _ => rfl⟩
theorem closeN_ok (h : StC G C mu E H a w) (N : Nat) : ∀ (n : Nat) {x : AV} {u : Value}, Rep C w x mu u → ∀ {R : AV → Prop}, closeN N H n x R →
  ∃ r, R r ∧ Rep (endC G C mu w N) w r (mu.below N) u
 | 0, x, u, hx, R, hk => by
  unfold closeN at hk
  split at hk
  ·rename_i hc
   rw [AV.force_iff] at hk
   exact ⟨_, hk, Rep.mono (endC_ext N) _ (MuLe.none _) (closed_rep _ hc hx)⟩
  ·exact hk.elim
 | n + 1, x, u, hx, R, hk => by
  have ih : ∀ {x : AV} {u : Value}, Rep C w x mu u → ∀ {R : AV → Prop}, closeN N H n x R → ∃ r, R r ∧ Rep (endC G C mu w N) w r (mu.below N) u := fun hx _ hk => closeN_ok h N n hx hk
  have hbl : ∀ {l}, Nat.blt l N = true → l < N := fun hb => Nat.le_of_ble_eq_true hb
  have hbl' : ∀ {l}, Nat.blt l N = false → ¬ l < N := fun {l} hb hlt => by
   have : Nat.blt l N = true := Nat.ble_eq_true_of_le hlt
   rw [hb] at this; cases this
  have hnew : ∀ {l g b}, ¬ l < N → mu l = some g → g.block? = some b → ∀ o, endC G C mu w N b o := fun {l g b} hl hm hb o =>
   .inr ⟨(h.heap.fresh l g b hm hb).2.1, (h.heap.fresh l g b hm hb).1, fun l' g' hl' hb' => hl (by
    obtain ⟨k1, k2⟩ := below_some hl'
    have := h.heap.sep l g b l' g' hm hb k2 hb'
    omega)⟩
  unfold closeN at hk
  split at hk
  ·rename_i l sz lo m
   split at hk
   ·rename_i hb
    refine ⟨_, hk, ?_⟩
    unfold Rep at *
    obtain ⟨x, h1, h2⟩ := hx
    exact ⟨x, by rw [below_lt (hbl hb)]; exact h1, h2⟩
   ·rename_i hb
    replace hk := (lkK_iff _ _ _).1 hk; obtain ⟨ob, hob, hk⟩ := hk
    cases ob <;> first | exact hk.elim | skip
    rename_i e sz' es
    simp only at hk
    split at hk
    ·rename_i hc
     simp only [Bool.and_eq_true] at hc
     obtain rfl := Nat.eq_of_beq_eq_true hc.1
     obtain rfl := Nat.eq_of_beq_eq_true hc.2
     obtain ⟨⟨rfl, hcl⟩, hk⟩ := hk
     exact ⟨_, hk, Rep.mono (Ext.refl _ _) _ (MuLe.none _) (rows_own h.heap (endC_ext N) (fun g b o hm hg => hnew (hbl' hb) hm hg o) hob hcl hx)⟩
    ·exact hk.elim
  ·rename_i l sz i o
   split at hk
   ·rename_i hb
    refine ⟨_, hk, ?_⟩
    unfold Rep at *
    obtain ⟨b, n, c, h1, h2⟩ := hx
    exact ⟨b, n, c, by rw [below_lt (hbl hb)]; exact h1, h2⟩
   ·exact hk.elim
  ·rename_i l o
   split at hk
   ·rename_i hb
    refine ⟨_, hk, ?_⟩
    unfold Rep at *
    obtain ⟨b, h1, h2⟩ := hx
    exact ⟨b, by rw [below_lt (hbl hb)]; exact h1, h2⟩
   ·rename_i hb
    replace hk := (lkK_iff _ _ _).1 hk; obtain ⟨ob, hob, hk⟩ := hk
    cases ob <;> first | exact hk.elim | skip
    rename_i cs
    simp only at hk
    unfold Rep at hx
    obtain ⟨b, hm, rfl⟩ := hx
    obtain ⟨b', cur, e, hm', hbb, hr, h1⟩ := h.heap.recs l cs hob
    rw [hm] at hm'
    simp only [Option.some.injEq, GO.blk.injEq] at hm'
    subst hm'
    obtain ⟨rs, hk, hrs⟩ := mapR_ok (fun hx _ hk => ih hx hk) hr hk
    split at hk
    ·rename_i hcl
     rw [dropK_iff] at hk
     have hrs := closeds_rep rs hcl hrs
     refine ⟨_, hk, ?_⟩
     unfold Rep
     refine ⟨b, o, rfl, (cells_iff _ _).2 fun i hi => ?_⟩
     have hri := (reps_iff _).1 hrs
     have hi1 : o + i < rs.length := by simp at hi; omega
     have hi2 : o + i < cur.toList.length := by rw [hri.1]; exact hi1
     refine ⟨cur.toList[o + i], h1 _ (List.getElem_mem hi2), ⟨hnew (hbl' hb) hm rfl _, ?_⟩, ?_⟩
     ·rw [cell_of_row w b _ cur e _ hbb]
      simp at hi2 ⊢
     ·have := hri.2 (o + i) hi1 hi2
      simp only [List.getElem_drop]
      exact this
    ·exact hk.elim
  ·unfold Rep at hx
   obtain ⟨vs, rfl, hx⟩ := hx
   obtain ⟨rs, hk, hr⟩ := mapR_ok (fun hx _ hk => ih hx hk) hx hk
   exact ⟨_, hk, by unfold Rep; exact ⟨vs, rfl, hr⟩⟩
  ·unfold Rep at hx
   obtain ⟨vs, rfl, hx⟩ := hx
   obtain ⟨rs, hk, hr⟩ := mapR_ok (fun hx _ hk => ih hx hk) hx hk
   exact ⟨_, hk, by unfold Rep; exact ⟨vs, rfl, hr⟩⟩
  ·unfold Rep at hx
   obtain ⟨vs, rfl, hx⟩ := hx
   obtain ⟨rs, hk, hr⟩ := mapR_ok (fun hx _ hk => ih hx hk) hx hk
   exact ⟨_, hk, by unfold Rep; exact ⟨vs, rfl, hr⟩⟩
  ·unfold Rep at hx
   obtain ⟨vs, rfl, hx⟩ := hx
   obtain ⟨rs, hk, hr⟩ := mapR_ok (fun hx _ hk => ih hx hk) hx hk
   exact ⟨_, hk, by unfold Rep; exact ⟨vs, rfl, hr⟩⟩
  ·unfold Rep at hx
   obtain ⟨y, rfl, hx⟩ := hx
   obtain ⟨r, hk, hr⟩ := ih hx hk
   exact ⟨_, hk, by unfold Rep; exact ⟨y, rfl, hr⟩⟩
  ·rename_i l
   split at hk
   ·rename_i hb
    refine ⟨_, hk, ?_⟩
    unfold Rep at *
    obtain ⟨b, h1, h2⟩ := hx
    exact ⟨b, by rw [below_lt (hbl hb)]; exact h1, h2⟩
   ·rename_i hb
    replace hk := (lkK_iff _ _ _).1 hk; obtain ⟨ob, hob, hk⟩ := hk
    cases ob <;> first | exact hk.elim | skip
    rename_i ks vs
    simp only at hk
    obtain ⟨b, es, clock, h1, h2, h3⟩ := h.heap.maps l ks vs hob
    unfold Rep at hx
    obtain ⟨b', h4, h5⟩ := hx
    rw [h1] at h4
    simp only [Option.some.injEq, GO.blk.injEq] at h4
    subst h4
    refine ⟨_, hk, ?_⟩
    unfold Rep
    exact .inr ⟨b, es, clock, h5, hnew (hbl' hb) h1 rfl 0, h2, (h3 _ _).1, (h3 _ _).2⟩
  ·rename_i q1 q2 q3 q4 q4b q5 q6 q7 q8
   rw [AV.force_iff] at hk
   refine ⟨_, hk, ?_⟩
   have hcl : closed x = true := by
    cases x with
    | own l sz lo m => exact absurd rfl (q1 l sz lo m)
    | el l sz i o => exact absurd rfl (q2 l sz i o)
    | ptr l o => exact absurd rfl (q3 l o)
    | fn f cap => exact absurd rfl (q4 f cap)
    | mv f cap => exact absurd rfl (q4b f cap)
    | agg cs => exact absurd rfl (q5 cs)
    | tuple cs => exact absurd rfl (q6 cs)
    | iface t x => exact absurd rfl (q7 t x)
    | om l => exact absurd rfl (q8 l)
    | _ => rfl
   exact Rep.mono (endC_ext N) _ (MuLe.none _) (closed_rep _ hcl hx)
theorem hend_ok (h : StC G C mu E H a w) (N : Nat) : ∀ (r0 r : List HO) {k : Nat}, (∀ i, r[i]? = H[k + i]?) → k + r0.length ≤ N → ∀ {R : List HO → Prop}, hendK N H r0 r R →
  ∃ H1, R H1 ∧ H1.length = r0.length ∧ realH H1 = true ∧ (∀ l : Nat, r0[l]? = some HO.dead → H1[l]? = some HO.dead) ∧ (∀ l : Nat, H1[l]? = some HO.dead → mu (k + l) = none) ∧
   (∀ (l : Nat) cs, H1[l]? = some (.cells cs) → ∃ b cur e, mu (k + l) = some (.blk b) ∧ w.heap[b]? = some (.cells cur e (0, 0)) ∧ Reps (endC G C mu w N) w cs (mu.below N) cur.toList ∧ ∀ v ∈ cur.toList, v.oneCell' = true) ∧
   (∀ (l : Nat) e sz es, H1[l]? = some (.arr e sz es) → (∀ a ∈ es, closed a = true) ∧ H[k + l]? = some (.arr e sz es)) ∧ (∀ (l : Nat) ks vs, H1[l]? = some (.map ks vs) → H[k + l]? = some (.map ks vs))
 | [], r, k, hr, hkN, R, hk => by
  unfold hendK at hk
  exact ⟨[], hk, rfl, rfl, fun l h => by simp at h, fun l h => by simp at h, fun l cs h => by simp at h, fun l e sz es h => by simp at h, fun l ks vs h => by simp at h⟩
 | o0 :: r0, r, k, hr, hkN, R, hk => by
  have h0 := hr 0
  have step : ∀ (o : HO) (r' : List HO), r = o :: r' → ∀ i, r'[i]? = H[k + 1 + i]? := fun o r' e i => by
   have := hr (i + 1)
   rw [e] at this
   simp only [List.getElem?_cons_succ] at this
   rw [this]; congr 1; omega
  have dd : ∀ {r' : List HO}, r = .dead :: r' → hendK N H r0 r' (fun r => R (.dead :: r)) → ∃ H1, R H1 ∧ H1.length = (o0 :: r0).length ∧ realH H1 = true ∧ (∀ l : Nat, (o0 :: r0)[l]? = some HO.dead → H1[l]? = some HO.dead) ∧ (∀ l : Nat, H1[l]? = some HO.dead → mu (k + l) = none) ∧
   (∀ (l : Nat) cs, H1[l]? = some (.cells cs) → ∃ b cur e, mu (k + l) = some (.blk b) ∧ w.heap[b]? = some (.cells cur e (0, 0)) ∧ Reps (endC G C mu w N) w cs (mu.below N) cur.toList ∧ ∀ v ∈ cur.toList, v.oneCell' = true) ∧
   (∀ (l : Nat) e sz es, H1[l]? = some (.arr e sz es) → (∀ a ∈ es, closed a = true) ∧ H[k + l]? = some (.arr e sz es)) ∧ (∀ (l : Nat) ks vs, H1[l]? = some (.map ks vs) → H[k + l]? = some (.map ks vs)) := fun {r'} e hk => by
   obtain ⟨H1, q1, q2, q3, q4, q5, q6, q7, q8⟩ := hend_ok h N r0 r' (k := k + 1) (step _ _ e) (by simp at hkN; omega) hk
   refine ⟨.dead :: H1, q1, by simp [q2], by simpa [realH] using q3, fun l hl => ?_, fun l hl => ?_, fun l cs hl => ?_, fun l e' sz es hl => ?_, fun l ks vs hl => ?_⟩
   ·cases l with
    | zero => rfl
    | succ l => simpa using q4 l (by simpa using hl)
   ·cases l with
    | zero => exact h.heap.dead k (by rw [← Nat.add_zero k, ← h0, e]; rfl)
    | succ l => rw [show k + (l + 1) = k + 1 + l by omega]; exact q5 l (by simpa using hl)
   ·cases l with
    | zero => simp at hl
    | succ l => rw [show k + (l + 1) = k + 1 + l by omega]; exact q6 l cs (by simpa using hl)
   ·cases l with
    | zero => simp at hl
    | succ l => rw [show k + (l + 1) = k + 1 + l by omega]; exact q7 l e' sz es (by simpa using hl)
   ·cases l with
    | zero => simp at hl
    | succ l => rw [show k + (l + 1) = k + 1 + l by omega]; exact q8 l ks vs (by simpa using hl)
  have nd : ∀ {o1 : HO} {H1 : List HO}, o0 ≠ .dead → H1.length = r0.length → realH (o1 :: H1) = true → o1 ≠ .dead → (∀ l : Nat, r0[l]? = some HO.dead → H1[l]? = some HO.dead) → (∀ l : Nat, H1[l]? = some HO.dead → mu (k + 1 + l) = none) →
    (o1 :: H1).length = (o0 :: r0).length ∧ realH (o1 :: H1) = true ∧ (∀ l : Nat, (o0 :: r0)[l]? = some HO.dead → (o1 :: H1)[l]? = some HO.dead) ∧ (∀ l : Nat, (o1 :: H1)[l]? = some HO.dead → mu (k + l) = none) := fun {o1 H1} hne q2 q3 hne1 q4 q5 => by
   refine ⟨by simp [q2], q3, fun l hl => ?_, fun l hl => ?_⟩
   ·cases l with
    | zero => simp at hl; exact absurd hl hne
    | succ l => simpa using q4 l (by simpa using hl)
   ·cases l with
    | zero => simp at hl; exact absurd hl hne1
    | succ l => rw [show k + (l + 1) = k + 1 + l by omega]; exact q5 l (by simpa using hl)
  have core : ∀ (hne : o0 ≠ .dead), (match r with
    | .dead :: r => hendK N H r0 r fun r => R (.dead :: r)
    | .cells cs :: r => mapK (closeN N H 4) cs fun cs => hendK N H r0 r fun r => R (.cells cs :: r)
    | .arr e sz es :: r => (∀ e ∈ es, closed e = true) ∧ hendK N H r0 r fun r => R (.arr e sz es :: r)
    | .map ks vs :: r => hendK N H r0 r fun r => R (.map ks vs :: r)
    | _ => False) → ∃ H1, R H1 ∧ H1.length = (o0 :: r0).length ∧ realH H1 = true ∧ (∀ l : Nat, (o0 :: r0)[l]? = some HO.dead → H1[l]? = some HO.dead) ∧ (∀ l : Nat, H1[l]? = some HO.dead → mu (k + l) = none) ∧
   (∀ (l : Nat) cs, H1[l]? = some (.cells cs) → ∃ b cur e, mu (k + l) = some (.blk b) ∧ w.heap[b]? = some (.cells cur e (0, 0)) ∧ Reps (endC G C mu w N) w cs (mu.below N) cur.toList ∧ ∀ v ∈ cur.toList, v.oneCell' = true) ∧
   (∀ (l : Nat) e sz es, H1[l]? = some (.arr e sz es) → (∀ a ∈ es, closed a = true) ∧ H[k + l]? = some (.arr e sz es)) ∧ (∀ (l : Nat) ks vs, H1[l]? = some (.map ks vs) → H[k + l]? = some (.map ks vs)) := fun hne hk => by
   cases r with
   | nil => exact hk.elim
   | cons o r' =>
    cases o with
    | dead => exact dd rfl hk
    | ghost _ _ _ => exact hk.elim
    | inv _ => exact hk.elim
    | cells cs =>
     have hob : H[k]? = some (.cells cs) := by rw [← Nat.add_zero k, ← h0]; rfl
     obtain ⟨b, cur, e, m1, m2, m3, m4⟩ := h.heap.recs k cs hob
     obtain ⟨rs, hk, hrs⟩ := mapR_ok (C' := endC G C mu w N) (mu' := mu.below N) (fun hx _ hk => closeN_ok h N 4 hx hk) m3 hk
     obtain ⟨H1, q1, q2, q3, q4, q5, q6, q7, q8⟩ := hend_ok h N r0 r' (k := k + 1) (step _ _ rfl) (by simp at hkN; omega) hk
     obtain ⟨n1, n2, n3, n4⟩ := nd (o1 := .cells rs) hne q2 q3 (by simp) q4 q5
     refine ⟨.cells rs :: H1, q1, n1, n2, n3, n4, fun l cs' hl => ?_, fun l e' sz es hl => ?_, fun l ks vs hl => ?_⟩
     ·cases l with
      | zero =>
       simp only [List.getElem?_cons_zero, Option.some.injEq, HO.cells.injEq] at hl
       subst hl
       exact ⟨b, cur, e, m1, m2, hrs, m4⟩
      | succ l => rw [show k + (l + 1) = k + 1 + l by omega]; exact q6 l cs' (by simpa using hl)
     ·cases l with
      | zero => simp at hl
      | succ l => rw [show k + (l + 1) = k + 1 + l by omega]; exact q7 l e' sz es (by simpa using hl)
     ·cases l with
      | zero => simp at hl
      | succ l => rw [show k + (l + 1) = k + 1 + l by omega]; exact q8 l ks vs (by simpa using hl)
    | map ks vs =>
     have hob : H[k]? = some (.map ks vs) := by rw [← Nat.add_zero k, ← h0]; rfl
     obtain ⟨H1, q1, q2, q3, q4, q5, q6, q7, q8⟩ := hend_ok h N r0 r' (k := k + 1) (step _ _ rfl) (by simp at hkN; omega) hk
     obtain ⟨n1, n2, n3, n4⟩ := nd (o1 := .map ks vs) hne q2 q3 (by simp) q4 q5
     refine ⟨.map ks vs :: H1, q1, n1, n2, n3, n4, fun l cs' hl => ?_, fun l e' sz es hl => ?_, fun l ks' vs' hl => ?_⟩
     ·cases l with
      | zero => simp at hl
      | succ l => rw [show k + (l + 1) = k + 1 + l by omega]; exact q6 l cs' (by simpa using hl)
     ·cases l with
      | zero => simp at hl
      | succ l => rw [show k + (l + 1) = k + 1 + l by omega]; exact q7 l e' sz es (by simpa using hl)
     ·cases l with
      | zero =>
       simp only [List.getElem?_cons_zero, Option.some.injEq, HO.map.injEq] at hl
       obtain ⟨rfl, rfl⟩ := hl
       exact hob
      | succ l => rw [show k + (l + 1) = k + 1 + l by omega]; exact q8 l ks' vs' (by simpa using hl)
    | arr e sz es =>
     have hob : H[k]? = some (.arr e sz es) := by rw [← Nat.add_zero k, ← h0]; rfl
     obtain ⟨hc, hk⟩ := hk
     obtain ⟨H1, q1, q2, q3, q4, q5, q6, q7, q8⟩ := hend_ok h N r0 r' (k := k + 1) (step _ _ rfl) (by simp at hkN; omega) hk
     obtain ⟨n1, n2, n3, n4⟩ := nd (o1 := .arr e sz es) hne q2 q3 (by simp) q4 q5
     refine ⟨.arr e sz es :: H1, q1, n1, n2, n3, n4, fun l cs' hl => ?_, fun l e' sz' es' hl => ?_, fun l ks vs hl => ?_⟩
     ·cases l with
      | zero => simp at hl
      | succ l => rw [show k + (l + 1) = k + 1 + l by omega]; exact q6 l cs' (by simpa using hl)
     ·cases l with
      | zero =>
       simp only [List.getElem?_cons_zero, Option.some.injEq, HO.arr.injEq] at hl
       obtain ⟨rfl, rfl, rfl⟩ := hl
       exact ⟨hc, hob⟩
      | succ l => rw [show k + (l + 1) = k + 1 + l by omega]; exact q7 l e' sz' es' (by simpa using hl)
     ·cases l with
      | zero => simp at hl
      | succ l => rw [show k + (l + 1) = k + 1 + l by omega]; exact q8 l ks vs (by simpa using hl)
  cases o0 with
  | dead =>
   cases r with
   | nil => unfold hendK at hk; exact hk.elim
   | cons o r' =>
    cases o with
    | dead => unfold hendK at hk; exact dd rfl hk
    | _ => unfold hendK at hk; exact hk.elim
  | _ =>
   refine core (by simp) ?_
   cases r with
   | nil => unfold hendK at hk; exact hk.elim
   | cons o r' =>
    cases o with
    | _ => unfold hendK at hk; exact hk
end
end Go.Av
set_option linter.unusedSimpArgs false
set_option linter.unusedVariables false
namespace Go.Av
open Go.RowKit (Below)
section
variable {G : Cx} {C C' : CellSet} {w w' : World} {mu : Mu} {H : List HO} {E : List AV} {a : Act} {T : List TY} {P : Program}
theorem xrel_real {fr : Nat → Prop} (hr : realH H = true) : XRel C w fr mu H [] := by
 refine ⟨fun l cs vs ms h => ?_, fun l I h => ?_, fun D h => (by cases h), List.nodup_nil, fun l l' cs vs ms cs' vs' ms' h => ?_⟩
 ·rcases realH_get hr h with k | k <;> cases k
 ·rcases realH_get hr h with k | k <;> cases k
 ·rcases realH_get hr h with k | k <;> cases k
theorem hfinB {C0 : CellSet} {mu0 : Mu} {w0 : World} {H0 : List HO} {gk : _} (hh : HeapRel C0 w0 (fun _ => True) mu0 H0)
  (h : StC { P := P, gok := gk, C0 := C0, M0 := fun b => ∃ l g, mu0 l = some g ∧ g.block? = some b, W0 := w0, pin := fun l b => mu0 l = some (.blk b), np := H0.length } C mu E H a w)
  {x : AV} {v : Value} (hx : Rep C w x mu v) {R : AV → List HO → Prop} {n : Nat} (hk : closeN H0.length H n x fun x => hendK H0.length H H0 H fun H1 => R x H1) :
  ∃ r H1 C', R r H1 ∧ HPost C0 mu0 w0 C' (mu.below H0.length) w ∧ HeapRel C' w (fun _ => True) (mu.below H0.length) H1 ∧ Rep C' w r (mu.below H0.length) v ∧ H1.length = H0.length ∧ realH H1 = true ∧ ∀ l : Nat, H0[l]? = some HO.dead → H1[l]? = some HO.dead := by
 obtain ⟨r, hk, hr⟩ := closeN_ok h H0.length n hx hk
 obtain ⟨H1, hR, q2, q3, q4, q5, q6, q7, q8⟩ := hend_ok h H0.length H0 H (k := 0) (fun i => by simp) (by simp) hk
 simp only [Nat.zero_add] at q5 q6 q7 q8
 have hlt : ∀ {l : Nat} {ob : HO}, H1[l]? = some ob → l < H0.length := fun hl => by rw [← q2]; exact (List.getElem?_eq_some_iff.1 hl).1
 refine ⟨r, H1, _, hR, ⟨⟨h.keep.os, h.keep.tape, h.keep.output, h.keep.size, fun b hb => h.keep.block b hb.1 fun ⟨l, g, k1, k2⟩ => hb.2 l g k1 k2⟩, fun b o hc => .inl (h.c0 b o hc), fun b o hc => ?_, fun l b hl => ?_, fun l g b hl hg => ?_⟩,
  ⟨fun l g hl => by rw [q2]; exact (below_some hl).1, fun l g b hl hg => ⟨trivial, ?_, fun o hc => ?_⟩, fun l g b l' g' hl hg hl' hg' => h.heap.sep l g b l' g' (below_some hl).2 hg (below_some hl').2 hg', fun l hl => ?_, fun l cs hl => ?_, fun l e sz es hl => ?_, fun l ks vs hl => ?_⟩, hr, q2, q3, q4⟩
 ·rcases hc with hc | ⟨k1, k2, k3⟩
  ·refine ⟨h.lt b o hc, ?_⟩
   rcases h.c1 b o hc with k | k | k
   ·exact .inl k
   ·exact .inr (.inl k)
   ·exact .inr (.inr k)
  ·refine ⟨k1, .inr ?_⟩
   exact k2
 ·rw [below_lt (hh.dom l _ hl)]; exact h.pin.2 l b (hh.dom l _ hl) hl
 ·obtain ⟨k1, k2⟩ := below_some hl
  rcases (h.heap.fresh l g b k2 hg).1 with k | k
  ·exact .inr k
  ·exact .inl k
 ·exact (h.heap.fresh l g b (below_some hl).2 hg).2.1
 ·rcases hc with hc | ⟨k1, k2, k3⟩
  ·exact (h.heap.fresh l g b (below_some hl).2 hg).2.2 o hc
  ·exact k3 l g hl hg
 ·have := q5 l hl
  unfold Mu.below
  split
  ·exact this
  ·rfl
 ·obtain ⟨b, cur, e, k1, k2⟩ := q6 l cs hl
  exact ⟨b, cur, e, by rw [below_lt (hlt hl)]; exact k1, k2⟩
 ·obtain ⟨k1, k2⟩ := q7 l e sz es hl
  obtain ⟨k3, k⟩ := h.heap.arrs l e sz es k2
  refine ⟨k3, ?_⟩
  rw [below_lt (hlt hl)]
  exact k.imp id fun ⟨b, cap, cur, m1, m2, m3, m4, m5, m6, m7⟩ => ⟨b, cap, cur, m1, m2, m3, m4, m5, Reps.mono (endC_ext _) _ (MuLe.none _) (closeds_rep _ (closeds_flat k1) m6), m7⟩
 ·have k1 := q8 l ks vs hl
  obtain ⟨b, es, cl, m1, m2, m3⟩ := h.heap.maps l ks vs k1
  exact ⟨b, es, cl, by rw [below_lt (hlt hl)]; exact m1, m2, m3⟩
theorem hfin {C0 : CellSet} {mu0 : Mu} {w0 : World} {H0 : List HO} {gk : _} (hh : HeapRel C0 w0 (fun _ => True) mu0 H0)
  (h : StC { P := P, gok := gk, C0 := C0, M0 := fun b => ∃ l g, mu0 l = some g ∧ g.block? = some b, W0 := w0, pin := fun l b => mu0 l = some (.blk b), np := H0.length } C mu E H a w)
  {x : AV} {v : Value} (hx : Rep C w x mu v) {R : AV → List HO → Prop} {n : Nat} (hk : closeN H0.length H n x fun x => hendK H0.length H H0 H fun H1 => R x H1) :
  ∃ r H1 C' mu', R r H1 ∧ HPost C0 mu0 w0 C' mu' w ∧ HeapRel C' w (fun _ => True) mu' H1 ∧ Rep C' w r mu' v ∧ H1.length = H0.length ∧ realH H1 = true ∧ ∀ l : Nat, H0[l]? = some HO.dead → H1[l]? = some HO.dead := by
 obtain ⟨r, H1, C', q⟩ := hfinB hh h hx hk
 exact ⟨r, H1, C', _, q⟩
theorem HCtr.of_body {f : FuncId} {fn : Func} {c : Code} {args : List AV} {H0 : List HO} {R X : AV → List HO → Prop} (hf : P.funcs[f]? = some fn) (hb : fn.body = some c) (hT : TOk P T) (hg : goodF P f = true) (hreal : realH H0 = true)
  (h : enterK fn.ntmps args fun E => ACode P c E H0 (hretK T fn.results.toList H0 R) (fun e E H => match e with | .ret => hretK T fn.results.toList H0 R E H | .panic x => hpanK H0 X x H | _ => False)) : HCtr P f args H0 R X := by
 refine ⟨hg, fun C mu w vs hlt hh hr => (callsIn_wide (n := 0)).1 (callsIn_of_wp_marks (F := Fence.wide) (n := 0) hf hb trivial ?_ rfl)⟩
 unfold enterK at h
 rw [repK_iff, appK_iff] at h
 let G : Cx := { P := P, gok := ⟨hlt, fun b o hc ⟨l, g, hl, hg⟩ => (hh.fresh l g b hl hg).2.2 o hc⟩, C0 := C, M0 := fun b => ∃ l g, mu l = some g ∧ g.block? = some b, W0 := w, pin := fun l b => mu l = some (.blk b), np := H0.length }
 have hst : St G (args ++ List.replicate (fn.ntmps - args.length) (.raw undef)) H0 { tmps := vs.toArray ++ Array.replicate (fn.ntmps - vs.toArray.size) undef, defers := [] } w := by
  refine ⟨C, mu, fun _ _ h => h, fun _ _ h => .inl h, hlt.lt, ⟨hh.dom, fun l g b hl hg => ⟨.inr ⟨l, g, hl, hg⟩, (hh.fresh l g b hl hg).2⟩, hh.sep, hh.dead, hh.recs, hh.arrs, hh.maps⟩, ?_, ⟨[], rfl, xrel_real hreal⟩, ⟨rfl, rfl, rfl, Nat.le_refl _, fun _ _ _ => rfl⟩, Nat.le_refl _, fun _ _ _ h => h⟩
  have hl := reps_len _ hr
  have := reps_append hr (reps_replicate (C := C) (w := w) (mu := mu) (fn.ntmps - args.length))
  simpa [hl] using this
 have fin : ∀ E H a w', hretK T fn.results.toList H0 R E H → St G E H a w' → LeavesInM (fw none) 0 P fn a.tmps (fun e w' => ∃ r v H1 C' mu', ((e = .returned v ∧ R r H1) ∨ (e = .panicked [{ v, recovered := false }] ∧ X r H1)) ∧ HPost C mu w C' mu' w' ∧
   HeapRel C' w' (fun _ => True) mu' H1 ∧ Rep C' w' r mu' v ∧ H1.length = H0.length ∧ realH H1 = true ∧ ∀ l : Nat, H0[l]? = some HO.dead → H1[l]? = some HO.dead) a.defers .returning w' := by
  rintro E H a w' hk ⟨C1, mu1, hst⟩
  obtain ⟨ms, d1, d2⟩ := hst.defers
  rw [show a.defers = ms.map mark by simpa [G] using d1]
  refine leaves_gen (G := G) rfl (by simp) ms rfl hst d2 fun a' w'' ha hs' => ?_
  unfold hretK at hk
  obtain ⟨xs, us, hk, hr, hrun⟩ := res_ok (G := G) hT hs' _ hk
  have hm : (fn.results.mapM (resF a'.tmps)).run P w'' = .ok us.toArray w'' := by
   rw [Array.mapM_eq_mapM_toList]
   simp only [Sem.run_map, hrun, Result.andThen_ok, G]
  have hres : (results fn a.tmps).run P w'' = .ok (if h : us.toArray.size = 1 then us.toArray[0] else .tuple us.toArray) w'' := by
   rw [← ha, results_eq, Sem.run_bind, hm]
   rfl
  unfold LeavesIn
  split at hk
  ·rename_i x
   unfold Reps at hr
   obtain ⟨u, us', rfl, hr, hr'⟩ := hr
   unfold Reps at hr'
   subst hr'
   obtain ⟨r, H1, C', mu', k1, k2⟩ := hfin hh hs' hr hk
   exact ⟨u, by rw [hres]; simp, r, u, H1, C', mu', .inl ⟨rfl, k1⟩, k2⟩
  ·rename_i hne
   have hl : us.length ≠ 1 := fun e => by
    have := reps_len _ hr
    rw [e] at this
    cases xs with
    | nil => simp at this
    | cons x xs =>
     cases xs with
     | nil => exact hne x rfl
     | cons _ _ => simp at this
   have hrt : Rep C1 w'' (.tuple xs) mu1 (.tuple us.toArray) := by unfold Rep; exact ⟨us, rfl, hr⟩
   obtain ⟨r, H1, C', mu', k1, k2⟩ := hfin hh hs' hrt hk
   exact ⟨.tuple us.toArray, by rw [hres]; simp [hl], r, .tuple us.toArray, H1, C', mu', .inl ⟨rfl, k1⟩, k2⟩
 refine wpIn_mono (h.out 0 G _ w rfl hst) fun e a w' q => ?_
 cases e with
 | normal => obtain ⟨E, H, h1, h2⟩ := q; exact fin E H a w' h1 h2
 | ret => obtain ⟨E, H, h1, h2⟩ := q; exact fin E H a w' h1 h2
 | exit id => obtain ⟨E, H, h1, h2⟩ := q; exact h1.elim
 | goto l => exact q.elim
 | outgrown => exact q.elim
 | panic ch =>
  obtain ⟨x, v, E, H, C1, mu1, rfl, hk, hst, hx⟩ := q
  obtain ⟨ms, d1, d2⟩ := hst.defers
  show LeavesInM (fw none) 0 P fn a.tmps _ a.defers (.panicking [{ v, recovered := false }]) w'
  rw [show a.defers = ms.map mark by simpa [G] using d1]
  have hst2 : StC G C1 mu1 [x] H { tmps := #[v], defers := a.defers } w' := hst.frame (by unfold Reps; exact ⟨v, [], rfl, hx, by unfold Reps; rfl⟩) rfl
  refine leaves_gen (G := G) (tm2 := #[v]) rfl (by simp) ms (a := { tmps := #[v], defers := a.defers }) rfl hst2 d2 fun a' w'' ha hs' => ?_
  have hx' : Rep C1 w'' x mu1 v := by
   have := hs'.env
   rw [ha] at this
   unfold Reps at this
   obtain ⟨v', vs', he, k, _⟩ := this
   simp only [List.cons.injEq] at he
   obtain ⟨rfl, _⟩ := he
   exact k
  obtain ⟨r, H1, C', mu', k1, k2⟩ := hfin hh hs' hx' hk
  exact ⟨r, v, H1, C', mu', .inr ⟨rfl, k1⟩, k2⟩
def arrAt : List HO → Nat → Bool
 | [], _ => false
 | .arr _ _ _ :: _, 0 => true
 | _ :: _, 0 => false
 | _ :: r, k + 1 => arrAt r k
mutual
def scr (H0 : List HO) : AV → AV
 | .own k sz lo n => match arrAt H0 k with | true => .any | false => .own k sz lo n
 | .el k sz i o => match arrAt H0 k with | true => .any | false => .el k sz i o
 | .fn f cap => .fn f (scrs H0 cap)
 | .mv f cap => .mv f (scrs H0 cap)
 | .iface t x => .iface t (scr H0 x)
 | .agg cs => .agg (scrs H0 cs)
 | .tuple vs => .tuple (scrs H0 vs)
 | a => a
def scrs (H0 : List HO) : List AV → List AV
 | [] => []
 | a :: as => scr H0 a :: scrs H0 as
end
def scrK (H0 : List HO) : List AV → (List AV → Prop) → Prop
 | [], K => K []
 | a :: as, K => (scr H0 a).force fun b => scrK H0 as fun bs => K (b :: bs)
def scrH (H0 : List HO) : HO → HO
 | .cells cs => .cells (scrs H0 cs)
 | .ghost cs vs ms => .ghost (scrs H0 cs) vs ms
 | o => o
def scrHK (H0 : List HO) (o : HO) (K : HO → Prop) : Prop :=
 match o with
 | .cells cs => scrK H0 cs fun cs => K (.cells cs)
 | .ghost cs vs ms => scrK H0 cs fun cs => K (.ghost cs vs ms)
 | .arr e sz es => K (.arr e sz es)
 | .dead => K .dead
 | .inv I => K (.inv I)
 | .map ks vs => K (.map ks vs)
def mergeK (F : List HO) : List HO → List HO → List HO → (List HO → Prop) → Prop
 | [], _, [], K => K []
 | [], _, h :: hs, K => scrHK F h fun h => mergeK F [] [] hs fun r => K (h :: r)
 | .dead :: r0, _ :: r1, h :: hs, K => scrHK F h fun h => mergeK F r0 r1 hs fun r => K (h :: r)
 | _ :: r0, o1 :: r1, _ :: hs, K => mergeK F r0 r1 hs fun r => K (o1 :: r)
 | _, _, _, _ => False
def handK (F : List HO) : List HO → List HO → Prop → Prop
 | [], _, Q => Q
 | .dead :: r0, _ :: hs, Q => handK F r0 hs Q
 | .cells cs :: r0, h :: hs, Q => h = .cells cs ∧ withins F cs = true ∧ handK F r0 hs Q
 | .arr e sz es :: r0, h :: hs, Q => h = .arr e sz es ∧ (∀ e ∈ es, closed e = true) ∧ handK F r0 hs Q
 | .map ks vs :: r0, h :: hs, Q => h = .map ks vs ∧ handK F r0 hs Q
 | _, _, _ => False
end
end Go.Av
set_option linter.unusedSimpArgs false
set_option linter.unusedVariables false
set_option linter.unusedSectionVars false
namespace Go.Av
open Go.RowKit (Below)
section
variable {G : Cx} {C C' : CellSet} {w w' : World} {mu mu' : Mu} {H H0 : List HO} {E : List AV} {a : Act} {T : List TY} {P : Program}
def Mu.mix (mu mu' : Mu) (H0 : List HO) : Mu := fun l => if realAt H0 l = true then mu' l else mu l
theorem mix_eq {l : Nat} (h : realAt H0 l = true) : mu.mix mu' H0 l = mu' l := by simp [Mu.mix, h]
theorem mix_ne {l : Nat} (h : realAt H0 l = false) : mu.mix mu' H0 l = mu l := by simp [Mu.mix, h]
section
variable {mu2 : Mu} (hx : Ext C C' w w') (hb : ∀ l b, mu l = some (.blk b) → mu2 l = some (.blk b)) (ha : ∀ l x, arrAt H0 l = false → mu l = some (.arr x) → mu2 l = some (.arr x))
include hx hb ha
mutual
theorem scr_rep : ∀ (x : AV) {v : Value}, Rep C w x mu v → Rep C' w' (scr H0 x) mu2 v
 | .any, _, _ => by unfold scr Rep; trivial
 | .int _ _, _, h => by unfold scr; unfold Rep at *; exact h
 | .bool _, _, h => by unfold scr; unfold Rep at *; exact h
 | .lit _, _, h => by unfold scr; unfold Rep at *; exact h
 | .str _, _, h => by unfold scr; unfold Rep at *; exact h
 | .sl _ _, _, h => by unfold scr; exact Rep.mono hx _ (MuLe.none _) (closed_rep _ rfl h)
 | .at_ _, _, h => by unfold scr; exact Rep.mono hx _ (MuLe.none _) (closed_rep _ rfl h)
 | .raw _, _, h => by unfold scr; unfold Rep at *; exact h
 | .mp _ _, _, h => by unfold scr; exact Rep.mono hx _ (MuLe.none _) (closed_rep _ rfl h)
 | .om k, _, h => by
  unfold scr; unfold Rep at *
  obtain ⟨b, h1, h2⟩ := h
  exact ⟨b, hb _ _ h1, h2⟩
 | .ptr k o, _, h => by
  unfold scr; unfold Rep at *
  obtain ⟨b, h1, h2⟩ := h
  exact ⟨b, hb _ _ h1, h2⟩
 | .el k sz i o, _, h => by
  unfold scr
  split
  ·unfold Rep; trivial
  ·rename_i hk
   unfold Rep at *
   obtain ⟨b, n, c, h1, h2⟩ := h
   exact ⟨b, n, c, ha _ _ hk h1, h2⟩
 | .own k sz lo n, _, h => by
  unfold scr
  split
  ·unfold Rep; trivial
  ·rename_i hk
   unfold Rep at *
   obtain ⟨x, h1, h2⟩ := h
   exact ⟨x, ha _ _ hk h1, h2⟩
 | .fn f cap, _, h => by
  unfold scr; unfold Rep at *
  obtain ⟨vs, h1, h2⟩ := h
  exact ⟨vs, h1, scrs_rep cap h2⟩
 | .mv f cap, _, h => by
  unfold scr; unfold Rep at *
  obtain ⟨vs, h1, h2⟩ := h
  exact ⟨vs, h1, scrs_rep cap h2⟩
 | .iface t x, _, h => by
  unfold scr; unfold Rep at *
  obtain ⟨y, h1, h2⟩ := h
  exact ⟨y, h1, scr_rep x h2⟩
 | .agg cs, _, h => by
  unfold scr; unfold Rep at *
  obtain ⟨vs, h1, h2⟩ := h
  exact ⟨vs, h1, scrs_rep cs h2⟩
 | .tuple cs, _, h => by
  unfold scr; unfold Rep at *
  obtain ⟨vs, h1, h2⟩ := h
  exact ⟨vs, h1, scrs_rep cs h2⟩
theorem scrs_rep : ∀ (xs : List AV) {vs : List Value}, Reps C w xs mu vs → Reps C' w' (scrs H0 xs) mu2 vs
 | [], _, h => by unfold scrs; unfold Reps at *; exact h
 | x :: xs, _, h => by
  unfold scrs; unfold Reps at *
  obtain ⟨v, vs', h1, h2, h3⟩ := h
  exact ⟨v, vs', h1, scr_rep x h2, scrs_rep xs h3⟩
end
end
theorem scrK_iff : ∀ (as : List AV) (K : List AV → Prop), scrK H0 as K ↔ K (scrs H0 as)
 | [], _ => by simp [scrK, scrs]
 | a :: as, K => by simp [scrK, scrs, AV.force_iff, scrK_iff as]
theorem scrHK_iff (o : HO) (K : HO → Prop) : scrHK H0 o K ↔ K (scrH H0 o) := by
 cases o <;> simp [scrHK, scrH, scrK_iff]
theorem mergeK_ok {F : List HO} : ∀ {H0 H1 H : List HO} {K : List HO → Prop}, realH H0 = true → mergeK F H0 H1 H K → ∃ H', K H' ∧ H'.length = H.length ∧ (∀ i, realAt H0 i = true → H'[i]? = H1[i]?) ∧ ∀ i, realAt H0 i = false → H'[i]? = (H[i]?).map (scrH F)
 | [], H1, [], K, _, h => by
  unfold mergeK at h
  exact ⟨[], h, rfl, fun i hi => by simp [realAt] at hi, fun i _ => by simp⟩
 | [], H1, o :: hs, K, hr, h => by
  unfold mergeK at h
  rw [scrHK_iff] at h
  obtain ⟨H', k1, k2, k3, k4⟩ := mergeK_ok (H0 := []) rfl h
  refine ⟨_, k1, by simp [k2], fun i hi => by simp [realAt] at hi, fun i _ => ?_⟩
  cases i with
  | zero => simp
  | succ i => simpa using k4 i rfl
 | .dead :: r0, [], H, K, _, h => by cases H <;> (unfold mergeK at h; exact h.elim)
 | .dead :: r0, _ :: _, [], K, _, h => by unfold mergeK at h; exact h.elim
 | .dead :: r0, o1 :: r1, o :: hs, K, hr, h => by
  unfold mergeK at h
  rw [scrHK_iff] at h
  obtain ⟨H', k1, k2, k3, k4⟩ := mergeK_ok (H0 := r0) (by simpa [realH] using hr) h
  refine ⟨_, k1, by simp [k2], fun i hi => ?_, fun i hi => ?_⟩
  ·cases i with
   | zero => simp [realAt] at hi
   | succ i => simpa using k3 i hi
  ·cases i with
   | zero => simp
   | succ i => simpa using k4 i hi
 | .cells cs :: r0, [], H, K, _, h => by cases H <;> (unfold mergeK at h; exact h.elim)
 | .cells cs :: r0, _ :: _, [], K, _, h => by unfold mergeK at h; exact h.elim
 | .cells cs :: r0, o1 :: r1, o :: hs, K, hr, h => by
  unfold mergeK at h
  obtain ⟨H', k1, k2, k3, k4⟩ := mergeK_ok (H0 := r0) (by simpa [realH] using hr) h
  refine ⟨_, k1, by simp [k2], fun i hi => ?_, fun i hi => ?_⟩
  ·cases i with
   | zero => simp
   | succ i => simpa using k3 i hi
  ·cases i with
   | zero => simp [realAt] at hi
   | succ i => simpa using k4 i hi
 | .arr e sz es :: r0, [], H, K, _, h => by cases H <;> (unfold mergeK at h; exact h.elim)
 | .arr e sz es :: r0, _ :: _, [], K, _, h => by unfold mergeK at h; exact h.elim
 | .arr e sz es :: r0, o1 :: r1, o :: hs, K, hr, h => by
  unfold mergeK at h
  obtain ⟨H', k1, k2, k3, k4⟩ := mergeK_ok (H0 := r0) (by simpa [realH] using hr) h
  refine ⟨_, k1, by simp [k2], fun i hi => ?_, fun i hi => ?_⟩
  ·cases i with
   | zero => simp
   | succ i => simpa using k3 i hi
  ·cases i with
   | zero => simp [realAt] at hi
   | succ i => simpa using k4 i hi
 | .ghost _ _ _ :: r0, H1, H, K, hr, h => by cases hr
 | .inv _ :: r0, H1, H, K, hr, h => by cases hr
 | .map _ _ :: r0, [], H, K, _, h => by cases H <;> (unfold mergeK at h; exact h.elim)
 | .map _ _ :: r0, _ :: _, [], K, _, h => by unfold mergeK at h; exact h.elim
 | .map _ _ :: r0, o1 :: r1, o :: hs, K, hr, h => by
  unfold mergeK at h
  obtain ⟨H', k1, k2, k3, k4⟩ := mergeK_ok (H0 := r0) (by simpa [realH] using hr) h
  refine ⟨_, k1, by simp [k2], fun i hi => ?_, fun i hi => ?_⟩
  ·cases i with
   | zero => simp
   | succ i => simpa using k3 i hi
  ·cases i with
   | zero => simp [realAt] at hi
   | succ i => simpa using k4 i hi
theorem handK_ok {F : List HO} : ∀ {H0 H : List HO} {Q : Prop}, handK F H0 H Q → realH H0 = true ∧ H0.length ≤ H.length ∧ (∀ (i : Nat) ob, H0[i]? = some ob → ob.real = true → H[i]? = some ob) ∧
   (∀ (i : Nat) cs, H0[i]? = some (.cells cs) → withins F cs = true) ∧ (∀ (i : Nat) e sz es, H0[i]? = some (.arr e sz es) → ∀ a ∈ es, closed a = true)
 | [], H, Q, h => ⟨rfl, by simp, fun i ob hi => by simp at hi, fun i cs hi => by simp at hi, fun i e sz es hi => by simp at hi⟩
 | .dead :: r0, [], Q, h => by unfold handK at h; exact h.elim
 | .dead :: r0, o :: hs, Q, h => by
  unfold handK at h
  obtain ⟨k1, k2, k3, k4, k5⟩ := handK_ok h
  refine ⟨by simpa [realH] using k1, by simpa using k2, fun i ob hi ho => ?_, fun i cs hi => ?_, fun i e sz es hi => ?_⟩
  ·cases i with
   | zero => simp at hi; subst hi; cases ho
   | succ i => simpa using k3 i ob (by simpa using hi) ho
  ·cases i with
   | zero => simp at hi
   | succ i => exact k4 i cs (by simpa using hi)
  ·cases i with
   | zero => simp at hi
   | succ i => exact k5 i e sz es (by simpa using hi)
 | .cells cs :: r0, [], Q, h => by unfold handK at h; exact h.elim
 | .cells cs0 :: r0, o :: hs, Q, h => by
  unfold handK at h
  obtain ⟨rfl, hw, h⟩ := h
  obtain ⟨k1, k2, k3, k4, k5⟩ := handK_ok h
  refine ⟨by simpa [realH] using k1, by simpa using k2, fun i ob hi ho => ?_, fun i cs hi => ?_, fun i e sz es hi => ?_⟩
  ·cases i with
   | zero => simpa using hi
   | succ i => simpa using k3 i ob (by simpa using hi) ho
  ·cases i with
   | zero => simp at hi; subst hi; exact hw
   | succ i => exact k4 i cs (by simpa using hi)
  ·cases i with
   | zero => simp at hi
   | succ i => exact k5 i e sz es (by simpa using hi)
 | .arr e sz es :: r0, [], Q, h => by unfold handK at h; exact h.elim
 | .arr e0 sz0 es0 :: r0, o :: hs, Q, h => by
  unfold handK at h
  obtain ⟨rfl, hw, h⟩ := h
  obtain ⟨k1, k2, k3, k4, k5⟩ := handK_ok h
  refine ⟨by simpa [realH] using k1, by simpa using k2, fun i ob hi ho => ?_, fun i cs hi => ?_, fun i e sz es hi => ?_⟩
  ·cases i with
   | zero => simpa using hi
   | succ i => simpa using k3 i ob (by simpa using hi) ho
  ·cases i with
   | zero => simp at hi
   | succ i => exact k4 i cs (by simpa using hi)
  ·cases i with
   | zero => simp at hi; obtain ⟨rfl, rfl, rfl⟩ := hi; exact hw
   | succ i => exact k5 i e sz es (by simpa using hi)
 | .ghost _ _ _ :: r0, H, Q, h => by cases H <;> (unfold handK at h; exact h.elim)
 | .inv _ :: r0, H, Q, h => by cases H <;> (unfold handK at h; exact h.elim)
 | .map _ _ :: r0, [], Q, h => by unfold handK at h; exact h.elim
 | .map ks0 vs0 :: r0, o :: hs, Q, h => by
  unfold handK at h
  obtain ⟨rfl, h⟩ := h
  obtain ⟨k1, k2, k3, k4, k5⟩ := handK_ok h
  refine ⟨by simpa [realH] using k1, by simpa using k2, fun i ob hi ho => ?_, fun i cs hi => ?_, fun i e sz es hi => ?_⟩
  ·cases i with
   | zero => simpa using hi
   | succ i => simpa using k3 i ob (by simpa using hi) ho
  ·cases i with
   | zero => simp at hi
   | succ i => exact k4 i cs (by simpa using hi)
  ·cases i with
   | zero => simp at hi
   | succ i => exact k5 i e sz es (by simpa using hi)
theorem mergedG {HS H1 H' : List HO} (hst : StC G C mu E H a w) (hh : handK H0 H0 H True) (hp : HPost C (mu.only H0) w C' mu' w') (hH1 : HeapRel C' w' (fun _ => True) mu' H1) (hlen : H1.length = H0.length) (hr1 : realH H1 = true) (hd1 : ∀ l : Nat, H0[l]? = some HO.dead → H1[l]? = some HO.dead)
  (hl' : H'.length = H.length) (h1 : ∀ i, realAt H0 i = true → H'[i]? = H1[i]?) (h2 : ∀ i, realAt H0 i = false → H'[i]? = (H[i]?).map (scrH HS)) (ha : ∀ l x, arrAt HS l = false → mu l = some (.arr x) → (mu.mix mu' H0) l = some (.arr x)) :
  StC G C' (mu.mix mu' H0) (scrs HS E) H' a w' ∧ MuLe mu' (mu.mix mu' H0) := by
 obtain ⟨hr0, hle, hsame, hwi, hcl⟩ := handK_ok hh
 have hx : Ext C C' w w' := Ext.of_block (hp.sub) fun b o hc => hp.same.block b ⟨hst.lt b o hc, fun l g hl hg => (hst.heap.fresh l g b (only_some hl).2 hg).2.2 o hc⟩
 have hmle : MuLe mu' (mu.mix mu' H0) := fun l g hl => by
  have hlt : l < H0.length := by rw [← hlen]; exact hH1.dom l g hl
  cases hr : realAt H0 l with
  | true => rw [mix_eq hr]; exact hl
  | false =>
   exfalso
   have : H0[l]? = some HO.dead := by
    have ho : H0[l]? = some H0[l] := List.getElem?_eq_getElem hlt
    rcases realH_get hr0 ho with k | k
    ·rw [realAt_iff.2 ⟨_, ho, k⟩] at hr; cases hr
    ·rw [ho, k]
   have := hH1.dead l (hd1 l this)
   rw [hl] at this; cases this
 have hb : ∀ l b, mu l = some (.blk b) → (mu.mix mu' H0) l = some (.blk b) := fun l b hl => by
  cases hr : realAt H0 l with
  | true => rw [mix_eq hr]; exact hp.pin l b (by rw [only_eq hr]; exact hl)
  | false => rw [mix_ne hr]; exact hl
 have hmono := fun (xs : List AV) {vs : List Value} (h : Reps C w xs mu vs) => scrs_rep (H0 := HS) hx hb ha xs h
 -- blocks of the others
 have oth : ∀ {l g b}, realAt H0 l = false → mu l = some g → g.block? = some b → w'.heap[b]? = w.heap[b]? ∧ ∀ o, ¬ C' b o := fun {l g b} hr hl hg => by
  obtain ⟨k1, k2, k3⟩ := hst.heap.fresh l g b hl hg
  have hno : ∀ l' g', mu.only H0 l' = some g' → g'.block? ≠ some b := fun l' g' hl' hg' => by
   obtain ⟨m1, m2⟩ := only_some hl'
   have := hst.heap.sep l g b l' g' hl hg m2 hg'
   subst this
   rw [hr] at m1; cases m1
  refine ⟨hp.same.block b ⟨k2, hno⟩, fun o hc => ?_⟩
  rcases (hp.new b o hc).2 with k | k | ⟨l', g', k, k'⟩
  ·exact k3 o k
  ·omega
  ·exact hno l' g' k k'
 have hown : ∀ {l g b}, (mu.mix mu' H0) l = some g → g.block? = some b → (∃ l' g', mu l' = some g' ∧ g'.block? = some b) ∨ w.heap.size ≤ b := fun {l g b} hl hg => by
  cases hr : realAt H0 l with
  | true =>
   rw [mix_eq hr] at hl
   rcases hp.ob l g b hl hg with ⟨l', g', k, k'⟩ | k
   ·exact .inl ⟨l', g', (only_some k).2, k'⟩
   ·exact .inr k
  | false => rw [mix_ne hr] at hl; exact .inl ⟨l, g, hl, hg⟩
 have hnotC : ∀ {l g b}, (mu.mix mu' H0) l = some g → g.block? = some b → b < w'.heap.size ∧ ∀ o, ¬ C' b o := fun {l g b} hl hg => by
  cases hr : realAt H0 l with
  | true => rw [mix_eq hr] at hl; exact (hH1.fresh l g b hl hg).2
  | false =>
   rw [mix_ne hr] at hl
   exact ⟨Nat.lt_of_lt_of_le (hst.heap.fresh l g b hl hg).2.1 hp.same.size, (oth hr hl hg).2⟩
 have hcross : ∀ {l g b l' g'}, realAt H0 l = true → realAt H0 l' = false → mu' l = some g → g.block? = some b → mu l' = some g' → g'.block? = some b → False := fun {l g b l' g'} hr hr' hl hg hl' hg' => by
  rcases hp.ob l g b hl hg with ⟨l2, g2, k, k'⟩ | k
  ·obtain ⟨m1, m2⟩ := only_some k
   have := hst.heap.sep l' g' b l2 g2 hl' hg' m2 k'
   subst this
   rw [hr'] at m1; cases m1
  ·have := (hst.heap.fresh l' g' b hl' hg').2.1; omega
 have hold : ∀ {i : Nat} {ob : HO}, realAt H0 i = false → H'[i]? = some ob → ∃ o, H[i]? = some o ∧ ob = scrH HS o := fun {i ob} hr hi => by
  rw [h2 i hr] at hi
  cases ho : H[i]? with
  | none => simp [ho] at hi
  | some o => exact ⟨o, rfl, by simpa [ho] using hi.symm⟩
 refine ⟨⟨fun b o hc => hp.sub b o (hst.c0 b o hc), fun b o hc => ?_, fun b o hc => (hp.new b o hc).1, ⟨fun l g hl => ?_, fun l g b hl hg => ?_, fun l g b l' g' hl hg hl' hg' => ?_, fun l hl => ?_, fun l cs hl => ?_, fun l e sz es hl => ?_, fun l ks vs hl => ?_⟩, hmono E hst.env, ?_,
  ⟨hp.same.os.trans hst.keep.os, hp.same.tape.trans hst.keep.tape, hp.same.output.trans hst.keep.output, Nat.le_trans hst.keep.size hp.same.size, fun k hk hn => ?_⟩, by rw [hl']; exact hst.pin.1, fun l b hn hl => hb l b (hst.pin.2 l b hn hl)⟩, hmle⟩
 ·rcases (hp.new b o hc).2 with k | k | ⟨l, g, k, k'⟩
  ·exact hst.c1 b o k
  ·exact .inr (.inl (Nat.le_trans hst.keep.size k))
  ·exact .inr (hst.heap.fresh l g b (only_some k).2 k').1
 ·rw [hl']
  cases hr : realAt H0 l with
  | true => rw [mix_eq hr] at hl; have := hH1.dom l g hl; omega
  | false => rw [mix_ne hr] at hl; exact hst.heap.dom l g hl
 ·refine ⟨?_, hnotC hl hg⟩
  rcases hown hl hg with ⟨l', g', k, k'⟩ | k
  ·exact (hst.heap.fresh l' g' b k k').1
  ·exact .inl (Nat.le_trans hst.keep.size k)
 ·cases hr : realAt H0 l with
  | true =>
   rw [mix_eq hr] at hl
   cases hr' : realAt H0 l' with
   | true => rw [mix_eq hr'] at hl'; exact hH1.sep l g b l' g' hl hg hl' hg'
   | false => rw [mix_ne hr'] at hl'; exact (hcross hr hr' hl hg hl' hg').elim
  | false =>
   rw [mix_ne hr] at hl
   cases hr' : realAt H0 l' with
   | true => rw [mix_eq hr'] at hl'; exact (hcross hr' hr hl' hg' hl hg).elim
   | false => rw [mix_ne hr'] at hl'; exact hst.heap.sep l g b l' g' hl hg hl' hg'
 ·cases hr : realAt H0 l with
  | true => rw [mix_eq hr]; exact hH1.dead l (by rw [← h1 l hr]; exact hl)
  | false =>
   rw [mix_ne hr]
   obtain ⟨o, ho, he⟩ := hold hr hl
   cases o with
   | dead => exact hst.heap.dead l ho
   | _ => simp [scrH] at he
 ·cases hr : realAt H0 l with
  | true =>
   obtain ⟨b, cur, e, k1, k2, k3, k4⟩ := hH1.recs l cs (by rw [← h1 l hr]; exact hl)
   exact ⟨b, cur, e, by rw [mix_eq hr]; exact k1, k2, Reps.mono (Ext.refl _ _) _ hmle k3, k4⟩
  | false =>
   obtain ⟨o, ho, he⟩ := hold hr hl
   cases o with
   | cells cs0 =>
    simp only [scrH, HO.cells.injEq] at he
    subst he
    obtain ⟨b, cur, e, k1, k2, k3, k4⟩ := hst.heap.recs l cs0 ho
    exact ⟨b, cur, e, by rw [mix_ne hr]; exact k1, by rw [(oth hr k1 rfl).1]; exact k2, hmono _ k3, k4⟩
   | _ => simp [scrH] at he
 ·have hbb : MuLe (blkMu mu) (blkMu (mu.mix mu' H0)) := blkMu_mono hb
  have hbb' : MuLe (blkMu mu') (blkMu (mu.mix mu' H0)) := blkMu_mono fun l b h => hmle l _ h
  cases hr : realAt H0 l with
  | true =>
   obtain ⟨k0, k⟩ := hH1.arrs l e sz es (by rw [← h1 l hr]; exact hl)
   refine ⟨k0, ?_⟩
   rw [mix_eq hr]
   exact k.imp id fun ⟨b, cap, cur, k1, k2, k3, k4, k5, k6, k7⟩ => ⟨b, cap, cur, k1, k2, k3, k4, k5, Reps.mono (Ext.refl _ _) _ hbb' k6, k7⟩
  | false =>
   obtain ⟨o, ho, he⟩ := hold hr hl
   cases o with
   | arr e0 s0 es0 =>
    simp only [scrH, HO.arr.injEq] at he
    obtain ⟨rfl, rfl, rfl⟩ := he
    obtain ⟨k0, k⟩ := hst.heap.arrs l _ _ _ ho
    refine ⟨k0, ?_⟩
    rw [mix_ne hr]
    exact k.imp id fun ⟨b, cap, cur, k1, k2, k3, k4, k5, k6, k7⟩ => ⟨b, cap, cur, k1, k2.of_eq (by rw [(oth hr k1 rfl).1]), k3, k4, k5, Reps.mono hx _ hbb k6, k7⟩
   | _ => simp [scrH] at he
 ·cases hr : realAt H0 l with
  | true =>
   obtain ⟨b, es, cl, k1, k2, k3⟩ := hH1.maps l ks vs (by rw [← h1 l hr]; exact hl)
   exact ⟨b, es, cl, by rw [mix_eq hr]; exact k1, k2, k3⟩
  | false =>
   obtain ⟨o, ho, he⟩ := hold hr hl
   cases o with
   | map ks0 vs0 =>
    simp only [scrH, HO.map.injEq] at he
    obtain ⟨rfl, rfl⟩ := he
    obtain ⟨b, es, cl, k1, k2, k3⟩ := hst.heap.maps l _ _ ho
    exact ⟨b, es, cl, by rw [mix_ne hr]; exact k1, by rw [(oth hr k1 rfl).1]; exact k2, k3⟩
   | _ => simp [scrH] at he
 ·obtain ⟨ms, d1, d2⟩ := hst.defers
  have hgi : ∀ {i : Nat} {ob : HO}, H'[i]? = some ob → ob.real = false → ob ≠ .dead → ∃ o, H[i]? = some o ∧ ob = scrH HS o := fun {i ob} hi hre hnd => by
   cases hr : realAt H0 i with
   | false => exact hold hr hi
   | true =>
    rw [h1 i hr] at hi
    rcases realH_get hr1 hi with k | k
    ·rw [k] at hre; cases hre
    ·exact absurd k hnd
  refine ⟨ms, d1, d2.step ⟨hp.same.os, hp.same.tape, hp.same.output, hp.same.size, fun b hbb => hp.same.block b ⟨hbb.1, fun l g hl hg => hbb.2 l g (only_some hl).2 hg⟩⟩ (fun l g b hl hg => hown hl hg) (fun b o hc => ?_) (fun l cs vs ms hl => ?_) (fun l I hl => ?_)⟩
  ·rcases (hp.new b o hc).2 with k | k | ⟨l, g, k, k'⟩
   ·exact .inl k
   ·exact .inr (.inl k)
   ·exact .inr (.inr ⟨l, g, (only_some k).2, k'⟩)
  ·obtain ⟨o, ho, he⟩ := hgi hl rfl (by simp)
   cases o with
   | ghost cs0 vs0 ms0 =>
    simp only [scrH, HO.ghost.injEq] at he
    obtain ⟨rfl, rfl, rfl⟩ := he
    exact ⟨cs0, ho, fun h => hmono cs0 h⟩
   | _ => simp [scrH] at he
  ·obtain ⟨o, ho, he⟩ := hgi hl rfl (by simp)
   cases o with
   | inv I0 => simp only [scrH, HO.inv.injEq] at he; subst he; exact ho
   | _ => simp [scrH] at he
 ·rw [hp.same.block k ⟨Nat.lt_of_lt_of_le hk hst.keep.size, fun l g hl hg => ?_⟩]
  ·exact hst.keep.block k hk hn
  ·rcases (hst.heap.fresh l g k (only_some hl).2 hg).1 with q | q
   ·omega
   ·exact hn q
theorem merged {H1 H' : List HO} (hst : StC G C mu E H a w) (hh : handK H0 H0 H True) (hp : HPost C (mu.only H0) w C' mu' w') (hH1 : HeapRel C' w' (fun _ => True) mu' H1) (hlen : H1.length = H0.length) (hr1 : realH H1 = true) (hd1 : ∀ l : Nat, H0[l]? = some HO.dead → H1[l]? = some HO.dead)
  (hl' : H'.length = H.length) (h1 : ∀ i, realAt H0 i = true → H'[i]? = H1[i]?) (h2 : ∀ i, realAt H0 i = false → H'[i]? = (H[i]?).map (scrH H0)) :
  StC G C' (mu.mix mu' H0) (scrs H0 E) H' a w' ∧ MuLe mu' (mu.mix mu' H0) := by
 obtain ⟨hr0, hle, hsame, hwi, hcl⟩ := handK_ok hh
 have hanr : ∀ l x, arrAt H0 l = false → mu l = some (.arr x) → realAt H0 l = false := fun l x hl hm => by
  cases hr : realAt H0 l with
  | false => rfl
  | true =>
   exfalso
   obtain ⟨ob, ho, hre⟩ := realAt_iff.1 hr
   cases ob with
   | cells cs =>
    obtain ⟨b, cur, e, k1, _⟩ := hst.heap.recs l cs (hsame l _ ho rfl)
    rw [hm] at k1; cases k1
   | map ks vs =>
    obtain ⟨b, es, cl, k1, _⟩ := hst.heap.maps l ks vs (hsame l _ ho rfl)
    rw [hm] at k1; cases k1
   | arr e sz es =>
    have key : ∀ {H : List HO} {l : Nat}, H[l]? = some (.arr e sz es) → arrAt H l = true := by
     intro H
     induction H with
     | nil => intro l h; simp at h
     | cons o r ih =>
      intro l h
      cases l with
      | zero => simp at h; subst h; rfl
      | succ l =>
       have := ih (l := l) (by simpa using h)
       cases o <;> exact this
    rw [key ho] at hl; cases hl
   | _ => cases hre
 have ha : ∀ l x, arrAt H0 l = false → mu l = some (.arr x) → (mu.mix mu' H0) l = some (.arr x) := fun l x hl hm => by
  rw [mix_ne (hanr l x hl hm)]; exact hm
 exact mergedG hst hh hp hH1 hlen hr1 hd1 hl' h1 h2 ha
theorem only_rel (hst : StC G C mu E H a w) (hh : handK H0 H0 H True) : HeapRel C w (fun _ => True) (mu.only H0) H0 := by
 obtain ⟨hr0, hle, hsame, hwi, hcl⟩ := handK_ok hh
 refine ⟨fun l g hl => ?_, fun l g b hl hg => ⟨trivial, (hst.heap.fresh l g b (only_some hl).2 hg).2⟩, fun l g b l' g' hl hg hl' hg' => hst.heap.sep l g b l' g' (only_some hl).2 hg (only_some hl').2 hg', fun l hl => ?_, fun l cs hl => ?_, fun l e sz es hl => ?_, fun l ks vs hl => ?_⟩
 ·obtain ⟨ob, ho, _⟩ := realAt_iff.1 (only_some hl).1
  exact (List.getElem?_eq_some_iff.1 ho).1
 ·cases hr : realAt H0 l with
  | false => simp [Mu.only, hr]
  | true =>
   obtain ⟨ob, ho, hre⟩ := realAt_iff.1 hr
   rw [hl] at ho
   simp only [Option.some.injEq] at ho
   subst ho
   cases hre
 ·have hr : realAt H0 l = true := realAt_iff.2 ⟨_, hl, rfl⟩
  obtain ⟨b, cur, e, k1, k2, k3, k4⟩ := hst.heap.recs l cs (hsame l _ hl rfl)
  exact ⟨b, cur, e, by rw [only_eq hr]; exact k1, k2, withins_rep cs (hwi l cs hl) k3, k4⟩
 ·have hr : realAt H0 l = true := realAt_iff.2 ⟨_, hl, rfl⟩
  obtain ⟨k0, k⟩ := hst.heap.arrs l e sz es (hsame l _ hl rfl)
  refine ⟨k0, ?_⟩
  rw [only_eq hr]
  exact k.imp id fun ⟨b, cap, cur, k1, k2, k3, k4, k5, k6, k7⟩ => ⟨b, cap, cur, k1, k2, k3, k4, k5, Reps.mono (Ext.refl _ _) _ (MuLe.none _) (closeds_rep _ (closeds_flat (hcl l e sz es hl)) k6), k7⟩
 ·have hr : realAt H0 l = true := realAt_iff.2 ⟨_, hl, rfl⟩
  obtain ⟨b, es, cl, k1, k2, k3⟩ := hst.heap.maps l ks vs (hsame l _ hl rfl)
  exact ⟨b, es, cl, by rw [only_eq hr]; exact k1, k2, k3⟩
theorem ACall.of_h {f : FuncId} {args : List AV} {R X' : AV → List HO → Prop} {K : AV → KK} {X : XX} (h : HCtr P f args H0 R X') (hw : withins H0 args = true) (hh : handK H0 H0 H True)
  (hk : ∀ r H1, R r H1 → scrK H0 E fun E' => mergeK H0 H0 H1 H fun H' => K r E' H') (hx : ∀ r H1, X' r H1 → scrK H0 E fun E' => mergeK H0 H0 H1 H fun H' => X (.panic r) E' H') : ACall P f args E H K X := by
 refine ⟨h.good, fun G C mu a w vs hP hst hr => (h.out C (mu.only H0) w vs hst.cok (only_rel hst hh) (withins_rep args hw hr)).mono fun e w' hp => ?_⟩
 obtain ⟨r, v, H1, C', mu', hout, hpost, hrel, hrep, hlen, hreal, hdead⟩ := hp
 have hr0 := (handK_ok hh).1
 rcases hout with ⟨rfl, hR⟩ | ⟨rfl, hR⟩
 ·have hk := hk r H1 hR
  rw [scrK_iff] at hk
  obtain ⟨H', k1, k2, k3, k4⟩ := mergeK_ok hr0 hk
  obtain ⟨m1, m2⟩ := merged hst hh hpost hrel hlen hreal hdead k2 k3 k4
  exact .inl ⟨r, v, _, _, C', _, rfl, k1, m1, Rep.mono (Ext.refl _ _) _ m2 hrep⟩
 ·have hk := hx r H1 hR
  rw [scrK_iff] at hk
  obtain ⟨H', k1, k2, k3, k4⟩ := mergeK_ok hr0 hk
  obtain ⟨m1, m2⟩ := merged hst hh hpost hrel hlen hreal hdead k2 k3 k4
  exact .inr ⟨r, v, _, _, C', _, rfl, k1, m1, Rep.mono (Ext.refl _ _) _ m2 hrep⟩
theorem ACode.freeze (l : Nat) {c : Code} {K : KK} {X : XX} (h : frzK l E H fun E H => ACode P c E H K X) : ACode P c E H K X := by
 refine ⟨fun n G a w hP hst => ?_⟩
 obtain ⟨C, mu, hst⟩ := hst
 obtain ⟨E', H', C', mu', hk, hst'⟩ := hst.freeze h
 exact hk.out n G a w hP ⟨C', mu', hst'⟩
theorem ACall.freeze (l : Nat) {f : FuncId} {args : List AV} {K : AV → KK} {X : XX} (h : frzK l (args ++ E) H fun E' H' => ACall P f (E'.take args.length) (E'.drop args.length) H' K X) (hg : goodF P f = true) : ACall P f args E H K X := by
 refine ⟨hg, fun G C mu a w vs hP hst hr => ?_⟩
 have hst2 : StC G C mu (args ++ E) H { tmps := (vs ++ a.tmps.toList).toArray, defers := a.defers } w := hst.frame (by simpa using reps_append hr hst.env) rfl
 obtain ⟨E', H', C', mu', hk, hst'⟩ := hst2.freeze h
 have henv := hst'.env
 have hl : vs.length = args.length := reps_len _ hr
 have h1 : Reps C' w (E'.take args.length) mu' vs := by
  have := henv.take args.length
  simpa [← hl] using this
 have h2 : Reps C' w (E'.drop args.length) mu' a.tmps.toList := by
  have := henv.drop args.length
  simpa [← hl] using this
 exact hk.out G C' mu' a w vs hP (hst'.frame h2 rfl) h1
theorem al_snoc (H : List HO) (ob : HO) : Al H H.length (H ++ [ob]) ob := by
 refine ⟨by simp, by simp, by simp, fun i hi => ?_, .inl (by simp)⟩
 rcases Nat.lt_or_ge i H.length with h | h
 ·rw [List.getElem?_append_left h]
 ·rw [List.getElem?_eq_none (by simp; omega), List.getElem?_eq_none h]
theorem ACode.nilArr (t : Nat) (e : TypeId) (sz : Nat) {c : Code} {K : KK} {X : XX} (he : E[t]? = some (.raw (.slice none 0 0))) (h : ACode P c (E.set t (.own H.length sz 0 0)) (H ++ [HO.arr e sz []]) K X) : ACode P c E H K X := by
 refine ⟨fun n G a w hP hst => ?_⟩
 obtain ⟨C, mu, hst⟩ := hst
 obtain ⟨h1, h2⟩ := hst.nilArr (al_snoc H (HO.arr e sz []))
 refine h.out n G a w hP ⟨C, _, h1.frame ?_ rfl⟩
 obtain ⟨v, hv, hr⟩ := getD_of_rep h1.env he
 unfold Rep at hr
 subst hr
 exact set_self_reps h1.env hv h2
theorem StC.nilCell (hst : StC G C mu E H a w) (l i : Nat) (e : TypeId) (sz : Nat) {cs : List AV} (hl : H[l]? = some (.cells cs)) (he : cs[i]? = some (.raw (.slice none 0 0))) :
  StC G C (mu.set H.length (some (.arr (.slice none 0 0)))) E ((H ++ [HO.arr e sz []]).set l (HO.cells (cs.set i (.own H.length sz 0 0)))) a w ∧ MuLe mu (mu.set H.length (some (.arr (.slice none 0 0)))) := by
 obtain ⟨h1, h2⟩ := hst.nilArr (al_snoc H (HO.arr e sz []))
 have hlt : l < H.length := (List.getElem?_eq_some_iff.1 hl).1
 have hl1 : (H ++ [HO.arr e sz []])[l]? = some (.cells cs) := by rw [List.getElem?_append_left hlt]; exact hl
 have hlt1 : l < (H ++ [HO.arr e sz []]).length := by simp; omega
 refine ⟨⟨h1.c0, h1.c1, h1.lt, ⟨fun i g hi => by simpa using h1.heap.dom i g hi, h1.heap.fresh, h1.heap.sep, fun k hk => ?_, fun k cs' hk => ?_, fun k e' sz' es' hk => ?_, fun k ks vs hk => ?_⟩, h1.env, ?_, h1.keep, by simpa using h1.pin.1, h1.pin.2⟩, muLe_new _ ?_⟩
 ·by_cases hkl : k = l
  ·subst hkl; rw [List.getElem?_set_self hlt1] at hk; cases hk
  ·rw [List.getElem?_set_ne (fun e => hkl e.symm)] at hk; exact h1.heap.dead k hk
 ·by_cases hkl : k = l
  ·subst hkl
   rw [List.getElem?_set_self hlt1] at hk
   simp only [Option.some.injEq, HO.cells.injEq] at hk
   subst hk
   obtain ⟨b, cur, e', k1, k2, k3, k4⟩ := h1.heap.recs k cs hl1
   refine ⟨b, cur, e', k1, k2, ?_, k4⟩
   obtain ⟨v, hv, hr⟩ := getD_of_rep k3 he
   unfold Rep at hr
   subst hr
   exact set_self_reps k3 hv h2
  ·rw [List.getElem?_set_ne (fun e => hkl e.symm)] at hk; exact h1.heap.recs k cs' hk
 ·by_cases hkl : k = l
  ·subst hkl; rw [List.getElem?_set_self hlt1] at hk; cases hk
  ·rw [List.getElem?_set_ne (fun e => hkl e.symm)] at hk; exact h1.heap.arrs k e' sz' es' hk
 ·by_cases hkl : k = l
  ·subst hkl; rw [List.getElem?_set_self hlt1] at hk; cases hk
  ·rw [List.getElem?_set_ne (fun e => hkl e.symm)] at hk; exact h1.heap.maps k ks vs hk
 ·obtain ⟨ms, d1, d2⟩ := h1.defers
  have hg : ∀ {k : Nat} {ob : HO}, ((H ++ [HO.arr e sz []]).set l (.cells (cs.set i (.own H.length sz 0 0))))[k]? = some ob → ob.real = false → (H ++ [HO.arr e sz []])[k]? = some ob := fun {k ob} hk hre => by
   by_cases hkl : k = l
   ·subst hkl
    rw [List.getElem?_set_self hlt1] at hk
    simp only [Option.some.injEq] at hk
    subst hk; cases hre
   ·rwa [List.getElem?_set_ne (fun e => hkl e.symm)] at hk
  exact ⟨ms, d1, ⟨fun k cs' vs gm hk => d2.ghosts k cs' vs gm (hg hk rfl), fun k I hk => by
   obtain ⟨h0, Sw, Sr, q1, q2, q3, q4⟩ := d2.invs k I (hg hk rfl)
   exact ⟨h0, Sw, Sr, q1, q2, q3, fun k' cs' vs gm hk' => q4 k' cs' vs gm (hg hk' rfl)⟩, d2.marks, d2.nd, fun k k' cs' vs gm cs2 vs2 gm2 hk hk' => d2.sep k k' cs' vs gm cs2 vs2 gm2 (hg hk rfl) (hg hk' rfl)⟩⟩
 ·cases hm : mu H.length with
  | none => rfl
  | some g => exact absurd (hst.heap.dom _ _ hm) (Nat.lt_irrefl _)
theorem ACode.nilCell (l i : Nat) (e : TypeId) (sz : Nat) {cs : List AV} {c : Code} {K : KK} {X : XX} (hl : H[l]? = some (.cells cs)) (he : cs[i]? = some (.raw (.slice none 0 0)))
  (h : ACode P c E ((H ++ [HO.arr e sz []]).set l (HO.cells (cs.set i (.own H.length sz 0 0)))) K X) : ACode P c E H K X := by
 refine ⟨fun n G a w hP hst => ?_⟩
 obtain ⟨C, mu, hst⟩ := hst
 exact h.out n G a w hP ⟨C, _, (hst.nilCell l i e sz hl he).1⟩
theorem ACall.nilCell (l i : Nat) (e : TypeId) (sz : Nat) {cs : List AV} {f : FuncId} {args : List AV} {K : AV → KK} {X : XX} (hl : H[l]? = some (.cells cs)) (he : cs[i]? = some (.raw (.slice none 0 0)))
  (h : ACall P f args E ((H ++ [HO.arr e sz []]).set l (HO.cells (cs.set i (.own H.length sz 0 0)))) K X) : ACall P f args E H K X := by
 refine ⟨h.good, fun G C mu a w vs hP hst hr => ?_⟩
 obtain ⟨h1, h2⟩ := hst.nilCell l i e sz hl he
 exact h.out G C _ a w vs hP h1 (Reps.mono (Ext.refl _ _) _ h2 hr)
end
end Go.Av
set_option linter.unusedSimpArgs false
set_option linter.unusedVariables false
set_option linter.unusedSectionVars false
namespace Go.Av
open Go.RowKit (Below)
section
variable {G : Cx} {C C' : CellSet} {w w' : World} {mu mu' : Mu} {H R : List HO} {E : List AV} {a : Act} {T : List TY} {P : Program}
open Classical in
theorem ACode.loopD {b : Code} {ι : Type} (tm : ι → List AV) (hp : ι → List HO) (pre : ι → Prop) (μ : ι → Nat) {K : KK} {X : XX} (ok : ∀ i, pre i → withins (hp i) (tm i) = true ∧ objsOK (hp i) (hp i) True)
  (h0 : ∃ i, leK E (tm i) (H = hp i ∧ pre i))
  (len : ∀ i, (hp i).length = H.length)
  (step : ∀ i, pre i → ACode P b (tm i) (hp i) (fun E' H' => ∃ j, leK E' (tm j) (hpreK H' (hp j) (pre j ∧ μ j < μ i))) X) : ACode P (.loop b) E H K X := by
 refine ⟨fun n G a w hP hst => ?_⟩
 obtain ⟨i0, h0⟩ := h0
 obtain ⟨hle, hH, hp0⟩ := leK_iff _ _ _ h0
 have hst0 : St G (tm i0) (hp i0) a w := by rw [← hH]; exact hst.le hle
 have hnp : G.np ≤ H.length := by obtain ⟨C, mu, h⟩ := hst; exact h.pin.1
 refine wpIn_loop (fun a w => ∃ i, pre i ∧ St G (tm i) (hp i) a w) (fun a w => if h : ∃ n i, μ i = n ∧ pre i ∧ St G (tm i) (hp i) a w then Classical.choose (exists_min _ h) else 0) ⟨i0, hp0, hst0⟩ ?_
 rintro a w ⟨i, hi, hst⟩
 have hex : ∃ n i, μ i = n ∧ pre i ∧ St G (tm i) (hp i) a w := ⟨_, i, rfl, hi, hst⟩
 obtain ⟨⟨i', hi', hpi', hsti'⟩, hmin⟩ := Classical.choose_spec (exists_min _ hex)
 refine wpIn_mono ((step i' hpi').out n G a w hP hsti') fun e a' w' hq => ?_
 cases e with
 | normal =>
  obtain ⟨E', H', ⟨j, hj⟩, hst'⟩ := hq
  obtain ⟨hle', hj⟩ := leK_iff _ _ _ hj
  obtain ⟨⟨hpj, hlt⟩, R, rfl⟩ := hpreK_iff hj
  obtain ⟨C, mu, hst'⟩ := hst'.le hle'
  have hd : St G (tm j) (hp j) a' w' := ⟨C, _, hst'.drop (ok j hpj).1 (ok j hpj).2 (by rw [len]; exact hnp)⟩
  refine ⟨⟨j, hpj, hd⟩, ?_⟩
  have hex' : ∃ n i, μ i = n ∧ pre i ∧ St G (tm i) (hp i) a' w' := ⟨_, j, rfl, hpj, hd⟩
  rw [dif_pos hex, dif_pos hex']
  have h2 := (Classical.choose_spec (exists_min _ hex')).2 (μ j) ⟨j, rfl, hpj, hd⟩
  omega
 | exit id => exact hq
 | ret => exact hq
 | panic c => exact hq
 | goto l => exact hq
 | outgrown => exact hq
end
end Go.Av
set_option linter.unusedSimpArgs false
set_option linter.unusedVariables false
set_option linter.unusedSectionVars false
namespace Go.Av
open Go.RowKit (Below ok_one shut_bool okWide_bool_mk)
open Go.ChangeShapes Go.WideShapes
def ElOK (P : Program) (t : TypeId) (x : AV) : Prop := (isAggB P t = true → ∃ c, x = .agg c) ∧ (isAggB P t = false → x.cells = [x])
def Tyd (P : Program) : Nat → TypeId → List AV → Prop
 | 0, _, _ => False
 | n + 1, t, cs => match P.underlying t with
  | some .bool => ∃ b, cs = [.bool b]
  | some (.int k) => ∃ i, cs = [.int k i] ∧ inK k i
  | some .string => ∃ l, cs = [.str l] ∧ l.length ≤ reachBytes
  | some (.slice e) => ∃ es : List AV, cs = [.sl (P.cellsOf e) es] ∧ es.length ≤ maxLen ∧ ∀ x ∈ es, Tyd P n e x.cells ∧ ElOK P e x
  | some (.struct fs) => ∃ parts : List (List AV), cs = parts.flatten ∧ parts.length = fs.size ∧ ∀ (i : Nat) f p, fs[i]? = some f → parts[i]? = some p → Tyd P n f.type p
  | _ => False
def TydV (P : Program) (m : Nat) (t : TypeId) (x : AV) : Prop := Tyd P m t x.cells ∧ ElOK P t x
def TydVs (P : Program) (m : Nat) : List TypeId → List AV → Prop
 | [], [] => True
 | t :: ts, x :: xs => TydV P m t x ∧ TydVs P m ts xs
 | _, _ => False
def contigB (P : Program) : Nat → List Field → Nat → Bool
 | off, [], tot => Nat.beq off tot
 | off, f :: r, tot => Nat.beq f.offset off && contigB P (off + P.cellsOf f.type) r tot
def suppB (P : Program) : Nat → TypeId → Bool
 | 0, _ => false
 | n + 1, t => match P.underlying t with
  | some .bool => true
  | some (.int _) => true
  | some .string => true
  | some (.slice e) => suppB P n e && Nat.ble 1 (P.cellsOf e)
  | some (.struct fs) => contigB P 0 fs.toList (P.cellsOf t) && fs.toList.all (fun f => suppB P n f.type)
  | _ => false
section
variable {P : Program} {W : World} {H : Type} {enc : TypeId × Value → H} {base : Nat} {held : Bool}
def mkEl (P : Program) (e : TypeId) (c : List AV) : AV := if isAggB P e = true then .agg c else c.headD .any
theorem tyd_agg {n : Nat} {t : TypeId} {c : List AV} (h : Tyd P n t c) (ha : isAggB P t = false) : ∃ x, c = [x] ∧ x.cells = [x] := by
 cases n with
 | zero => exact h.elim
 | succ n =>
  unfold Tyd at h
  unfold isAggB at ha
  split at h <;> rename_i hu
  ·obtain ⟨b, rfl⟩ := h; exact ⟨_, rfl, rfl⟩
  ·obtain ⟨b, rfl, _⟩ := h; exact ⟨_, rfl, rfl⟩
  ·obtain ⟨b, rfl, _⟩ := h; exact ⟨_, rfl, rfl⟩
  ·obtain ⟨b, rfl, _⟩ := h; exact ⟨_, rfl, rfl⟩
  ·rw [hu] at ha; cases ha
  ·exact h.elim
theorem mkEl_cells {n : Nat} {e : TypeId} {c : List AV} (h : Tyd P n e c) : (mkEl P e c).cells = c := by
 unfold mkEl
 split
 ·rfl
 ·rename_i ha
  obtain ⟨x, rfl, hx⟩ := tyd_agg h (by simpa using ha)
  exact hx
theorem reps_flat {Q : Field → List AV → Prop} : ∀ (fs : List Field) (off tot : Nat) (vs : List Value), contigB P off fs tot = true → vs.length = tot →
  (∀ (i : Nat) f, fs[i]? = some f → ∃ c, Q f c ∧ Reps (wideC W) W c Mu.none ((vs.drop f.offset).take (P.cellsOf f.type)) ∧ ∀ v ∈ (vs.drop f.offset).take (P.cellsOf f.type), v.oneCell' = true) →
  ∃ parts : List (List AV), parts.length = fs.length ∧ (∀ (i : Nat) f p, fs[i]? = some f → parts[i]? = some p → Q f p) ∧ Reps (wideC W) W parts.flatten Mu.none (vs.drop off) ∧ ∀ v ∈ vs.drop off, v.oneCell' = true
 | [], off, tot, vs, hc, hl, h => by
  unfold contigB at hc
  have := Nat.eq_of_beq_eq_true hc
  have hd : vs.drop off = [] := List.drop_eq_nil_of_le (by omega)
  exact ⟨[], rfl, fun i f p hf => by simp at hf, by rw [hd]; simp [Reps], by rw [hd]; simp⟩
 | f :: r, off, tot, vs, hc, hl, h => by
  unfold contigB at hc
  simp only [Bool.and_eq_true] at hc
  have ho := Nat.eq_of_beq_eq_true hc.1
  obtain ⟨parts, k1, k2, k3, k4⟩ := reps_flat r (off + P.cellsOf f.type) tot vs hc.2 hl (fun i g hg => h (i + 1) g (by simpa using hg))
  obtain ⟨c, q, hr, h1⟩ := h 0 f rfl
  rw [ho] at hr h1
  have hs : vs.drop off = (vs.drop off).take (P.cellsOf f.type) ++ vs.drop (off + P.cellsOf f.type) := by
   rw [← List.drop_drop, List.take_append_drop]
  refine ⟨c :: parts, by simp [k1], fun i g p hg hp => ?_, ?_, ?_⟩
  ·cases i with
   | zero => simp at hg hp; subst hg; subst hp; exact q
   | succ i => exact k2 i g p (by simpa using hg) (by simpa using hp)
  ·rw [hs, List.flatten_cons]; exact reps_append hr k3
  ·intro v hv
   rw [hs, List.mem_append] at hv
   rcases hv with hv | hv
   ·exact h1 v hv
   ·exact k4 v hv
theorem cell_lt {a : Addr} {v : Value} (h : W.cell? a = some v) : a.spot = none ∧ a.block < W.heap.size := by
 unfold World.cell? at h
 split at h
 ·rename_i c e f hb
  refine ⟨?_, (Array.getElem?_eq_some_iff.1 hb).1⟩
  split at h
  ·cases h
  ·rename_i hs; simpa using hs
 ·cases h
def Lgt (l : List Nat) : Prop := ∀ n ∈ l, n ≤ reachBytes
theorem weightsAll_mem {e : TypeId} : ∀ {ds : List (DataW H)} {d : DataW H}, d ∈ ds → ∀ n ∈ d.weights P e, n ∈ DataW.weightsAll P e ds
 | d :: ds, x, h, n, hn => by
  unfold DataW.weightsAll
  rcases List.mem_cons.1 h with rfl | h
  ·exact List.mem_append_left _ hn
  ·exact List.mem_append_right _ (weightsAll_mem h n hn)
theorem weightsEach_mem : ∀ {ts : List TypeId} {ds : List (DataW H)} {i : Nat} {t : TypeId} {d : DataW H}, ts[i]? = some t → ds[i]? = some d → ∀ n ∈ d.weights P t, n ∈ DataW.weightsEach P ts ds
 | [], _, _, _, _, h, _, _, _ => by simp at h
 | _ :: _, [], _, _, _, _, h, _, _ => by simp at h
 | t :: ts, d :: ds, 0, _, _, h1, h2, n, hn => by
  simp at h1 h2
  subst h1; subst h2
  unfold DataW.weightsEach
  exact List.mem_append_left _ hn
 | t :: ts, d :: ds, i + 1, _, _, h1, h2, n, hn => by
  unfold DataW.weightsEach
  exact List.mem_append_right _ (weightsEach_mem (i := i) (by simpa using h1) (by simpa using h2) n hn)
theorem tyd_of : ∀ (m : Nat) (t : TypeId), suppB P m t = true → ∀ (fuel : Nat) (vs : List Value) (x : DataW H × List MemPlace), DataW.trod enc P W base (fun _ => true) held fuel t vs = some x → Lgt (x.1.weights P t) →
  ∃ cs, Tyd P m t cs ∧ Reps (wideC W) W cs Mu.none vs ∧ ∀ v ∈ vs, v.oneCell' = true
 | 0, t, hs, _, _, _, _, _ => by cases hs
 | m + 1, t, hs, fuel, vs, x, h, hwt => by
  unfold suppB at hs
  unfold Tyd
  split at hs <;> rename_i hu
  ·obtain ⟨b, rfl, _⟩ := DataW.trod_bool hu h
   exact ⟨[.bool b], by first | exact ⟨b, rfl⟩ | (rw [hu]; exact ⟨b, rfl⟩), by simp [Reps, Rep], by simp [Value.oneCell']⟩
  ·rename_i kk
   obtain ⟨b, rfl, _, hw⟩ := DataW.trod_int hu h
   have hk : inK kk b := by unfold inK; simpa [Lit.wf] using hw
   exact ⟨[.int kk b], by first | exact ⟨b, rfl, hk⟩ | (rw [hu]; exact ⟨b, rfl, hk⟩), by simp [Reps, Rep, hk], by simp [Value.oneCell']⟩
  ·obtain ⟨s, rfl, rfl, hw⟩ := DataW.trod_string hu h
   have hl : s.data.toList.length ≤ reachBytes := hwt _ (by unfold DataW.weights; simp)
   refine ⟨[.str s.data.toList], by first | exact ⟨_, rfl, hl⟩ | (rw [hu]; exact ⟨_, rfl, hl⟩), ?_, by simp [Value.oneCell']⟩
   unfold Reps
   refine ⟨_, [], rfl, ?_, by unfold Reps; rfl⟩
   unfold Rep
   refine ⟨by simp, ?_⟩
   unfold reachBytes at hl; omega
  ·rename_i e
   simp only [Bool.and_eq_true] at hs
   have hsz := Nat.le_of_ble_eq_true hs.2
   rcases Deep.open_slice hu h with ⟨rfl, _⟩ | ⟨a, len, cap, mm, n, D, Pl, rfl, hb, hl, hm, hmm, hxe, hel⟩
   ·refine ⟨[.sl (P.cellsOf e) []], by first | exact ⟨[], rfl, by simp, fun x hx => by simp at hx⟩ | (rw [hu]; exact ⟨[], rfl, by simp, fun x hx => by simp at hx⟩), ?_, by simp [Value.oneCell']⟩
    simp [Reps, Rep]
   ·simp only [if_true] at hmm
    rw [hmm] at hel
    clear hmm
    have hx : ∀ i, i < len → ∃ c, Tyd P m e c ∧ ∃ cs', W.cells? base (a.add (i * P.cellsOf e)) (P.cellsOf e) = some cs' ∧ Reps (wideC W) W c Mu.none cs' ∧ ∀ v ∈ cs', v.oneCell' = true := fun i hi => by
     obtain ⟨cs', h1, h2⟩ := hel i (by omega)
     obtain ⟨c, k1, k2, k3⟩ := tyd_of m e hs.1 _ _ _ h2 fun n hn => hwt n (by
      rw [hxe]
      unfold DataW.weights
      simp only [hu]
      refine List.mem_cons_of_mem _ (List.mem_append_left _ (weightsAll_mem (List.mem_map.2 ⟨i, List.mem_range.2 hi, rfl⟩) n hn)))
     exact ⟨c, k1, cs', h1, k2, k3⟩
    obtain ⟨f, hf⟩ := Deep.choose_lt (α := List AV) hx
    let es : List AV := (List.range len).map fun i => mkEl P e (f i)
    have hlen : es.length = len := by simp [es]
    have hty : ∀ x ∈ es, Tyd P m e x.cells ∧ ElOK P e x := fun x hx => by
     simp only [es, List.mem_map, List.mem_range] at hx
     obtain ⟨i, hi, rfl⟩ := hx
     refine ⟨by rw [mkEl_cells (hf i hi).1]; exact (hf i hi).1, fun ha => ⟨f i, by simp [mkEl, ha]⟩, fun ha => ?_⟩
     obtain ⟨y, hy, hy2⟩ := tyd_agg (hf i hi).1 ha
     simp only [mkEl, ha, hy]
     exact hy2
    refine ⟨[.sl (P.cellsOf e) es], by first | exact ⟨es, rfl, by rw [hlen]; omega, hty⟩ | (rw [hu]; exact ⟨es, rfl, by rw [hlen]; omega, hty⟩), ?_, by simp [Value.oneCell']⟩
    unfold Reps
    refine ⟨_, [], rfl, ?_, by unfold Reps; rfl⟩
    unfold Rep
    rcases Nat.eq_zero_or_pos cap with hc | hc
    ·subst hc
     obtain rfl : len = 0 := by omega
     exact .inl ⟨⟨_, rfl⟩, by simp [es]⟩
    ·obtain ⟨cs0, h0, _⟩ := hel 0 hc
     obtain ⟨_, hl0, h0⟩ := World.cells?_some h0
     have h00 := h0 0 (by omega)
     rw [List.getElem?_eq_getElem (by omega)] at h00
     simp only [Nat.zero_mul] at h00
     have hsp : a.spot = none := by
      have := (cell_lt h00).1
      unfold Addr.add at this; simpa using this
     obtain ⟨b, o, sp⟩ := a
     simp only at hsp
     subst hsp
     refine .inr ⟨b, o, cap, by rw [hlen], by rw [hlen]; exact hl, by unfold maxLen at hm; omega, (rows_iff es o).2 fun i hi => ?_⟩
     rw [hlen] at hi
     obtain ⟨hti, cs', h1, h2, h3⟩ := hf i hi
     obtain ⟨_, hl1, h1⟩ := World.cells?_some h1
     have hei : es[i]'(by rw [hlen]; exact hi) = mkEl P e (f i) := by simp [es]
     rw [hei]
     have hri := (reps_iff _).1 h2
     refine ⟨by rw [mkEl_cells hti, ← hri.1]; exact hl1, ?_⟩
     rw [mkEl_cells hti]
     refine (cells_iff _ _).2 fun j hj => ?_
     have hj2 : j < cs'.length := by omega
     have hcj := h1 j (by omega)
     rw [List.getElem?_eq_getElem hj2, add_lit, add_lit] at hcj
     exact ⟨cs'[j], h3 _ (List.getElem_mem _), ⟨(cell_lt hcj).2, hcj⟩, hri.2 j hj hj2⟩
  ·rename_i fs
   simp only [Bool.and_eq_true] at hs
   obtain ⟨xs, n, _, hxe, hl, _, hf⟩ := DataW.trod_struct hu h
   obtain ⟨parts, k1, k2, k3, k4⟩ := reps_flat (P := P) (W := W) (Q := fun f c => Tyd P m f.type c) fs.toList 0 _ vs hs.1 hl (fun i f hfi => by
    have hfa : fs[i]? = some f := by simpa using hfi
    have hfx := hf i f hfa
    have hlt : i < fs.size := (Array.getElem?_eq_some_iff.1 hfa).1
    have hsf : suppB P m f.type = true := List.all_eq_true.1 hs.2 f (List.mem_of_getElem? hfi)
    obtain ⟨xsl, _⟩ : ∃ y, xs[i]? = some y := ⟨_, List.getElem?_eq_getElem (by omega)⟩
    cases hxi : xs[i]? with
    | none => rw [List.getElem?_eq_none_iff] at hxi; omega
    | some y =>
     rw [hxi] at hfx
     obtain ⟨c, q1, q2, q3⟩ := tyd_of m f.type hsf n _ y hfx fun k hk => hwt k (by
      rw [hxe]
      unfold DataW.weights
      simp only [hu]
      exact weightsEach_mem (i := i) (t := f.type) (d := y.1) (by simp [hfi]) (by simp [hxi]) k hk)
     exact ⟨c, q1, q2, q3⟩)
   refine ⟨parts.flatten, by first | exact ⟨parts, rfl, by simpa using k1, fun i f p hf hp => k2 i f p (by simpa using hf) hp⟩ | (rw [hu]; exact ⟨parts, rfl, by simpa using k1, fun i f p hf hp => k2 i f p (by simpa using hf) hp⟩), by simpa using k3, by simpa using k4⟩
  ·cases hs
theorem okWide_single {r : Reach} {t : TypeId} {v : Value} (h : Value.okWide P W r base t v) (ha : isAggB P t = false) (hs : ∃ m, suppB P m t = true) : v.cells = #[v] := by
 obtain ⟨m, hs⟩ := hs
 cases m with
 | zero => cases hs
 | succ m =>
  unfold suppB at hs
  unfold isAggB at ha
  unfold Value.okWide at h
  split at hs <;> rename_i hu
  ·rw [hu] at h; simp only [Cell.okWide, Cell.ok, hu] at h
   cases v <;> simp_all [Value.cells]
  ·rw [hu] at h; simp only [Cell.okWide, Cell.ok, hu] at h
   cases v <;> simp_all [Value.cells]
  ·rw [hu] at h; simp only [Cell.okWide, Cell.ok, hu] at h
   cases v <;> simp_all [Value.cells]
  ·rw [hu] at h; simp only [Cell.okWide, Cell.ok, hu] at h
   cases v <;> simp_all [Value.cells]
  ·rw [hu] at ha; cases ha
  ·cases hs
theorem arg_of {m : Nat} {r : Reach} {b0 : Nat} {t : TypeId} {v : Value} {d : DataW H} {ps : List MemPlace} (hs : suppB P m t = true) (hv : Value.okWide P W r b0 t v) (hd : DataW.Trod enc P W base (fun _ => true) held t v d ps) (hwt : Lgt (d.weights P t)) :
  ∃ x, TydV P m t x ∧ Rep (wideC W) W x Mu.none v := by
 obtain ⟨fuel, hd⟩ := hd
 obtain ⟨cs, h1, h2, h3⟩ := tyd_of m t hs fuel _ _ hd hwt
 cases ha : isAggB P t with
 | false =>
  obtain ⟨x, rfl, hx⟩ := tyd_agg h1 ha
  rw [okWide_single hv ha ⟨m, hs⟩] at h2
  refine ⟨x, ⟨by rw [hx]; exact h1, ⟨(fun h => by rw [ha] at h; cases h), fun _ => hx⟩⟩, ?_⟩
  simp only [Reps] at h2
  obtain ⟨u, us, he, hr, hus⟩ := h2
  simp only [List.cons.injEq] at he
  rw [he.1]; exact hr
 | true =>
  refine ⟨.agg cs, ⟨h1, ⟨fun _ => ⟨cs, rfl⟩, (fun h => by rw [ha] at h; cases h)⟩⟩, ?_⟩
  unfold Rep
  have hva : ∃ c, v = .agg c := by
   unfold Value.okWide at hv
   unfold isAggB at ha
   split at hv
   ·obtain ⟨c, hc, _⟩ := hv; exact ⟨c, hc⟩
   ·obtain ⟨c, hc, _⟩ := hv; exact ⟨c, hc⟩
   ·rename_i hn1 hn2
    split at ha
    ·rename_i q hq; exact absurd hq (hn1 q)
    ·rename_i q1 q2 hq; exact absurd hq (hn2 q1 q2)
    ·cases ha
  obtain ⟨c, rfl⟩ := hva
  exact ⟨c.toList, by simp, by simpa [Value.cells] using h2⟩
theorem args_of {m : Nat} {r : Reach} {b0 : Nat} : ∀ {ts : List TypeId} {vs : List Value} {ds : List (DataW H)} {ps : List MemPlace}, ts.all (suppB P m) = true → (∀ (j : Nat) t v, ts[j]? = some t → vs[j]? = some v → Value.okWide P W r b0 t v) →
  DataW.TrodAll enc P W base (fun _ => true) held ts vs ds ps → Lgt (DataW.weightsEach P ts ds) → ∃ xs, TydVs P m ts xs ∧ Reps (wideC W) W xs Mu.none vs
 | [], [], ds, ps, _, _, _, _ => ⟨[], trivial, by unfold Reps; rfl⟩
 | [], v :: vs, ds, ps, _, _, h, _ => by cases ds <;> exact h.elim
 | t :: ts, [], ds, ps, _, _, h, _ => by cases ds <;> exact h.elim
 | t :: ts, v :: vs, [], ps, _, _, h, _ => h.elim
 | t :: ts, v :: vs, d :: ds, ps, hs, hv, h, hwt => by
  simp only [List.all_cons, Bool.and_eq_true] at hs
  obtain ⟨p, q, h1, h2, rfl⟩ := h
  unfold DataW.weightsEach at hwt
  obtain ⟨x, k1, k2⟩ := arg_of hs.1 (hv 0 t v rfl rfl) h1 fun n hn => hwt n (List.mem_append_left _ hn)
  obtain ⟨xs, k3, k4⟩ := args_of hs.2 (fun j t v ht hv' => hv (j + 1) t v (by simpa using ht) (by simpa using hv')) h2 fun n hn => hwt n (List.mem_append_right _ hn)
  exact ⟨x :: xs, ⟨k1, k3⟩, by unfold Reps; exact ⟨v, vs, rfl, k2, k4⟩⟩
theorem weightsEach_app : ∀ {ts us : List TypeId} {ds es : List (DataW H)}, ds.length = ts.length → ∀ n ∈ DataW.weightsEach P ts ds, n ∈ DataW.weightsEach P (ts ++ us) (ds ++ es)
 | [], _, _, _, _, n, hn => by unfold DataW.weightsEach at hn; simp at hn
 | _ :: _, _, [], _, h, _, _ => by simp at h
 | t :: ts, us, d :: ds, es, h, n, hn => by
  simp only [List.cons_append]
  unfold DataW.weightsEach at hn ⊢
  rcases List.mem_append.1 hn with hn | hn
  ·exact List.mem_append_left _ hn
  ·exact List.mem_append_right _ (weightsEach_app (by simpa using h) n hn)
theorem trodAll_len : ∀ {ts : List TypeId} {vs : List Value} {ds : List (DataW H)} {ps : List MemPlace} {sp : Nat → Bool}, DataW.TrodAll enc P W base sp held ts vs ds ps → ds.length = ts.length
 | [], [], [], _, _, _ => rfl
 | [], [], _ :: _, _, _, h => h.elim
 | [], _ :: _, ds, _, _, h => by cases ds <;> exact h.elim
 | _ :: _, [], ds, _, _, h => by cases ds <;> exact h.elim
 | _ :: _, _ :: _, [], _, _, h => h.elim
 | t :: ts, v :: vs, d :: ds, ps, sp, h => by
  obtain ⟨p, q, _, h2, _⟩ := h
  simp [trodAll_len h2]
theorem args_stay {W' : World} (hl : laidOutB P = true) (hb : Below W.heap.size W W') {sp : Nat → Bool} : ∀ {ts : List TypeId} {vs : List Value} {ds : List (DataW H)} {ps : List MemPlace}, ts.all (fun t => P.readableRec t && decide (t < P.types.size)) = true →
  (∀ x ∈ ps, x.block < W.heap.size) → (∀ x ∈ ps, sp x.block = true) → DataW.TrodAll enc P W 0 (fun _ => true) true ts vs ds ps → DataW.TrodAll enc P W' 0 sp true ts vs ds ps
 | [], [], [], ps, _, _, _, h => h
 | [], [], _ :: _, _, _, _, _, h => h.elim
 | [], _ :: _, ds, _, _, _, _, h => by cases ds <;> exact h.elim
 | _ :: _, [], ds, _, _, _, _, h => by cases ds <;> exact h.elim
 | _ :: _, _ :: _, [], _, _, _, _, h => h.elim
 | t :: ts, v :: vs, d :: ds, ps, hs, hlt, hsp, h => by
  simp only [List.all_cons, Bool.and_eq_true] at hs
  obtain ⟨p, q, h1, h2, rfl⟩ := h
  refine ⟨p, q, WideElems.Trod_stays hl hs.1.1 (of_decide_eq_true hs.1.2) h1 (fun x hx => hb.same (hlt x (by simp [hx]))) (fun x hx => hsp x (by simp [hx])), ?_, rfl⟩
  exact args_stay hl hb hs.2 (fun x hx => hlt x (by simp [hx])) (fun x hx => hsp x (by simp [hx])) h2
theorem law_calls {f : FuncId} {fn : Func} {s : ChangeSpec} {W : World} {b0 : Nat} {args : Array Value} {ds gs : List (DataW H)} {before : List MemPlace} {ps : List TypeId} {tb : TypeId} {m : Nat} {fresh handsOn again apart : Bool}
  (hps0 : fn.params = ps.toArray) (hsupp : ps.all (suppB P m) = true) (hread : ps.all (fun t => P.readableRec t && decide (t < P.types.size)) = true) (hlaid : laidOutB P = true)
  (hres : fn.resultTypes = #[tb]) (hbool : P.underlying tb = some .bool) (hsv : s.vars = [])
  (hspec : ∀ ds : List (DataW H), ds.length = ps.length → (s.fn H ds).results = [.lit (.bool true)] ∧ (s.fn H ds).args = ds ∧ (s.fn H ds).vars = [])
  (hlaw : ∀ xs : List AV, TydVs P m ps xs → Ctr P f xs (fun r => r = .bool true))
  (hval : ∀ (j : Nat) t v, fn.params[j]? = some t → args[j]? = some v → Value.okWide P W .any b0 t v)
  (hgl : ∀ x ∈ glTab, Cells (wideC W) W x.2 x.1 0 := by intro x hx; cases hx)
  (hgs : ∀ x ∈ glTab, x.2 ≠ [] → ∃ cur e fz, W.heap[x.1]? = some (.cells cur e fz) ∧ cur.size = x.2.length := by intro x hx; cases hx)
  (hwts : (DataW.weightsEach P (fn.params.toList ++ s.plain.varTypes P) (ds ++ gs)).all (· ≤ reachBytes) = true)
  (hW : DataW.Whole enc P fn.params.toList s.vars apart W args.toList ds gs before) :
  Calls P f args W fun e W' => ∃ v, e = .returned v ∧ s.post enc P fn apart fresh handsOn again W args v W' := by
 have hps : fn.params.toList = ps := by rw [hps0]
 have hW' := hW
 obtain ⟨p, q, hA, hV, hpq, hfz, hnd⟩ := hW
 rw [hps] at hA
 have hlen := trodAll_len hA
 obtain ⟨xs, hx, hr⟩ := args_of (r := .any) (b0 := b0) hsupp (fun j t v ht hv => hval j t v (by rw [← hps] at ht; simpa using ht) (by simpa using hv)) hA fun n hn => by
  have h9 := List.all_eq_true.1 hwts n (by
   rw [hps]
   exact weightsEach_app hlen n hn)
  simpa using h9
 rw [hsv] at hV
 obtain ⟨rfl, rfl⟩ := trodVars_none hV
 obtain ⟨s1, s2, s3⟩ := hspec ds hlen
 have hc := (hlaw xs hx).out (wideC W) W args.toList ⟨fun _ _ h => h, hgl, hgs⟩ hr
 rw [Array.toArray_toList] at hc
 refine hc.mono fun e W' ⟨r, v, he, hrr, hb, hrep⟩ => ?_
 subst hrr
 obtain rfl := rep_bool_inv hrep
 have hlt : ∀ x ∈ before, x.block < W.heap.size := fun x hx => hW'.lt x hx
 have hold : ∀ x ∈ before, (fun b => decide (b < W.heap.size)) x.block = true := fun x hx => by simpa using hlt x hx
 subst hpq
 have hargs : ∀ sp : Nat → Bool, (∀ x ∈ p ++ [], sp x.block = true) → DataW.TrodAll enc P W' 0 sp true fn.params.toList args.toList (s.fn H (ds ++ [])).args p := fun sp hsp => by
  rw [List.append_nil, s2, hps]
  exact args_stay hlaid hb hread (fun x hx => hlt x (by simpa using hx)) (fun x hx => hsp x (by simpa using hx)) hA
 have hres' : ∀ (b : Nat) (sp : Nat → Bool) (hd : Bool), DataW.TrodAll enc P W' b sp hd fn.resultTypes.toList ((Value.bool true).resultList fn.resultTypes.size) (s.fn H (ds ++ [])).results [] := fun b sp hd => by
  rw [List.append_nil, s1, hres]
  exact trodAll_mk1 (shut_bool hbool true)
 have hvars : ∀ sp : Nat → Bool, DataW.TrodVars enc P W' sp s.vars (s.fn H (ds ++ [])).vars [] := fun sp => by
  rw [List.append_nil, s3, hsv]; exact rfl
 refine ⟨_, he, ds, [], p ++ [], [], p, [], hW', hres' _ _ _, hargs _ hold, hvars _, World.keptBut_mono (fun x hx => ⟨hx, ?_⟩) (hb.frame (· ∈ p ++ [])), fun _ => ?_⟩
 ·simpa using hx
 ·refine ⟨ok_one hres rfl (okWide_bool_mk hbool true), _, _, ([] ++ p) ++ [], ⟨[] ++ p, [], trodAll_append (hargs _ (fun _ _ => rfl)) (hres' _ _ _), hvars _, rfl, ?_, ?_⟩, ?_⟩
  ·intro b off hp
   have hin : MemPlace.cell b off ∈ p ++ [] := by simpa using hp
   rw [hb.frozen (hlt _ hin)]
   exact hfz b off hin
  ·intro ha
   have := hnd ha
   simpa using this
  ·intro x hx _
   simpa using hx
theorem isAgg_of {t : TypeId} {d : TypeDesc} (hu : P.underlying t = some d) (hd : ∀ fs, d ≠ .struct fs) (hd' : ∀ n e, d ≠ .array n e) : isAggB P t = false := by
 unfold isAggB
 rw [hu]
 cases d <;> first | rfl | exact absurd rfl (hd _) | exact absurd rfl (hd' _ _)
theorem tyd_bool {t : TypeId} {m : Nat} {x : AV} (hu : P.underlying t = some .bool) (h : TydV P (m + 1) t x) : ∃ b, x = .bool b := by
 obtain ⟨h1, _, h2⟩ := h
 rw [h2 (isAgg_of hu (fun _ h => by cases h) (fun _ _ h => by cases h))] at h1
 unfold Tyd at h1
 rw [hu] at h1
 obtain ⟨b, hb⟩ := h1
 exact ⟨b, by simpa using hb⟩
theorem tyd_int {t : TypeId} {k : IntKind} {m : Nat} {x : AV} (hu : P.underlying t = some (.int k)) (h : TydV P (m + 1) t x) : ∃ n, x = .int k n ∧ inK k n := by
 obtain ⟨h1, _, h2⟩ := h
 rw [h2 (isAgg_of hu (fun _ h => by cases h) (fun _ _ h => by cases h))] at h1
 unfold Tyd at h1
 rw [hu] at h1
 obtain ⟨b, hb, hk⟩ := h1
 exact ⟨b, by simpa using hb, hk⟩
theorem tyd_str {t : TypeId} {m : Nat} {x : AV} (hu : P.underlying t = some .string) (h : TydV P (m + 1) t x) : ∃ l, x = .str l ∧ l.length ≤ reachBytes := by
 obtain ⟨h1, _, h2⟩ := h
 rw [h2 (isAgg_of hu (fun _ h => by cases h) (fun _ _ h => by cases h))] at h1
 unfold Tyd at h1
 rw [hu] at h1
 obtain ⟨b, hb, hk⟩ := h1
 exact ⟨b, by simpa using hb, hk⟩
theorem list_form {α : Type} {f : α → AV} {p : α → Prop} : ∀ {es : List AV}, (∀ y ∈ es, ∃ a, y = f a ∧ p a) → ∃ l : List α, es = l.map f ∧ ∀ a ∈ l, p a
 | [], _ => ⟨[], rfl, fun a h => by cases h⟩
 | e :: es, h => by
  obtain ⟨a, rfl, ha⟩ := h e (by simp)
  obtain ⟨l, rfl, hl⟩ := list_form (es := es) (fun y hy => h y (by simp [hy]))
  exact ⟨a :: l, rfl, fun b hb => by rcases List.mem_cons.1 hb with rfl | hb; exact ha; exact hl b hb⟩
theorem tyds_cons {m : Nat} {t : TypeId} {ts : List TypeId} {xs : List AV} (h : TydVs P m (t :: ts) xs) : ∃ x r, xs = x :: r ∧ TydV P m t x ∧ TydVs P m ts r := by
 cases xs with
 | nil => exact h.elim
 | cons x r => exact ⟨x, r, rfl, h.1, h.2⟩
theorem tyds_nil {m : Nat} {xs : List AV} (h : TydVs P m [] xs) : xs = [] := by
 cases xs with
 | nil => rfl
 | cons x r => exact h.elim
end
end Go.Av
