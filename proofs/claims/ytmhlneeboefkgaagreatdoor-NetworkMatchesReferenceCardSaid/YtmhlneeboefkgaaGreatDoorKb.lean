/-
 AV: the operations that make or write memory are run as they say.
-/
import Derived.Test.YtmhlneeboefkgaaGreatDoorKa
set_option linter.unusedSimpArgs false
set_option linter.unusedVariables false
namespace Go.Av
section
variable {G : Cx} {C : CellSet} {w : World} {mu : Mu} {H : List HO} {E : List AV} {a : Act} {T : List TY}

def EffOk (G : Cx) (a : Act) (w : World) (K : AV → KK) (s : Sem Value) : Prop :=
 ∃ r v E' H' C' mu' w', K r E' H' ∧ s.run G.P w = .ok v w' ∧ StC G C' mu' E' H' a w' ∧ Rep C' w' r mu' v

theorem scal_one {x : AV} {v : Value} (h : Rep C w x mu v) (hs : scalB x = true) : v.oneCell' = true := by
 cases x <;> simp [scalB] at hs <;> unfold Rep at h
 case int => rw [h.1]; rfl
 case bool => rw [h]; rfl
 case lit => rw [h]; rfl
 case str => rw [h.1]; rfl
 case sl => rcases h with ⟨⟨_, rfl⟩, _⟩ | ⟨_, _, _, rfl, _⟩ <;> rfl
 case at_ => obtain ⟨_, _, rfl, _⟩ := h; rfl
 case fn => obtain ⟨_, rfl, _⟩ := h; rfl
 case mv => obtain ⟨_, rfl, _⟩ := h; rfl
 case iface => obtain ⟨_, rfl, _⟩ := h; rfl
 case raw => rw [h]; exact hs
 case ptr => obtain ⟨_, _, rfl⟩ := h; rfl
 case el => obtain ⟨_, _, _, _, rfl⟩ := h; rfl
 case own => obtain ⟨_, _, _, _, rfl⟩ := h; unfold subSl; split <;> rfl
theorem reps_one {cs : List AV} {vs : List Value} (h : Reps C w cs mu vs) (hs : cs.all scalB = true) : ∀ v ∈ vs, v.oneCell' = true := by
 induction cs generalizing vs with
 | nil => unfold Reps at h; subst h; simp
 | cons c cs ih =>
  unfold Reps at h
  obtain ⟨v, vs', rfl, h2, h3⟩ := h
  simp only [List.all_cons, Bool.and_eq_true] at hs
  intro u hu
  simp only [List.mem_cons] at hu
  rcases hu with rfl | hu
  ·exact scal_one h2 hs.1
  ·exact ih h3 hs.2 u hu
theorem cells_rep {x : AV} {v : Value} (h : Rep C w x mu v) (hs : x.cells.all scalB = true) : ∃ vs : List Value, v.cells = vs.toArray ∧ Reps C w x.cells mu vs := by
 by_cases hx : ∃ cs, x = .agg cs
 ·obtain ⟨cs, rfl⟩ := hx
  unfold Rep at h
  obtain ⟨vs, rfl, h⟩ := h
  exact ⟨vs, rfl, h⟩
 ·have hc : x.cells = [x] := by cases x <;> first | rfl | exact absurd ⟨_, rfl⟩ hx
  rw [hc] at hs ⊢
  simp only [List.all_cons, List.all_nil, Bool.and_true] at hs
  have h1 := scal_one h hs
  have hv : v.cells = #[v] := by cases v <;> first | rfl | simp [Value.oneCell'] at h1
  exact ⟨[v], by rw [hv], by unfold Reps; exact ⟨v, [], rfl, h, by unfold Reps; rfl⟩⟩
mutual
theorem noArr_rep : ∀ (x : AV) {v : Value}, noArr x = true → Rep C w x mu v → Rep C w x (blkMu mu) v
 | .any, _, _, _ => by unfold Rep; trivial
 | .int _ _, _, _, h => by unfold Rep at *; exact h
 | .bool _, _, _, h => by unfold Rep at *; exact h
 | .lit _, _, _, h => by unfold Rep at *; exact h
 | .str _, _, _, h => by unfold Rep at *; exact h
 | .sl _ _, _, _, h => by unfold Rep at *; exact h
 | .at_ _, _, _, h => by unfold Rep at *; exact h
 | .raw _, _, _, h => by unfold Rep at *; exact h
 | .ptr l o, _, _, h => by
  unfold Rep at *
  obtain ⟨b, h1, h2⟩ := h
  exact ⟨b, by simp [blkMu, h1], h2⟩
 | .fn f cap, _, hn, h => by
  unfold noArr at hn
  unfold Rep at *
  obtain ⟨vs, h1, h2⟩ := h
  exact ⟨vs, h1, noArrs_rep cap hn h2⟩
 | .mv f cap, _, hn, h => by
  unfold noArr at hn
  unfold Rep at *
  obtain ⟨vs, h1, h2⟩ := h
  exact ⟨vs, h1, noArrs_rep cap hn h2⟩
 | .iface t x, _, hn, h => by
  unfold noArr at hn
  unfold Rep at *
  obtain ⟨y, h1, h2⟩ := h
  exact ⟨y, h1, noArr_rep x hn h2⟩
 | .agg cs, _, hn, h => by
  unfold noArr at hn
  unfold Rep at *
  obtain ⟨vs, h1, h2⟩ := h
  exact ⟨vs, h1, noArrs_rep cs hn h2⟩
 | .tuple cs, _, hn, h => by
  unfold noArr at hn
  unfold Rep at *
  obtain ⟨vs, h1, h2⟩ := h
  exact ⟨vs, h1, noArrs_rep cs hn h2⟩
 | .el _ _ _ _, _, hn, _ => by unfold noArr at hn; cases hn
 | .own _ _ _ _, _, hn, _ => by unfold noArr at hn; cases hn
theorem noArrs_rep : ∀ (xs : List AV) {vs : List Value}, noArrs xs = true → Reps C w xs mu vs → Reps C w xs (blkMu mu) vs
 | [], _, _, h => by unfold Reps at *; exact h
 | x :: xs, _, hn, h => by
  unfold noArrs at hn
  simp only [Bool.and_eq_true] at hn
  unfold Reps at *
  obtain ⟨v, vs', h1, h2, h3⟩ := h
  exact ⟨v, vs', h1, noArr_rep x hn.1 h2, noArrs_rep xs hn.2 h3⟩
end
mutual
theorem closed_rep : ∀ (x : AV) {v : Value}, closed x = true → Rep C w x mu v → Rep C w x Mu.none v
 | .any, _, _, _ => by unfold Rep; trivial
 | .int _ _, _, _, h => by unfold Rep at *; exact h
 | .bool _, _, _, h => by unfold Rep at *; exact h
 | .lit _, _, _, h => by unfold Rep at *; exact h
 | .str _, _, _, h => by unfold Rep at *; exact h
 | .sl _ _, _, _, h => by unfold Rep at *; exact h
 | .at_ _, _, _, h => by unfold Rep at *; exact h
 | .raw _, _, _, h => by unfold Rep at *; exact h
 | .ptr l o, _, hn, h => by unfold closed at hn; cases hn
 | .fn f cap, _, hn, h => by
  unfold closed at hn
  unfold Rep at *
  obtain ⟨vs, h1, h2⟩ := h
  exact ⟨vs, h1, closeds_rep cap hn h2⟩
 | .mv f cap, _, hn, h => by
  unfold closed at hn
  unfold Rep at *
  obtain ⟨vs, h1, h2⟩ := h
  exact ⟨vs, h1, closeds_rep cap hn h2⟩
 | .iface t x, _, hn, h => by
  unfold closed at hn
  unfold Rep at *
  obtain ⟨y, h1, h2⟩ := h
  exact ⟨y, h1, closed_rep x hn h2⟩
 | .agg cs, _, hn, h => by
  unfold closed at hn
  unfold Rep at *
  obtain ⟨vs, h1, h2⟩ := h
  exact ⟨vs, h1, closeds_rep cs hn h2⟩
 | .tuple cs, _, hn, h => by
  unfold closed at hn
  unfold Rep at *
  obtain ⟨vs, h1, h2⟩ := h
  exact ⟨vs, h1, closeds_rep cs hn h2⟩
 | .el _ _ _ _, _, hn, _ => by unfold closed at hn; cases hn
 | .own _ _ _ _, _, hn, _ => by unfold closed at hn; cases hn
theorem closeds_rep : ∀ (xs : List AV) {vs : List Value}, closeds xs = true → Reps C w xs mu vs → Reps C w xs Mu.none vs
 | [], _, _, h => by unfold Reps at *; exact h
 | x :: xs, _, hn, h => by
  unfold closeds at hn
  simp only [Bool.and_eq_true] at hn
  unfold Reps at *
  obtain ⟨v, vs', h1, h2, h3⟩ := h
  exact ⟨v, vs', h1, closed_rep x hn.1 h2, closeds_rep xs hn.2 h3⟩
end
mutual
theorem scrub_rep {l : Nat} {g : Option GO} : ∀ (x : AV) {v : Value}, (∀ b, mu l = some (.blk b) → g = some (.blk b)) → Rep C w x mu v → Rep C w (scrub l x) (mu.set l g) v
 | .any, _, _, _ => by unfold scrub Rep; trivial
 | .int _ _, _, _, h => by unfold scrub; unfold Rep at *; exact h
 | .bool _, _, _, h => by unfold scrub; unfold Rep at *; exact h
 | .lit _, _, _, h => by unfold scrub; unfold Rep at *; exact h
 | .str _, _, _, h => by unfold scrub; unfold Rep at *; exact h
 | .sl _ _, _, _, h => by unfold scrub; unfold Rep at *; exact h
 | .at_ _, _, _, h => by unfold scrub; unfold Rep at *; exact h
 | .raw _, _, _, h => by unfold scrub; unfold Rep at *; exact h
 | .ptr k o, _, hg, h => by
  unfold scrub; unfold Rep at *
  obtain ⟨b, h1, h2⟩ := h
  refine ⟨b, ?_, h2⟩
  by_cases e : k = l
  ·subst e; rw [Mu.set_same]; exact hg b h1
  ·rw [Mu.set_ne _ _ e]; exact h1
 | .fn f cap, _, hg, h => by
  unfold scrub; unfold Rep at *
  obtain ⟨vs, h1, h2⟩ := h
  exact ⟨vs, h1, scrubs_rep cap hg h2⟩
 | .mv f cap, _, hg, h => by
  unfold scrub; unfold Rep at *
  obtain ⟨vs, h1, h2⟩ := h
  exact ⟨vs, h1, scrubs_rep cap hg h2⟩
 | .iface t x, _, hg, h => by
  unfold scrub; unfold Rep at *
  obtain ⟨y, h1, h2⟩ := h
  exact ⟨y, h1, scrub_rep x hg h2⟩
 | .agg cs, _, hg, h => by
  unfold scrub; unfold Rep at *
  obtain ⟨vs, h1, h2⟩ := h
  exact ⟨vs, h1, scrubs_rep cs hg h2⟩
 | .tuple cs, _, hg, h => by
  unfold scrub; unfold Rep at *
  obtain ⟨vs, h1, h2⟩ := h
  exact ⟨vs, h1, scrubs_rep cs hg h2⟩
 | .el k sz i o, _, _, h => by
  unfold scrub
  split
  ·unfold Rep; trivial
  ·rename_i hb
   have e : k ≠ l := Nat.ne_of_beq_eq_false hb
   unfold Rep at *
   obtain ⟨b, n, c, h1, h2⟩ := h
   exact ⟨b, n, c, by rw [Mu.set_ne _ _ e]; exact h1, h2⟩
 | .own k sz lo n, _, _, h => by
  unfold scrub
  split
  ·unfold Rep; trivial
  ·rename_i hb
   have e : k ≠ l := Nat.ne_of_beq_eq_false hb
   unfold Rep at *
   obtain ⟨x, h1, h2⟩ := h
   exact ⟨x, by rw [Mu.set_ne _ _ e]; exact h1, h2⟩
theorem scrubs_rep {l : Nat} {g : Option GO} : ∀ (xs : List AV) {vs : List Value}, (∀ b, mu l = some (.blk b) → g = some (.blk b)) → Reps C w xs mu vs → Reps C w (scrubs l xs) (mu.set l g) vs
 | [], _, _, h => by unfold scrubs; unfold Reps at *; exact h
 | x :: xs, _, hg, h => by
  unfold scrubs; unfold Reps at *
  obtain ⟨v, vs', h1, h2, h3⟩ := h
  exact ⟨v, vs', h1, scrub_rep x hg h2, scrubs_rep xs hg h3⟩
end

/-- A new variable. -/
theorem new_cells (h : StC G C mu E H a w) {n : Nat} {H' : List HO} {cs : List AV} {vs : List Value} (hr : Reps C w cs mu vs) (hal : Al H n H' (.cells cs)) (hs : cs.all scalB = true) (e : TypeId) :
  StC G C (mu.set n (some (.blk w.heap.size))) E H' a (w.alloc (.cells vs.toArray e)) ∧
  Rep C (w.alloc (.cells vs.toArray e)) (.ptr n 0) (mu.set n (some (.blk w.heap.size))) (.pointer (some ⟨w.heap.size, 0, none⟩)) := by
 refine ⟨h.alloc _ (.cells cs) hal (.blk w.heap.size) (by simp [GO.block?]) (by simp) ?_ (by simp), ?_⟩
 ·intro cs' hc
  simp only [HO.cells.injEq] at hc
  subst hc
  exact ⟨vs.toArray, e, rfl, rfl, by simpa using hr, by simpa using reps_one hr hs⟩
 ·unfold Rep; exact ⟨_, Mu.set_same _ _ _, rfl⟩
theorem box_ok {al : Option Nat} (h : StC G C mu E H a w) {t : TypeId} {x : Operand} {K : AV → KK} (hk : boxK al E H x K) : EffOk G a w K (Instr.box t (a.eval x)) := by
 unfold boxK boxC at hk
 rw [evK_iff, cellsK_iff] at hk
 split at hk
 ·rename_i hs
  obtain ⟨H', n, hal, hk⟩ := alK_al hk
  obtain ⟨vs, hv, hr⟩ := cells_rep (rep_ev h.env x) hs
  obtain ⟨h1, h2⟩ := new_cells h hr hal hs t
  exact ⟨_, _, _, _, _, _, _, hk, by simp [Instr.box, newVar, newRow, hv], h1, h2⟩
 ·exact hk.elim
theorem zero_reps (hT : TOk G.P T) {t : TypeId} {y : TY} (hy : T[t]? = some y) (hl : y.zero.length = y.size) (hp : 1 ≤ y.size) : ∃ z, (zeroValue t).run G.P w = .ok z w ∧ Reps C w y.zero mu z.cells.toList := by
 obtain ⟨i, d, h1, h2, rfl⟩ := hT.facts hy
 simp only at hl hp ⊢
 cases hz : i.zero with
 | none => simp [hz] at hl; omega
 | some z =>
  refine ⟨z, by simp [zeroValue, typeInfo, h1, hz], ?_⟩
  simp only
  refine (reps_iff _).2 ⟨by simp, fun j h3 h4 => ?_⟩
  simp only [List.getElem_map]
  exact rep_ofC _
theorem alloc_ok {al : Option Nat} (hT : TOk G.P T) (h : StC G C mu E H a w) {t : TypeId} {K : AV → KK} (hk : allocK al T E H t K) : EffOk G a w K (Instr.alloc t true (.tuple #[])) := by
 unfold allocK allocC at hk
 replace hk := (lkK_iff _ _ _).1 hk; obtain ⟨y, hy, hk⟩ := hk
 split at hk
 ·rename_i hs
  simp only [Bool.and_eq_true] at hs
  obtain ⟨H', n, hal, hk⟩ := alK_al hk
  obtain ⟨z, h1, h2⟩ := zero_reps (C := C) (w := w) (mu := mu) hT hy (Nat.eq_of_beq_eq_true hs.1.2) (Nat.le_of_ble_eq_true hs.2)
  obtain ⟨h3, h4⟩ := new_cells h h2 hal hs.1.1 t
  refine ⟨_, _, _, _, _, _, _, hk, ?_, h3, h4⟩
  simp [Instr.alloc, h1, newVar, newRow]
 ·exact hk.elim
end
end Go.Av

/-
 AV: the operations that make or write memory are run as they say, continued.
-/
set_option linter.unusedSimpArgs false
set_option linter.unusedVariables false
namespace Go.Av
section
variable {G : Cx} {C : CellSet} {w : World} {mu : Mu} {H : List HO} {E : List AV} {a : Act} {T : List TY}

theorem noArrs_all : ∀ (cs : List AV), noArrs cs = cs.all noArr
 | [] => rfl
 | c :: cs => by simp [noArrs, noArrs_all cs]
theorem puts_length : ∀ (vs l : List AV) (o : Nat), (puts l o vs).length = l.length
 | [], _, _ => rfl
 | v :: vs, l, o => by simp [puts, puts_length vs]
/-- Cells put into cells. -/
theorem reps_puts {cs : List AV} {us : List Value} (hc : Reps C w cs mu us) : ∀ {old : List AV} {vs : List Value} {o : Nat}, Reps C w old mu vs → o + cs.length ≤ old.length →
  Reps C w (puts old o cs) mu (vs.take o ++ us ++ vs.drop (o + us.length)) := by
 induction cs generalizing us with
 | nil => intro old vs o h hl; unfold Reps at hc; subst hc; simpa [puts] using h
 | cons c cs ih =>
  intro old vs o h hl
  unfold Reps at hc
  obtain ⟨u, us', rfl, h2, h3⟩ := hc
  simp only [puts]
  have hlen := reps_len _ h
  simp only [List.length_cons] at hl
  have h' : Reps C w (old.set o c) mu (vs.set o u) := by
   have := Reps.put (vs := vs.toArray) (by simpa using h) o h2
   simpa using this
  have := ih h3 (o := o + 1) h' (by simp; omega)
  have e : (vs.set o u).take (o + 1) ++ us' ++ (vs.set o u).drop (o + 1 + us'.length) = vs.take o ++ (u :: us') ++ vs.drop (o + (u :: us').length) := by
   have ho : o < vs.length := by omega
   rw [List.drop_set_of_lt (by omega), List.take_add_one, List.take_set_of_le (by omega)]
   simp [ho, Nat.add_comm, Nat.add_left_comm]
  rw [e] at this
  exact this

/-- A variable is written. -/
theorem store_cells (h : StC G C mu E H a w) {l : Nat} {old : List AV} (hl : H[l]? = some (.cells old)) {b : Nat} (hm : mu l = some (.blk b)) {o : Nat} {cs : List AV} {us : List Value}
  (hu : Reps C w cs mu us) (hs : cs.all scalB = true) (hle : o + cs.length ≤ old.length) (t : TypeId) (v : Value) (hv : v.cells = us.toArray) (hsz : (sizeOf t).run G.P w = .ok us.length w) :
  ∃ w', (Instr.storeAt t (.pointer (some ⟨b, o, none⟩)) v).run G.P w = .ok () w' ∧ StC G C mu E (H.set l (.cells (puts old o cs))) a w' := by
 obtain ⟨b', cur, e, hm', hb, hr, h1⟩ := h.heap.recs l old hl
 rw [hm] at hm'
 simp only [Option.some.injEq, GO.blk.injEq] at hm'
 subst hm'
 have hlc : us.length = cs.length := reps_len _ hu
 have hlo := reps_len _ hr
 have hst := run_storeCells_at G.P b o e us 0 cur w hb (by have : cur.size = cur.toList.length := by simp
                                                           omega) (reps_one hu hs)
 simp only [Nat.add_zero] at hst
 have hms : mu.set l (some (.blk b)) = mu := by
  funext i; by_cases e : i = l
  ·subst e; rw [Mu.set_same, hm]
  ·rw [Mu.set_ne _ _ e]
 refine ⟨w.setRow b (cur.toList.take o ++ us ++ cur.toList.drop (o + us.length)).toArray, ?_, ?_⟩
 ·simp only [Instr.storeAt, Instr.sureAddr, storeVar, Sem.run_bind, Sem.run_pure, Result.andThen_ok, hsz, hv, List.size_toArray, ne_eq, not_true_eq_false, if_false, hst]
 ·have hx := ext_setRow (w := w) (h.heap.fresh _ _ _ hm rfl).2.2 ((cur.toList.take o ++ us ++ cur.toList.drop (o + us.length)).toArray)
  have hlt : l < H.length := (List.getElem?_eq_some_iff.1 hl).1
  have := StC.write (g := .blk b) (g' := .blk b) h hm rfl (new := (cur.toList.take o ++ us ++ cur.toList.drop (o + us.length)).toArray) hb (.cells (puts old o cs)) rfl (fun _ h => h) (fun _ h => h) (E' := E)
   (by rw [hms]; exact Reps.mono hx _ (MuLe.refl _) h.env) (H.set l (.cells (puts old o cs))) (by simp)
   (fun i hi => by
    rw [List.getElem?_set_ne (Ne.symm hi), hms]
    exact ⟨fun h => h, fun cs h => ⟨cs, h, fun _ h => h⟩, fun _ _ _ h => h, fun cs _ _ h => ⟨cs, h, fun _ h => h⟩, fun _ h => h⟩)
   (by simp) (by simp [hlt])
   (fun cs' hc => by
    simp only [HO.cells.injEq] at hc
    subst hc
    refine ⟨rfl, by simpa using reps_puts hu hr hle, ?_⟩
    intro x hx
    simp only [List.mem_append] at hx
    rcases hx with (hx | hx) | hx
    ·exact h1 x (List.mem_of_mem_take hx)
    ·exact reps_one hu hs x hx
    ·exact h1 x (List.mem_of_mem_drop hx))
   (by simp)
  rw [hms] at this
  exact this

/-- The cells of all elements, behind one that is written. -/
theorem flat_set {sz : Nat} : ∀ (es : List AV) (i : Nat) (e : AV), (∀ a ∈ es, a.cells.length = sz) → i < es.length → e.cells.length = sz →
  flat (es.set i e) = (flat es).take (i * sz) ++ e.cells ++ (flat es).drop (i * sz + sz)
 | [], i, e, _, h, _ => by simp at h
 | a :: es, 0, e, hs, _, he => by
  have e1 : flat (a :: es) = a.cells ++ flat es := by simp [flat]
  have e2 : flat (e :: es) = e.cells ++ flat es := by simp [flat]
  simp only [List.set_cons_zero, Nat.zero_mul, List.take_zero, List.nil_append, Nat.zero_add]
  rw [e1, e2, List.drop_append, List.drop_eq_nil_of_le (by rw [hs a (by simp)]; omega), hs a (by simp)]
  simp
 | a :: es, i + 1, e, hs, h, he => by
  have e1 : flat (a :: es) = a.cells ++ flat es := by simp [flat]
  have e2 : flat (a :: es.set i e) = a.cells ++ flat (es.set i e) := by simp [flat]
  have ha := hs a (by simp)
  simp only [List.set_cons_succ]
  have t1 : (a.cells ++ flat es).take ((i + 1) * sz) = a.cells ++ (flat es).take (i * sz) := by
   rw [List.take_append, List.take_of_length_le (l := a.cells) (by rw [ha, Nat.add_mul]; omega), ha]
   congr 2; rw [Nat.add_mul]; omega
  have t2 : (a.cells ++ flat es).drop ((i + 1) * sz + sz) = (flat es).drop (i * sz + sz) := by
   rw [List.drop_append, List.drop_eq_nil_of_le (as := a.cells) (by rw [ha, Nat.add_mul]; omega), ha, List.nil_append]
   congr 1; rw [Nat.add_mul]; omega
  rw [e1, e2, flat_set es i e (fun b hb => hs b (by simp [hb])) (by simpa using h) he, t1, t2]
  simp
theorem splice (M us : List Value) (p o sz : Nat) (h1 : o + us.length ≤ sz) (h2 : p + sz ≤ M.length) :
  M.take p ++ (((M.drop p).take sz).take o ++ us ++ ((M.drop p).take sz).drop (o + us.length)) ++ M.drop (p + sz) = M.take (p + o) ++ us ++ M.drop (p + o + us.length) := by
 have e1 : M.take (p + o) = M.take p ++ (M.drop p).take o := List.take_add
 have e2 : M.drop (p + o + us.length) = ((M.drop p).take sz).drop (o + us.length) ++ M.drop (p + sz) := by
  rw [show p + o + us.length = p + (o + us.length) by omega, ← List.drop_drop, ← List.drop_drop (i := sz) (j := p)]
  conv => lhs; rw [← List.take_append_drop sz (M.drop p)]
  rw [List.drop_append_of_le_length (by simp only [List.length_take, List.length_drop]; omega)]
 rw [e1, e2, List.take_take, Nat.min_eq_left (by omega)]
 simp
theorem splice2 (cur us : List Value) (N q : Nat) (h1 : q + us.length ≤ N) (h2 : N ≤ cur.length) :
  (cur.take N).take q ++ us ++ (cur.take N).drop (q + us.length) = List.take N (cur.take q ++ us ++ cur.drop (q + us.length)) := by
 rw [List.take_append, List.take_take, Nat.min_eq_left (by omega), List.drop_take, List.take_of_length_le (l := cur.take q ++ us) (by simp only [List.length_append, List.length_take]; omega)]
 congr 1
 simp only [List.length_append, List.length_take]
 congr 1; omega

/-- An element of an array is written, in part or whole. -/
theorem store_el (h : StC G C mu E H a w) {l : Nat} {e : TypeId} {sz : Nat} {es : List AV} (hl : H[l]? = some (.arr e sz es)) {b n c : Nat} (hm : mu l = some (.arr (.slice (some ⟨b, 0, none⟩) n c)))
  {i o : Nat} {old new : AV} (hi : es[i]? = some old) {cs : List AV} {us : List Value} (hu : Reps C w cs mu us) (hs : cs.all scalB = true) (hna : cs.all noArr = true) (hle : o + cs.length ≤ old.cells.length)
  (hnew : new.cells = puts old.cells o cs) (t : TypeId) (v : Value) (hv : v.cells = us.toArray) (hsz : (sizeOf t).run G.P w = .ok us.length w) :
  ∃ w', (Instr.storeAt t (.pointer (some ⟨b, i * sz + o, none⟩)) v).run G.P w = .ok () w' ∧ StC G C mu E (H.set l (.arr e sz (es.set i new))) a w' := by
 obtain ⟨hz, h2⟩ := h.heap.arrs l e sz es hl
 have hil : i < es.length := (List.getElem?_eq_some_iff.1 hi).1
 have hold : old ∈ es := List.mem_of_getElem? hi
 have hosz := hz old hold
 rcases h2 with ⟨h2, rfl⟩ | ⟨b', cap, cur, h3, hb, h5, h6, h7, h8, h9⟩
 ·simp at hil
 ·rw [hm] at h3
  simp only [Option.some.injEq, GO.arr.injEq, Value.slice.injEq, Addr.mk.injEq] at h3
  obtain ⟨⟨rfl, _⟩, rfl, rfl⟩ := h3
  have hlc : us.length = cs.length := reps_len _ hu
  have hnlen : new.cells.length = sz := by rw [hnew, puts_length, hosz]
  have hmul : (i + 1) * sz ≤ es.length * sz := Nat.mul_le_mul_right _ hil
  have hmul2 : es.length * sz ≤ c * sz := Nat.mul_le_mul_right _ h5
  rw [Nat.add_mul] at hmul
  have hfit : i * sz + o + us.length ≤ cur.size := by omega
  have hst := run_storeCells_at G.P b (i * sz + o) e us 0 cur w hb (by omega) (reps_one hu hs)
  simp only [Nat.add_zero] at hst
  have hms : mu.set l (some (.arr (.slice (some ⟨b, 0, none⟩) es.length c))) = mu := by
   funext j; by_cases e : j = l
   ·subst e; rw [Mu.set_same, hm]
   ·rw [Mu.set_ne _ _ e]
  refine ⟨w.setRow b (cur.toList.take (i * sz + o) ++ us ++ cur.toList.drop (i * sz + o + us.length)).toArray, ?_, ?_⟩
  ·simp only [Instr.storeAt, Instr.sureAddr, storeVar, Sem.run_bind, Sem.run_pure, Result.andThen_ok, hsz, hv, List.size_toArray, ne_eq, not_true_eq_false, if_false, hst]
  ·have hx := ext_setRow (w := w) (h.heap.fresh _ _ _ hm rfl).2.2 ((cur.toList.take (i * sz + o) ++ us ++ cur.toList.drop (i * sz + o + us.length)).toArray)
   have hlt : l < H.length := (List.getElem?_eq_some_iff.1 hl).1
   have hub : Reps C w cs (blkMu mu) us := noArrs_rep cs (by rw [noArrs_all]; exact hna) hu
   have := StC.write (g := .arr (.slice (some ⟨b, 0, none⟩) es.length c)) (g' := .arr (.slice (some ⟨b, 0, none⟩) es.length c)) h hm rfl
    (new := (cur.toList.take (i * sz + o) ++ us ++ cur.toList.drop (i * sz + o + us.length)).toArray) hb (.arr e sz (es.set i new)) rfl (by simp) (by simp) (E' := E)
    (by rw [hms]; exact Reps.mono hx _ (MuLe.refl _) h.env) (H.set l (.arr e sz (es.set i new))) (by simp)
    (fun j hj => by
     rw [List.getElem?_set_ne (Ne.symm hj), hms]
     exact ⟨fun h => h, fun cs h => ⟨cs, h, fun _ h => h⟩, fun _ _ _ h => h, fun cs _ _ h => ⟨cs, h, fun _ h => h⟩, fun _ h => h⟩)
    (by simp) (by simp [hlt])
    (by simp)
    (fun e' sz' es' hc => by
     simp only [HO.arr.injEq] at hc
     obtain ⟨rfl, rfl, rfl⟩ := hc
     refine ⟨fun x hx => ?_, c, by simp, rfl, by simpa using h5, h6, ?_, ?_, ?_⟩
     ·rcases List.mem_or_eq_of_mem_set hx with hx | rfl
      ·exact hz x hx
      ·exact hnlen
     ·simp only [List.size_toArray, List.length_append, List.length_take, List.length_drop, Array.length_toList]; omega
     ·simp only [List.length_set]
      rw [flat_set es i new hz hil hnlen]
      have hf := flat_length es hz
      -- the values: those before, those of the element, those behind
      obtain ⟨r, hr⟩ := flat_drop es hz i old hi
      have hd1 : ((flat es).drop (i * sz)).take sz = old.cells := by rw [hr, ← hosz]; simp
      have hA := h8.take (i * sz)
      have hB := (h8.drop (i * sz)).take sz
      rw [hd1] at hB
      have hC := h8.drop (i * sz + sz)
      have hB' := reps_puts hub hB hle
      rw [← hnew] at hB'
      have hall := reps_append (reps_append hA hB') hC
      have e1 : (((cur.toList.take (es.length * sz)).take (i * sz) ++ ((((cur.toList.take (es.length * sz)).drop (i * sz)).take sz).take o ++ us ++ (((cur.toList.take (es.length * sz)).drop (i * sz)).take sz).drop (o + us.length))) ++ (cur.toList.take (es.length * sz)).drop (i * sz + sz)) =
        List.take (es.length * sz) (cur.toList.take (i * sz + o) ++ us ++ cur.toList.drop (i * sz + o + us.length)) := by
       have hcl : cur.toList.length = c * sz := by simpa using h7
       rw [splice _ us _ _ _ (by omega) (by simp only [List.length_take]; omega), splice2 _ us _ _ (by omega) (by omega)]
      rw [e1] at hall
      simpa using hall
     ·intro x hx
      simp only [List.mem_append] at hx
      rcases hx with (hx | hx) | hx
      ·exact h9 x (List.mem_of_mem_take hx)
      ·exact reps_one hu hs x hx
      ·exact h9 x (List.mem_of_mem_drop hx))
   rw [hms] at this
   exact this
end
end Go.Av

/-
 AV: the operations that make or write memory are run as they say, continued.
-/
set_option linter.unusedSimpArgs false
set_option linter.unusedVariables false
namespace Go.Av
section
variable {G : Cx} {C : CellSet} {w : World} {mu : Mu} {H : List HO} {E : List AV} {a : Act} {T : List TY}

theorem store_ok (hT : TOk G.P T) (h : StC G C mu E H a w) {t : TypeId} {ad x : Operand} {K : AV → KK} (hk : storeK T E H t ad x K) :
  ∃ E' H' C' mu' w', K (.raw undef) E' H' ∧ (Instr.storeAt t (a.eval ad) (a.eval x)).run G.P w = .ok () w' ∧ StC G C' mu' E' H' a w' := by
 unfold storeK at hk
 replace hk := (lkK_iff _ _ _).1 hk; obtain ⟨y, hy, hk⟩ := hk
 rw [evK_iff, evK_iff, cellsK_iff] at hk
 split at hk
 ·rename_i hs
  simp only [Bool.and_eq_true] at hs
  have hp := rep_ev h.env ad
  obtain ⟨us, hv, hu⟩ := cells_rep (rep_ev h.env x) hs.1
  have hul := reps_len _ hu
  have hys := Nat.eq_of_beq_eq_true hs.2
  obtain ⟨i, d, hi, hd, hyy⟩ := hT.facts hy
  have hsz : (sizeOf t).run G.P w = .ok us.length w := by
   have : i.size = us.length := by rw [hul, hys, hyy]
   simp [sizeOf, typeInfo, hi, this]
  generalize hev : evD E ad = p at hk hp
  cases p with
  | ptr l o =>
   simp only at hk
   replace hk := (lkK_iff _ _ _).1 hk; obtain ⟨ob, hob, hk⟩ := hk
   cases ob with
   | arr _ _ _ => exact hk.elim
   | dead => exact hk.elim
   | ghost _ _ _ => exact hk.elim
   | inv _ => exact hk.elim
   | cells old =>
    simp only at hk
    split at hk
    ·rename_i hle
     rw [putsK_iff, updK_iff] at hk
     unfold Rep at hp
     obtain ⟨b, hm, hp⟩ := hp
     obtain ⟨w', h1, h2⟩ := store_cells h hob hm hu hs.1 (Nat.le_of_ble_eq_true hle) t (a.eval x) hv hsz
     exact ⟨_, _, _, _, w', hk, by rw [hp]; exact h1, h2⟩
    ·exact hk.elim
  | el l sz i o =>
   simp only at hk
   replace hk := (lkK_iff _ _ _).1 hk; obtain ⟨ob, hob, hk⟩ := hk
   cases ob with
   | cells _ => exact hk.elim
   | dead => exact hk.elim
   | ghost _ _ _ => exact hk.elim
   | inv _ => exact hk.elim
   | arr e sz' es =>
    simp only at hk
    split at hk
    ·rename_i hz
     simp only [Bool.and_eq_true] at hz
     obtain rfl := Nat.eq_of_beq_eq_true hz.1
     obtain ⟨old, hold, hk⟩ := hk
     rw [cellsK_iff] at hk
     split at hk
     ·rename_i hle
      have hle := Nat.le_of_ble_eq_true hle
      have hosz := (h.heap.arrs l e sz es hob).1 old (List.mem_of_getElem? hold)
      unfold Rep at hp
      obtain ⟨b, n, c, hm, hp⟩ := hp
      split at hk
      ·rename_i hwhole
       have hwhole := Nat.eq_of_beq_eq_true hwhole
       rw [updK_iff] at hk
       obtain rfl : o = 0 := by omega
       have hpu : (evD E x).cells = puts old.cells 0 (evD E x).cells := by
        have key : ∀ (cs l : List AV) (o : Nat), o + cs.length = l.length → puts l o cs = l.take o ++ cs := by
         intro cs
         induction cs with
         | nil => intro l o ho; simp only [puts, List.append_nil]; rw [List.take_of_length_le (by simp at ho; omega)]
         | cons c cs ih =>
          intro l o ho
          simp only [puts, List.length_cons] at ho ⊢
          rw [ih _ _ (by simp; omega), List.take_add_one, List.take_set_of_le (by omega)]
          simp [show o < l.length by omega]
        rw [key _ _ _ (by omega)]; simp
       obtain ⟨w', h1, h2⟩ := store_el h hob hm hold hu hs.1 hz.2 hle hpu t (a.eval x) hv hsz
       exact ⟨_, _, _, _, w', hk, by rw [hp]; exact h1, h2⟩
      ·rw [putsK_iff, updK_iff] at hk
       obtain ⟨w', h1, h2⟩ := store_el (new := .agg (puts old.cells o (evD E x).cells)) h hob hm hold hu hs.1 hz.2 hle rfl t (a.eval x) hv hsz
       exact ⟨_, _, _, _, w', hk, by rw [hp]; exact h1, h2⟩
     ·exact hk.elim
    ·exact hk.elim
  | _ => exact hk.elim
 ·exact hk.elim

/-- A new array. -/
theorem new_arr (h : StC G C mu E H a w) {n : Nat} {H' : List HO} {e : TypeId} {sz cap : Nat} {es : List AV} {vs : List Value} (hal : Al H n H' (.arr e sz es)) (hz : ∀ a ∈ es, a.cells.length = sz) (hr : Reps C w (flat es) (blkMu mu) (vs.take (es.length * sz)))
  (h1 : ∀ v ∈ vs, v.oneCell' = true) (hc : es.length ≤ cap) (hm : cap ≤ 9223372036854775807) (hl : vs.length = cap * sz) :
  ∃ mu', StC G C mu' E H' a (w.alloc (.cells vs.toArray e)) ∧
  Rep C (w.alloc (.cells vs.toArray e)) (.own n sz 0 es.length) mu' (.slice (some ⟨w.heap.size, 0, none⟩) es.length cap) := by
 refine ⟨mu.set n (some (.arr (.slice (some ⟨w.heap.size, 0, none⟩) es.length cap))), h.alloc _ (.arr e sz es) hal (.arr (.slice (some ⟨w.heap.size, 0, none⟩) es.length cap)) (by simp [GO.block?]) (by simp) (by simp) ?_, ?_⟩
 ·intro e' sz' es' hc'
  simp only [HO.arr.injEq] at hc'
  obtain ⟨rfl, rfl, rfl⟩ := hc'
  exact ⟨hz, cap, vs.toArray, rfl, rfl, hc, hm, by simpa using hl, by simpa using hr, by simpa using h1⟩
 ·unfold Rep
  exact ⟨_, Mu.set_same _ _ _, by simp [lenSl], by simp only [lenSl]; omega, by simp [subSl]⟩

theorem fold_put : ∀ (us : List Value) (off k : Nat) (vs : Array Value), off + k + us.length ≤ vs.size →
  ((us.zipIdx k).foldl (fun cs (x : Value × Nat) => cs.setIfInBounds (off + x.2) x.1) vs).toList = vs.toList.take (off + k) ++ us ++ vs.toList.drop (off + k + us.length)
 | [], off, k, vs, _ => by simp
 | u :: us, off, k, vs, h => by
  simp only [List.length_cons] at h
  simp only [List.zipIdx_cons, List.foldl_cons]
  rw [fold_put us off (k + 1) _ (by simp; omega)]
  have ho : off + k < vs.toList.length := by simp; omega
  simp only [Array.toList_setIfInBounds]
  rw [show off + (k + 1) = (off + k) + 1 by omega, List.drop_set_of_lt (by omega), List.take_add_one, List.take_set_of_le (by omega)]
  have ho' : off + k < vs.size := by simpa using ho
  simp [ho', Nat.add_comm, Nat.add_left_comm]
theorem fill_reps {fs : List (Nat × Nat × Bool)} {place : Nat → Option (Nat × Nat)} (hp : ∀ i f, fs[i]? = some f → place i = some (f.1, f.2.1)) (he : Reps C w E mu a.tmps.toList) :
  ∀ (parts : List (Nat × Operand)) (cells : List AV) (vs : List Value) {K : List AV → Prop}, Reps C w cells mu vs → fillK E fs parts cells K →
  ∃ cells' us, K cells' ∧ Reps C w cells' mu us ∧ Instr.fill place vs.toArray (parts.map fun p => (p.1, a.eval p.2)) = some us.toArray
 | [], cells, vs, K, hr, hk => ⟨cells, vs, hk, hr, rfl⟩
 | (i, x) :: r, cells, vs, K, hr, hk => by
  unfold fillK at hk
  replace hk := (lkK_iff _ _ _).1 hk; obtain ⟨⟨off, size, ag⟩, hf, hk⟩ := hk
  simp only at hk
  rw [evK_iff, cellsK_iff] at hk
  split at hk
  ·rename_i hb
   simp only [Bool.and_eq_true] at hb
   have h1 := Nat.eq_of_beq_eq_true hb.1.1
   have h2 := Nat.le_of_ble_eq_true hb.1.2
   rw [putsK_iff] at hk
   have hx := rep_ev he x
   have hlen := reps_len _ hr
   obtain ⟨us, hv, hu⟩ := cells_rep hx hb.2
   have hul := reps_len _ hu
   have hpl : place i = some (off, size) := hp i _ hf
   have hr' := reps_puts hu hr (o := off) (by omega)
   obtain ⟨cells', us', k1, k2, k3⟩ := fill_reps hp he r _ _ hr' hk
   refine ⟨cells', us', k1, k2, ?_⟩
   simp only [List.map_cons, Instr.fill, hpl, hv, List.size_toArray]
   rw [if_neg (by simp; omega)]
   have hfold : (us.toArray.zipIdx.foldl (fun cs (x : Value × Nat) => cs.setIfInBounds (off + x.2) x.1) vs.toArray) = (vs.take off ++ us ++ vs.drop (off + us.length)).toArray := by
    rw [← Array.toList_inj, Array.zipIdx_toArray]
    simp only [List.foldl_toArray']
    have := fold_put us off 0 vs.toArray (by simp; omega)
    simpa using this
   rw [hfold]; exact k3
  ·exact hk.elim

theorem places_of {P : Program} : ∀ (fs : List Field), (∀ f ∈ fs, 1 ≤ szOf P f.type) → fs.mapM (fun f => (P.info? f.type).map fun i => (f.offset, i.size)) = some (fs.map fun f => (f.offset, szOf P f.type))
 | [], _ => rfl
 | f :: fs, h => by
  obtain ⟨n, hn⟩ : ∃ n, szOf P f.type = n + 1 := ⟨szOf P f.type - 1, by have := h f (by simp); omega⟩
  obtain ⟨i, d, h1, _, h2⟩ := szOf_pos hn
  have := places_of fs (fun g hg => h g (by simp [hg]))
  simp [List.mapM_cons, h1, h2, hn, this]
theorem build_ok (hT : TOk G.P T) (he : Reps C w E mu a.tmps.toList) {t : TypeId} {parts : Array (Nat × Operand)} {K : AV → Prop} (hk : buildK T E t parts.toList K) :
  ∃ r v, K r ∧ Rep C w r mu v ∧ (Instr.build t (parts.map fun p => (p.1, a.eval p.2))).run G.P w = .ok v w := by
 unfold buildK at hk
 replace hk := (lkK_iff _ _ _).1 hk; obtain ⟨y, hy, hk⟩ := hk
 split at hk
 ·rename_i fs hf
  split at hk
  ·rename_i hb
   simp only [Bool.and_eq_true] at hb
   obtain ⟨fields, hu, hfs⟩ := hT.struct hy hf
   obtain ⟨z, hz1, hz2⟩ := zero_reps (C := C) (w := w) (mu := mu) hT hy (Nat.eq_of_beq_eq_true hb.1.2) (Nat.le_of_ble_eq_true hb.2)
   obtain ⟨i, d, hi, hd, hyy⟩ := hT.facts hy
   have hall : ∀ f ∈ fields.toList, 1 ≤ szOf G.P f.type := fun f hf' => by
    have := List.all_eq_true.1 hb.1.1 (f.offset, szOf G.P f.type, isAggB G.P f.type) (by rw [hfs]; exact List.mem_map.2 ⟨f, hf', rfl⟩)
    exact Nat.le_of_ble_eq_true this
   have hpl := places_of fields.toList hall
   obtain ⟨cells', us, k1, k2, k3⟩ := fill_reps (place := ((fields.toList.map fun f => (f.offset, szOf G.P f.type)).toArray[·]?)) (fun i f hif => by
    rw [hfs, List.getElem?_map] at hif
    simp only [List.getElem?_toArray, List.getElem?_map]
    cases hfi : fields.toList[i]? with
    | none => rw [hfi] at hif; simp at hif
    | some fd => rw [hfi] at hif; simp only [Option.map_some, Option.some.injEq] at hif ⊢; subst hif; rfl) he parts.toList y.zero z.cells.toList (by simpa using hz2) hk
   refine ⟨_, .agg us.toArray, k1, by unfold Rep; exact ⟨us, rfl, k2⟩, run_build w t _ us.toArray ?_⟩
   have hiz : i.zero = some z := by
    cases hz : i.zero with
    | none => simp [zeroValue, typeInfo, hi, hz] at hz1
    | some z' => simp [zeroValue, typeInfo, hi, hz] at hz1; rw [hz1]
   unfold Program.built
   simp only [hi, hu, hiz, hpl, Array.toList_map]
   simpa using k3
  ·exact hk.elim
 ·exact hk.elim
end
end Go.Av

/-
 AV: slices that are made.
-/
set_option linter.unusedSimpArgs false
set_option linter.unusedVariables false
namespace Go.Av
section
variable {G : Cx} {C : CellSet} {w : World} {mu : Mu} {H : List HO} {E : List AV} {a : Act} {T : List TY}

theorem ofC_cells (u : Value) : (ofC u).cells = [ofC u] := by
 unfold ofC
 split
 ·rename_i k n; cases (decide (k.min ≤ n) && decide (n ≤ k.max)) <;> rfl
 ·rfl
 ·rename_i s; cases Nat.ble s.data.toList.length 9223372036854775807 <;> rfl
 ·rfl
theorem zeroK_ok (hT : TOk G.P T) {e : TypeId} {K : AV → Prop} (h : zeroK T e K) : ∃ z y, T[e]? = some y ∧ K z ∧ z.cells = y.zero := by
 unfold zeroK at h
 replace h := (lkK_iff _ _ _).1 h; obtain ⟨y, hy, h⟩ := h
 split at h
 ·exact ⟨_, y, hy, h, rfl⟩
 ·split at h
  ·rename_i z hz
   rw [AV.force_iff] at h
   refine ⟨z, y, hy, h, ?_⟩
   rw [hz]
   obtain ⟨i, d, _, _, rfl⟩ := hT.facts hy
   simp only at hz
   split at hz
   ·rename_i v _
    have hm : z ∈ v.cells.toList.map ofC := by rw [hz]; simp
    obtain ⟨u, _, rfl⟩ := List.mem_map.1 hm
    exact ofC_cells u
   ·cases hz
  ·exact h.elim
theorem flat_replicate_get (z : AV) : ∀ (n i : Nat), i < n * z.cells.length → (flat (List.replicate n z))[i]? = z.cells[i % z.cells.length]?
 | 0, i, h => by simp at h
 | n + 1, i, h => by
  have e1 : flat (List.replicate (n + 1) z) = z.cells ++ flat (List.replicate n z) := by simp [flat, List.replicate_succ]
  rw [e1, List.getElem?_append]
  split
  ·rename_i hlt; rw [Nat.mod_eq_of_lt hlt]
  ·rename_i hge
   rw [Nat.add_mul, Nat.one_mul] at h
   rw [flat_replicate_get z n (i - z.cells.length) (by omega)]
   congr 1
   exact (Nat.mod_eq_sub_mod (by omega)).symm
theorem zeros_reps {z : AV} {zv : Value} {sz : Nat} (hz : Reps C w z.cells mu zv.cells.toList) (hs : z.cells.length = sz) (hp : 1 ≤ sz) (n : Nat) :
  Reps C w (flat (List.replicate n z)) mu ((Array.range (n * sz)).map (zv.cells[· % zv.cells.size]!)).toList := by
 have hl := reps_len _ hz
 have hlf : (flat (List.replicate n z)).length = n * sz := by
  have := flat_length (sz := sz) (List.replicate n z) (fun a ha => by rw [List.eq_of_mem_replicate ha, hs])
  simpa using this
 obtain ⟨h1, h2⟩ := (reps_iff _).1 hz
 refine (reps_iff _).2 ⟨by simp [hlf], fun i h3 h4 => ?_⟩
 have hzs : zv.cells.size = sz := by simpa [hs] using h1
 have him : i % sz < sz := Nat.mod_lt _ (by omega)
 have e1 : (flat (List.replicate n z))[i] = z.cells[i % sz]'(by omega) := by
  have := flat_replicate_get z n i (by rw [hs]; omega)
  rw [List.getElem?_eq_getElem h3, hs, List.getElem?_eq_getElem (by omega)] at this
  simpa using this
 rw [e1]
 have e2 : ((Array.range (n * sz)).map (zv.cells[· % zv.cells.size]!)).toList[i] = zv.cells.toList[i % sz]'(by simp; omega) := by
  simp [hzs, him]
 rw [e2]
 exact h2 _ _ _
theorem cells_one {z : AV} {zv : Value} (hz : Reps C w z.cells mu zv.cells.toList) (hs : z.cells.all scalB = true) (n : Nat) : ∀ v ∈ ((Array.range n).map (zv.cells[· % zv.cells.size]!)).toList, 0 < zv.cells.size → v.oneCell' = true := by
 intro v hv hp
 simp only [Array.toList_map, List.mem_map] at hv
 obtain ⟨i, _, rfl⟩ := hv
 have him : i % zv.cells.size < zv.cells.size := Nat.mod_lt _ hp
 rw [getElem!_pos zv.cells _ him]
 exact reps_one hz hs _ (by simp)

theorem fillEs_reps {sz : Nat} (he : Reps C w E mu a.tmps.toList) :
  ∀ (parts : List (Nat × Operand)) (es : List AV) (vs : List Value) {K : List AV → Prop}, (∀ x ∈ es, x.cells.length = sz) → Reps C w (flat es) (blkMu mu) vs → (∀ v ∈ vs, v.oneCell' = true) → fillEsK E sz parts es K →
  ∃ es' us, K es' ∧ es'.length = es.length ∧ (∀ x ∈ es', x.cells.length = sz) ∧ Reps C w (flat es') (blkMu mu) us ∧ (∀ v ∈ us, v.oneCell' = true) ∧ Instr.fill (fun i => some (i * sz, sz)) vs.toArray (parts.map fun p => (p.1, a.eval p.2)) = some us.toArray
 | [], es, vs, K, hz, hr, h1, hk => ⟨es, vs, hk, rfl, hz, hr, h1, rfl⟩
 | (i, x) :: r, es, vs, K, hz, hr, h1, hk => by
  unfold fillEsK at hk
  rw [evK_iff, cellsK_iff] at hk
  split at hk
  ·rename_i hb
   simp only [Bool.and_eq_true] at hb
   obtain ⟨⟨⟨b1, b2⟩, b3⟩, b4⟩ := hb
   have b1 := Nat.eq_of_beq_eq_true b1
   have b4 : i < es.length := by have := b4; simp [Nat.blt] at this; omega
   rw [updK_iff] at hk
   obtain ⟨us, hv, hu⟩ := cells_rep (rep_ev he x) b2
   have hul := reps_len _ hu
   have hub : Reps C w (evD E x).cells (blkMu mu) us := noArrs_rep _ (by rw [noArrs_all]; exact b3) hu
   have hlen := reps_len _ hr
   have hfl := flat_length es hz
   have hmul : (i + 1) * sz ≤ es.length * sz := Nat.mul_le_mul_right _ b4
   rw [Nat.add_mul] at hmul
   have hr' : Reps C w (flat (es.set i (evD E x))) (blkMu mu) (vs.take (i * sz) ++ us ++ vs.drop (i * sz + us.length)) := by
    rw [flat_set es i _ hz b4 b1, show us.length = sz by omega]
    exact reps_append (reps_append (hr.take _) hub) (hr.drop _)
   have h1' : ∀ v ∈ vs.take (i * sz) ++ us ++ vs.drop (i * sz + us.length), v.oneCell' = true := by
    intro x hx
    simp only [List.mem_append] at hx
    rcases hx with (hx | hx) | hx
    ·exact h1 x (List.mem_of_mem_take hx)
    ·exact reps_one hu b2 x hx
    ·exact h1 x (List.mem_of_mem_drop hx)
   obtain ⟨es', us', k1, k2, k3, k4, k5, k6⟩ := fillEs_reps he r _ _ (fun y hy => by
    rcases List.mem_or_eq_of_mem_set hy with hy | rfl
    ·exact hz y hy
    ·exact b1) hr' h1' hk
   refine ⟨es', us', k1, by simpa using k2, k3, k4, k5, ?_⟩
   simp only [List.map_cons, Instr.fill, hv, List.size_toArray]
   rw [if_neg (by simp; omega)]
   have hfold : (us.toArray.zipIdx.foldl (fun cs (x : Value × Nat) => cs.setIfInBounds (i * sz + x.2) x.1) vs.toArray) = (vs.take (i * sz) ++ us ++ vs.drop (i * sz + us.length)).toArray := by
    rw [← Array.toList_inj, Array.zipIdx_toArray]
    simp only [List.foldl_toArray']
    have := fold_put us (i * sz) 0 vs.toArray (by simp; omega)
    simpa using this
   rw [hfold]; exact k6
  ·exact hk.elim
/-- The run of a slice literal: a new block. -/
theorem buildSlice_run (hT : TOk G.P T) (h : StC G C mu E H a w) {t : TypeId} {n : Nat} {parts : Array (Nat × Operand)} {K : HO → (Nat → AV) → Prop} (hk : buildSliceC T E t n parts.toList K) :
  ∃ e esz es us, K (.arr e esz es) (fun l => .own l esz 0 n) ∧ es.length = n ∧ (∀ x ∈ es, x.cells.length = esz) ∧ Reps C w (flat es) (blkMu mu) us ∧ (∀ v ∈ us, v.oneCell' = true) ∧ us.length = n * esz ∧ n ≤ 16777216 ∧
   (Instr.buildSlice t n (parts.map fun p => (p.1, a.eval p.2))).run G.P w = .ok (.slice (some ⟨w.heap.size, 0, none⟩) n n) (w.alloc (.cells us.toArray e)) := by
 unfold buildSliceC at hk
 replace hk := (lkK_iff _ _ _).1 hk; obtain ⟨y, hy, hk⟩ := hk
 split at hk
 ·rename_i e esz by' ag hs
  obtain ⟨hu, hsz, _⟩ := hT.slice hy hs
  obtain ⟨z, ye, hye, hk, hzc⟩ := zeroK_ok hT hk
  rw [cellsK_iff] at hk
  split at hk
  ·rename_i hb
   simp only [Bool.and_eq_true] at hb
   obtain ⟨⟨⟨⟨b1, b2⟩, b3⟩, b4⟩, b5⟩ := hb
   have b1 := Nat.eq_of_beq_eq_true b1
   have b4 := Nat.le_of_ble_eq_true b4
   have b5 := Nat.le_of_ble_eq_true b5
   rw [repK_iff] at hk
   have hrs := run_sizeOf (P := G.P) (w := w) hsz b4
   obtain ⟨i, d, hi, hd, hyy⟩ := hT.facts hye
   have hisz : i.size = esz := by
    simp [sizeOf, typeInfo, hi] at hrs; exact hrs
   obtain ⟨zv, hz1, hz2⟩ := zero_reps (C := C) (w := w) (mu := blkMu mu) hT hye (by rw [← hzc, b1, hyy]; exact hisz.symm) (by rw [hyy]; simp only [hisz]; exact b4)
   rw [← hzc] at hz2
   have hz3 := zeros_reps hz2 b1 b4 n
   have hzl : zv.cells.size = esz := by have := reps_len _ hz2; simpa [b1] using this
   have h1 := cells_one hz2 b2 (n * esz)
   obtain ⟨es', us, k1, k2, k3, k4, k5, k6⟩ := fillEs_reps h.env parts.toList (List.replicate n z) _ (fun x hx => by rw [List.eq_of_mem_replicate hx, b1]) hz3 (fun v hv => h1 v hv (by omega)) hk
   have hul := reps_len _ k4
   have hfl := flat_length es' k3
   simp only [List.length_replicate] at k2
   have hnle : n ≤ n * esz := Nat.le_mul_of_pos_right _ (by omega)
   refine ⟨e, esz, es', us, k1, k2, k3, k4, k5, by rw [hul, hfl, k2], by omega, ?_⟩
   have hfill : Instr.fill (fun i => some (i * esz, esz)) ((Array.range (n * esz)).map (zv.cells[· % zv.cells.size]!)) (parts.map fun p => (p.1, a.eval p.2)).toList = some us.toArray := by
    rw [Array.toArray_toList] at k6
    rw [Array.toList_map]; exact k6
   by_cases hn : n * esz = 0
   ·obtain rfl : n = 0 := by rcases Nat.mul_eq_zero.1 hn with h | h <;> omega
    have hemp : (Array.range (0 * esz)).map (zv.cells[· % zv.cells.size]!) = #[] := by simp
    rw [hemp, Array.toList_map] at hfill
    have hr0 : Array.range 0 = #[] := rfl
    simp [Instr.buildSlice, run_underlying hu, hrs, hr0, hfill, newRow]
   ·simp only [Array.toList_map] at hfill
    simp [Instr.buildSlice, run_underlying hu, hrs, hn, hz1, newRow, show ¬ (16777216 < n * esz) by omega, hfill]
  ·exact hk.elim
 ·exact hk.elim
theorem buildSlice_ok {al : Option Nat} (hT : TOk G.P T) (h : StC G C mu E H a w) {t : TypeId} {n : Nat} {parts : Array (Nat × Operand)} {K : AV → KK} (hk : buildSliceK al T E H t n parts.toList K) :
  EffOk G a w K (Instr.buildSlice t n (parts.map fun p => (p.1, a.eval p.2))) := by
 unfold buildSliceK at hk
 obtain ⟨e, esz, es, us, k1, k2, k3, k4, k5, k6, k7, k8⟩ := buildSlice_run hT h hk
 obtain ⟨H', nn, hal, k1⟩ := alK_al k1
 obtain ⟨mu', m1, m2⟩ := new_arr (cap := n) h hal k3 (e := e) (vs := us) (by rw [k2, ← k6, List.take_length]; exact k4) k5 (by omega) (by omega) k6
 rw [k2] at m2
 exact ⟨_, _, _, _, _, _, _, k1, k8, m1, m2⟩

theorem makeSlice_ok {al : Option Nat} (hT : TOk G.P T) (h : StC G C mu E H a w) {t : TypeId} {ln cp : Operand} {K : AV → KK} (hk : makeSliceK al T E H t ln cp K) :
  EffOk G a w K (Instr.makeSlice t (a.eval ln) (a.eval cp)) := by
 unfold makeSliceK makeSliceC at hk
 replace hk := (lkK_iff _ _ _).1 hk; obtain ⟨y, hy, hk⟩ := hk
 split at hk
 ·rename_i e esz by' ag hs
  obtain ⟨hu, hsz, hby, _⟩ := hT.slice hy hs
  obtain ⟨z, ye, hye, hk, hzc⟩ := zeroK_ok hT hk
  rw [cellsK_iff] at hk
  split at hk
  ·rename_i hb
   simp only [Bool.and_eq_true] at hb
   obtain ⟨⟨⟨b1, b2⟩, b3⟩, b4⟩ := hb
   have b1 := Nat.eq_of_beq_eq_true b1
   have b4 := Nat.le_of_ble_eq_true b4
   rw [evK_iff, evK_iff] at hk
   have hln := rep_ev h.env ln
   have hcp := rep_ev h.env cp
   split at hk
   ·rename_i n c e1 e2
    rw [e1] at hln
    rw [e2] at hcp
    obtain ⟨⟨hn0, hnc, hcb⟩, hk⟩ := hk
    obtain ⟨H', nn, hal, hk⟩ := alK_al hk
    obtain ⟨v1, r1⟩ := rep_int_inv hln
    obtain ⟨v2, r2⟩ := rep_int_inv hcp
    have w1 : IntKind.i64.wrap n = n := by have := Wr_eq _ _ r1; unfold Wr at this; exact this
    have w2 : IntKind.i64.wrap c = c := by have := Wr_eq _ _ r2; unfold Wr at this; exact this
    have r2' := inK64.1 r2
    have hrs := run_sizeOf (P := G.P) (w := w) hsz b4
    obtain ⟨i, d, hi, hd, hyy⟩ := hT.facts hye
    have hisz : i.size = esz := by simp [sizeOf, typeInfo, hi] at hrs; exact hrs
    have hiby : i.bytes = by' := by unfold Program.bytesOf at hby; simpa [hi] using hby
    obtain ⟨zv, hz1, hz2⟩ := zero_reps (C := C) (w := w) (mu := blkMu mu) hT hye (by rw [← hzc, b1, hyy]; exact hisz.symm) (by rw [hyy]; simp only [hisz]; exact b4)
    rw [← hzc] at hz2
    have hz3 := zeros_reps hz2 b1 b4 c.toNat
    have hzl : zv.cells.size = esz := by have := reps_len _ hz2; simpa [b1] using this
    have h1 := cells_one hz2 b2 (c.toNat * esz)
    have hz4 : Reps C w (flat (List.replicate n.toNat z)) (blkMu mu) (((Array.range (c.toNat * esz)).map (zv.cells[· % zv.cells.size]!)).toList.take (n.toNat * esz)) := by
     have := hz3.take (n.toNat * esz)
     have e : (flat (List.replicate c.toNat z)).take (n.toNat * esz) = flat (List.replicate n.toNat z) := by
      have : List.replicate c.toNat z = List.replicate n.toNat z ++ List.replicate (c.toNat - n.toNat) z := by rw [List.replicate_append_replicate]; congr 1; omega
      rw [this]
      have hf : flat (List.replicate n.toNat z ++ List.replicate (c.toNat - n.toNat) z) = flat (List.replicate n.toNat z) ++ flat (List.replicate (c.toNat - n.toNat) z) := by unfold flat; rw [List.flatMap_append]
      have hfl : (flat (List.replicate n.toNat z)).length = n.toNat * esz := by
       have := flat_length (sz := esz) (List.replicate n.toNat z) (fun a ha => by rw [List.eq_of_mem_replicate ha, b1])
       simpa using this
      rw [hf, ← hfl, List.take_left]
     rw [e] at this
     exact this
    obtain ⟨mu', m1, m2⟩ := new_arr (cap := c.toNat) (es := List.replicate n.toNat z) h hal (fun x hx => by rw [List.eq_of_mem_replicate hx, b1]) (e := e) (vs := ((Array.range (c.toNat * esz)).map (zv.cells[· % zv.cells.size]!)).toList)
     (by rw [List.length_replicate]; exact hz4) (fun v hv => h1 v hv (by omega)) (by simp; omega) (by omega) (by simp)
    rw [List.length_replicate] at m2
    rw [Array.toArray_toList] at m1 m2
    refine ⟨_, _, _, _, _, _, _, hk, ?_, m1, m2⟩
    have hc0 : ¬ c < 0 := by omega
    have hn0' : ¬ n < 0 := by omega
    have hnc' : ¬ c < n := by omega
    have hcb' : ¬ ((281474976710656 : Int) < (by' : Int) * c) := by omega
    rw [v1, v2]
    by_cases hn : c.toNat * esz = 0
    ·have hc : c = 0 := by
      rcases Nat.mul_eq_zero.1 hn with h | h
      ·omega
      ·omega
     subst hc
     have hr0 : Array.range 0 = #[] := rfl
     simp [Instr.makeSlice, run_underlying hu, hrs, asInt, asIntOf, typeInfo, hi, w1, w2, hn0', newRow, show ¬ (0 < n) by omega, show n = 0 by omega, hr0]
    ·simp [Instr.makeSlice, run_underlying hu, hrs, asInt, asIntOf, typeInfo, hi, hiby, w1, w2, hc0, hn0', hnc', hcb', newRow, hn, hz1]
   ·exact hk.elim
  ·exact hk.elim
 ·exact hk.elim
end
end Go.Av

/-
 AV: append.
-/
set_option linter.unusedSimpArgs false
set_option linter.unusedVariables false
namespace Go.Av
section
variable {G : Cx} {C : CellSet} {w : World} {mu : Mu} {H : List HO} {E : List AV} {a : Act} {T : List TY}

theorem Ext.le {w' : World} (h : Ext C C w w') (cs : List AV) {mu mu' : Mu} (hm : MuLe mu mu') {vs : List Value} (k : Reps C w cs mu vs) : Reps C w' cs mu' vs := Reps.mono h cs hm k

theorem cells_append {b : Nat} : ∀ (xs ys : List AV) {o : Nat}, Cells C w xs b o → Cells C w ys b (o + xs.length) → Cells C w (xs ++ ys) b o
 | [], ys, o, _, h => by simpa using h
 | x :: xs, ys, o, h, k => by
  simp only [List.cons_append]
  unfold Cells at h ⊢
  exact ⟨h.1, cells_append xs ys h.2 (by rw [show o + 1 + xs.length = o + (x :: xs).length by simp; omega]; exact k)⟩
/-- Array l moves to a new block. -/
theorem scrubH_ghost {H : List HO} {l i : Nat} {cs : List AV} {vs : List Value} {ms : List Nat} (hi : (H.map (scrubH l))[i]? = some (.ghost cs vs ms)) : ∃ cs0, H[i]? = some (.ghost cs0 vs ms) ∧ cs = scrubs l cs0 := by
 rw [List.getElem?_map] at hi
 cases ho : H[i]? with
 | none => rw [ho] at hi; simp at hi
 | some ob =>
  rw [ho] at hi
  cases ob <;> simp [scrubH] at hi
  obtain ⟨rfl, rfl, rfl⟩ := hi
  exact ⟨_, rfl, rfl⟩
theorem scrubH_inv {H : List HO} {l i : Nat} {I : Inv} (hi : (H.map (scrubH l))[i]? = some (.inv I)) : H[i]? = some (.inv I) := by
 rw [List.getElem?_map] at hi
 cases ho : H[i]? with
 | none => rw [ho] at hi; simp at hi
 | some ob =>
  rw [ho] at hi
  cases ob <;> simp [scrubH] at hi
  subst hi; rfl
theorem StC.renew (h : StC G C mu E H a w) {l : Nat} {e : TypeId} {sz : Nat} {es0 : List AV} (hl : H[l]? = some (.arr e sz es0)) {es : List AV} {vs : List Value} {cap : Nat}
  (hz : ∀ a ∈ es, a.cells.length = sz) (hr : Reps C w (flat es) (blkMu mu) (vs.take (es.length * sz))) (h1 : ∀ v ∈ vs, v.oneCell' = true) (hc : es.length ≤ cap) (hm : cap ≤ 9223372036854775807) (hv : vs.length = cap * sz) :
  StC G C (mu.set l (some (.arr (.slice (some ⟨w.heap.size, 0, none⟩) es.length cap)))) (scrubs l E) ((H.map (scrubH l)).set l (.arr e sz es)) a (w.alloc (.cells vs.toArray e)) := by
 have hlt : l < H.length := (List.getElem?_eq_some_iff.1 hl).1
 have hnb : ∀ b, mu l ≠ some (.blk b) := fun b hb => by
  obtain ⟨_, h2⟩ := h.heap.arrs l e sz es0 hl
  rcases h2 with ⟨h2, _⟩ | ⟨_, _, _, h2, _⟩ <;> (rw [hb] at h2; cases h2)
 have hx := ext_alloc (C := C) (w := w) h.lt (.cells vs.toArray e)
 have hfl : ∀ {g' : GO} {i b}, mu i = some g' → g'.block? = some b → b < w.heap.size := fun hm hb => (h.heap.fresh _ _ _ hm hb).2.1
 have hblk : MuLe (blkMu mu) (blkMu (mu.set l (some (.arr (.slice (some ⟨w.heap.size, 0, none⟩) es.length cap))))) := blkMu_mono fun i b hb => by
  rw [Mu.set_ne _ _ (fun ee => by subst ee; exact hnb b hb)]; exact hb
 have hsc : ∀ {cs : List AV} {us : List Value}, Reps C w cs mu us → Reps C (w.alloc (.cells vs.toArray e)) (scrubs l cs) (mu.set l (some (.arr (.slice (some ⟨w.heap.size, 0, none⟩) es.length cap)))) us := fun k =>
  Reps.mono hx _ (MuLe.refl _) (scrubs_rep _ (fun b hb => absurd hb (hnb b)) k)
 refine ⟨h.c0, h.c1, fun b o hc => by have := h.lt b o hc; simp; omega, ⟨?_, ?_, ?_, ?_, ?_, ?_⟩, hsc h.env, ?_, h.keep.alloc _, by simpa using h.pin.1, fun i k hn hi => by
  have hp := h.pin.2 i k hn hi
  by_cases e : i = l
  ·subst e
   obtain ⟨_, q⟩ := h.heap.arrs _ _ _ _ hl
   rcases q with ⟨q, _⟩ | ⟨_, _, _, q, _⟩
   ·rw [hp] at q; cases q
   ·rw [hp] at q; cases q
  ·rw [Mu.set_ne _ _ e]; exact hp⟩
 rotate_right
 ·obtain ⟨ms, k1, k2⟩ := h.defers
  refine ⟨ms, k1, k2.step (same_alloc (fun b hb => hb.1) _) (fun i x b hi hb => ?_) (fun _ _ h => .inl h) (fun i cs us ms hi => ?_) (fun i I hi => ?_)⟩
  ·by_cases ei : i = l
   ·subst ei
    rw [Mu.set_same] at hi
    simp only [Option.some.injEq] at hi
    subst hi
    simp only [GO.block?, Option.some.injEq] at hb
    exact .inr (Nat.le_of_eq hb)
   ·rw [Mu.set_ne _ _ ei] at hi; exact .inl ⟨i, x, hi, hb⟩
  ·by_cases ei : i = l
   ·subst ei; simp [hlt] at hi
   ·rw [List.getElem?_set_ne (Ne.symm ei)] at hi
    obtain ⟨cs0, k1, rfl⟩ := scrubH_ghost hi
    exact ⟨cs0, k1, hsc⟩
  ·by_cases ei : i = l
   ·subst ei; simp [hlt] at hi
   ·rw [List.getElem?_set_ne (Ne.symm ei)] at hi
    exact scrubH_inv hi
 ·intro i x hi
  simp only [List.length_set, List.length_map]
  by_cases ei : i = l
  ·subst ei; exact hlt
  ·rw [Mu.set_ne _ _ ei] at hi; exact h.heap.dom _ _ hi
 ·intro i x b hi hb
  by_cases ei : i = l
  ·subst ei
   rw [Mu.set_same] at hi
   simp only [Option.some.injEq] at hi
   subst hi
   simp only [GO.block?, Option.some.injEq] at hb
   subst hb
   exact ⟨.inl h.keep.size, by simp, fun o hc => absurd (h.lt _ _ hc) (by omega)⟩
  ·rw [Mu.set_ne _ _ ei] at hi
   obtain ⟨k1, k2, k3⟩ := h.heap.fresh _ _ _ hi hb
   exact ⟨k1, by simp; omega, k3⟩
 ·intro i x b i' x' hi hb hi' hb'
  by_cases ei : i = l
  ·subst ei
   rw [Mu.set_same] at hi
   simp only [Option.some.injEq] at hi
   subst hi
   simp only [GO.block?, Option.some.injEq] at hb
   subst hb
   by_cases ei' : i' = i
   ·exact ei'
   ·rw [Mu.set_ne _ _ ei'] at hi'
    exact absurd (hfl hi' hb') (by omega)
  ·rw [Mu.set_ne _ _ ei] at hi
   by_cases ei' : i' = l
   ·subst ei'
    rw [Mu.set_same] at hi'
    simp only [Option.some.injEq] at hi'
    subst hi'
    simp only [GO.block?, Option.some.injEq] at hb'
    subst hb'
    exact absurd (hfl hi hb) (by omega)
   ·rw [Mu.set_ne _ _ ei'] at hi'
    exact h.heap.sep _ _ _ _ _ hi hb hi' hb'
 ·intro i hi
  by_cases ei : i = l
  ·subst ei; simp [hlt] at hi
  ·rw [List.getElem?_set_ne (Ne.symm ei), List.getElem?_map] at hi
   rw [Mu.set_ne _ _ ei]
   cases ho : H[i]? with
   | none => rw [ho] at hi; simp at hi
   | some ob =>
    rw [ho] at hi
    cases ob with
    | dead => exact h.heap.dead i ho
    | arr _ _ _ => simp [scrubH] at hi
    | cells _ => simp [scrubH] at hi
    | ghost _ _ _ => simp [scrubH] at hi
    | inv _ => simp [scrubH] at hi
 ·intro i cs hi
  by_cases ei : i = l
  ·subst ei; simp [hlt] at hi
  ·rw [List.getElem?_set_ne (Ne.symm ei), List.getElem?_map] at hi
   cases ho : H[i]? with
   | none => rw [ho] at hi; simp at hi
   | some ob =>
    rw [ho] at hi
    cases ob with
    | arr _ _ _ => simp [scrubH] at hi
    | dead => simp [scrubH] at hi
    | ghost _ _ _ => simp [scrubH] at hi
    | inv _ => simp [scrubH] at hi
    | cells cs0 =>
     simp only [Option.map_some, scrubH, Option.some.injEq, HO.cells.injEq] at hi
     subst hi
     obtain ⟨b, cur, e', k1, k2, k3, k4⟩ := h.heap.recs i cs0 ho
     exact ⟨b, cur, e', by rw [Mu.set_ne _ _ ei]; exact k1, by rw [heap_alloc_old _ _ (hfl k1 rfl)]; exact k2, hsc k3, k4⟩
 ·intro i e' sz' es' hi
  by_cases ei : i = l
  ·subst ei
   simp only [List.getElem?_set_self (show i < (H.map (scrubH i)).length by simpa using hlt), Option.some.injEq, HO.arr.injEq] at hi
   obtain ⟨rfl, rfl, rfl⟩ := hi
   exact ⟨hz, .inr ⟨w.heap.size, cap, vs.toArray, Mu.set_same _ _ _, heap_alloc_new _ _, hc, hm, by simpa using hv, by simpa using Reps.mono hx _ hblk hr, by simpa using h1⟩⟩
  ·rw [List.getElem?_set_ne (Ne.symm ei), List.getElem?_map] at hi
   cases ho : H[i]? with
   | none => rw [ho] at hi; simp at hi
   | some ob =>
    rw [ho] at hi
    cases ob with
    | cells _ => simp [scrubH] at hi
    | dead => simp [scrubH] at hi
    | ghost _ _ _ => simp [scrubH] at hi
    | inv _ => simp [scrubH] at hi
    | arr e0 sz0 es0' =>
     simp only [Option.map_some, scrubH, Option.some.injEq, HO.arr.injEq] at hi
     obtain ⟨rfl, rfl, rfl⟩ := hi
     obtain ⟨k0, k⟩ := h.heap.arrs i _ _ _ ho
     refine ⟨k0, k.imp (fun ⟨k1, k2⟩ => ⟨by rw [Mu.set_ne _ _ ei]; exact k1, k2⟩) fun ⟨b, cap', cur, k1, k2, k3, k4, k5, k6, k7⟩ => ⟨b, cap', cur, by rw [Mu.set_ne _ _ ei]; exact k1, ?_, k3, k4, k5, Reps.mono hx _ hblk k6, k7⟩⟩
     rw [heap_alloc_old _ _ (hfl k1 rfl)]; exact k2

/-- What led to array l is forgotten. -/
theorem StC.scrub (h : StC G C mu E H a w) (l : Nat) : StC G C mu (scrubs l E) (H.map (scrubH l)) a w := by
 have hms : mu.set l (mu l) = mu := by
  funext i; by_cases e : i = l
  ·subst e; rw [Mu.set_same]
  ·rw [Mu.set_ne _ _ e]
 have hsc : ∀ {cs : List AV} {us : List Value}, Reps C w cs mu us → Reps C w (scrubs l cs) mu us := fun k => by
  have := scrubs_rep (l := l) (g := mu l) _ (fun b hb => hb) k
  rwa [hms] at this
 refine ⟨h.c0, h.c1, h.lt, ⟨fun i x hi => by simpa using h.heap.dom i x hi, h.heap.fresh, h.heap.sep, ?_, ?_, ?_⟩, hsc h.env, ?_, h.keep, by simpa using h.pin.1, h.pin.2⟩
 rotate_right
 ·obtain ⟨ms, k1, k2⟩ := h.defers
  refine ⟨ms, k1, k2.step ⟨rfl, rfl, rfl, Nat.le_refl _, fun _ _ => rfl⟩ (fun i x b hi hb => .inl ⟨i, x, hi, hb⟩) (fun _ _ h => .inl h) (fun i cs us ms hi => ?_) (fun i I hi => scrubH_inv hi)⟩
  obtain ⟨cs0, k1, rfl⟩ := scrubH_ghost hi
  exact ⟨cs0, k1, hsc⟩
 ·intro i hi
  rw [List.getElem?_map] at hi
  cases ho : H[i]? with
  | none => rw [ho] at hi; simp at hi
  | some ob =>
   rw [ho] at hi
   cases ob with
   | dead => exact h.heap.dead i ho
   | arr _ _ _ => simp [scrubH] at hi
   | cells _ => simp [scrubH] at hi
   | ghost _ _ _ => simp [scrubH] at hi
   | inv _ => simp [scrubH] at hi
 ·intro i cs hi
  rw [List.getElem?_map] at hi
  cases ho : H[i]? with
  | none => rw [ho] at hi; simp at hi
  | some ob =>
   rw [ho] at hi
   cases ob with
   | arr _ _ _ => simp [scrubH] at hi
   | dead => simp [scrubH] at hi
   | ghost _ _ _ => simp [scrubH] at hi
   | inv _ => simp [scrubH] at hi
   | cells cs0 =>
    simp only [Option.map_some, scrubH, Option.some.injEq, HO.cells.injEq] at hi
    subst hi
    obtain ⟨b, cur, e', k1, k2, k3, k4⟩ := h.heap.recs i cs0 ho
    exact ⟨b, cur, e', k1, k2, hsc k3, k4⟩
 ·intro i e' sz' es' hi
  rw [List.getElem?_map] at hi
  cases ho : H[i]? with
  | none => rw [ho] at hi; simp at hi
  | some ob =>
   rw [ho] at hi
   cases ob with
   | cells _ => simp [scrubH] at hi
   | dead => simp [scrubH] at hi
   | ghost _ _ _ => simp [scrubH] at hi
   | inv _ => simp [scrubH] at hi
   | arr e0 sz0 es0' =>
    simp only [Option.map_some, scrubH, Option.some.injEq, HO.arr.injEq] at hi
    obtain ⟨rfl, rfl, rfl⟩ := hi
    exact h.heap.arrs i _ _ _ ho

/-- A nil slice becomes an array object without elements. -/
theorem StC.nilArr (h : StC G C mu E H a w) {n : Nat} {H' : List HO} {e : TypeId} {sz : Nat} (hal : Al H n H' (.arr e sz [])) : StC G C (mu.set n (some (.arr (.slice none 0 0)))) E H' a w ∧
  Rep C w (.own n sz 0 0) (mu.set n (some (.arr (.slice none 0 0)))) (.slice none 0 0) := by
 have hnone : mu n = none := by
  rcases hal.free with hf | hf
  ·cases hm : mu n with
   | none => rfl
   | some x => exact absurd (h.heap.dom _ _ hm) (by have := List.getElem?_eq_none_iff.1 hf; omega)
  ·exact h.heap.dead n hf
 have hle := muLe_new (mu := mu) (l := n) (some (.arr (.slice none 0 0))) hnone
 have hblk : MuLe (blkMu mu) (blkMu (mu.set n (some (.arr (.slice none 0 0))))) := blkMu_mono fun l b e => hle l _ e
 refine ⟨⟨h.c0, h.c1, h.lt, ⟨?_, ?_, ?_, ?_, ?_, ?_⟩, Reps.mono (Ext.refl _ _) _ hle h.env, ?_, h.keep, Nat.le_trans h.pin.1 hal.len, fun i b hn hi => hle i _ (h.pin.2 i b hn hi)⟩, ?_⟩
 rotate_right 2
 ·obtain ⟨ms, k1, k2⟩ := h.defers
  refine ⟨ms, k1, k2.step ⟨rfl, rfl, rfl, Nat.le_refl _, fun _ _ => rfl⟩ (fun i x b hi hb => ?_) (fun _ _ h => .inl h) (fun i cs us ms hi => ?_) (fun i I hi => ?_)⟩
  ·by_cases ei : i = n
   ·subst ei
    rw [Mu.set_same] at hi
    simp only [Option.some.injEq] at hi
    subst hi
    cases hb
   ·rw [Mu.set_ne _ _ ei] at hi; exact .inl ⟨i, x, hi, hb⟩
  ·by_cases ei : i = n
   ·subst ei; rw [hal.get] at hi; cases hi
   ·rw [hal.other i ei] at hi; exact ⟨cs, hi, Reps.mono (Ext.refl _ _) _ hle⟩
  ·by_cases ei : i = n
   ·subst ei; rw [hal.get] at hi; cases hi
   ·rw [hal.other i ei] at hi; exact hi
 rotate_left
 ·intro l x hl
  by_cases e : l = n
  ·subst e; exact hal.lt
  ·rw [Mu.set_ne _ _ e] at hl; have := h.heap.dom _ _ hl; have := hal.len; omega
 ·intro l x b hl hb
  by_cases e : l = n
  ·subst e
   rw [Mu.set_same] at hl
   simp only [Option.some.injEq] at hl
   subst hl
   simp [GO.block?] at hb
  ·rw [Mu.set_ne _ _ e] at hl; exact h.heap.fresh _ _ _ hl hb
 ·intro l x b l' x' hl hb hl' hb'
  have aux : ∀ {i x}, mu.set n (some (.arr (.slice none 0 0))) i = some x → x.block? = some b → mu i = some x := fun {i x} hi hb => by
   by_cases e : i = n
   ·subst e
    rw [Mu.set_same] at hi
    simp only [Option.some.injEq] at hi
    subst hi
    simp [GO.block?] at hb
   ·rw [Mu.set_ne _ _ e] at hi; exact hi
  exact h.heap.sep _ _ _ _ _ (aux hl hb) hb (aux hl' hb') hb'
 ·intro l hl
  by_cases e : l = n
  ·subst e; rw [hal.get] at hl; simp at hl
  ·rw [hal.other l e] at hl; rw [Mu.set_ne _ _ e]; exact h.heap.dead l hl
 ·intro l cs hl
  by_cases e : l = n
  ·subst e; rw [hal.get] at hl; simp at hl
  ·rw [hal.other l e] at hl
   obtain ⟨b, cur, e, h1, h2, h3, h4⟩ := h.heap.recs l cs hl
   exact ⟨b, cur, e, hle _ _ h1, h2, Reps.mono (Ext.refl _ _) _ hle h3, h4⟩
 ·intro l e' sz' es hl
  by_cases e : l = n
  ·subst e
   rw [hal.get] at hl
   simp only [Option.some.injEq, HO.arr.injEq] at hl
   obtain ⟨_, _, rfl⟩ := hl
   exact ⟨by simp, .inl ⟨Mu.set_same _ _ _, rfl⟩⟩
  ·rw [hal.other l e] at hl
   obtain ⟨h1, h2⟩ := h.heap.arrs l e' sz' es hl
   exact ⟨h1, h2.imp (fun ⟨k1, k2⟩ => ⟨hle _ _ k1, k2⟩) fun ⟨b, cap, cur, k1, k2, k3, k4, k5, k6, k7⟩ => ⟨b, cap, cur, hle _ _ k1, k2, k3, k4, k5, Reps.mono (Ext.refl _ _) _ hblk k6, k7⟩⟩
 ·unfold Rep
  exact ⟨_, Mu.set_same _ _ _, by simp [lenSl], by simp [lenSl], by simp [subSl]⟩

/-- The elements of a slice, and their cells. -/
theorem elems_ok (h : StC G C mu E H a w) {x : AV} {u : Value} (hx : Rep C w x mu u) {K : Nat → List AV → Prop} (hk : elemsK H x K) :
  ∃ sz xs, K sz xs ∧ (∀ a ∈ xs, a.cells.length = sz) ∧ ((u = .slice none 0 0 ∧ xs = []) ∨ ∃ ad c vs, u = .slice (some ad) xs.length c ∧ vs.length = xs.length * sz ∧ Reps C w (flat xs) (blkMu mu) vs ∧
   (∀ j v, vs[j]? = some v → w.cell? (ad.add j) = some v) ∧ ∀ v ∈ vs, v.oneCell' = true) := by
 cases x with
 | sl sz es =>
  simp only [elemsK] at hk
  unfold Rep at hx
  rcases hx with ⟨⟨ad, rfl⟩, rfl⟩ | ⟨b, o, cap, rfl, h1, h2, h3⟩
  ·cases ad with
   | none => exact ⟨sz, [], hk, by simp, .inl ⟨rfl, rfl⟩⟩
   | some ad => exact ⟨sz, [], hk, by simp, .inr ⟨ad, 0, [], rfl, by simp, by simp [flat, Reps], by simp, by simp⟩⟩
  ·have hz : ∀ a ∈ es, a.cells.length = sz := fun x hx => by
    obtain ⟨i, hi, rfl⟩ := List.getElem_of_mem hx
    exact ((rows_iff es o).1 h3 i hi).1
   have hc : Cells C w (flat es) b o := by
    clear hk h1
    induction es generalizing o with
    | nil => simp [flat, Cells]
    | cons e es ih =>
     rw [rows_cons] at h3
     have e1 : flat (e :: es) = e.cells ++ flat es := by simp [flat]
     rw [e1]
     exact cells_append _ _ h3.1.2 (by rw [h3.1.1]; exact ih _ h3.2 (fun x hx => hz x (by simp [hx])))
   obtain ⟨vs, k1, k2, k3⟩ := hc.vals
   refine ⟨sz, es, hk, hz, .inr ⟨_, cap, vs, rfl, by rw [reps_len _ k2, flat_length es hz], k2.up, fun j v hv => ?_, k3⟩⟩
   rw [add_lit]; exact k1 j v hv
 | own l sz lo n =>
  simp only [elemsK] at hk
  replace hk := (lkK_iff _ _ _).1 hk; obtain ⟨ob, hob, hk⟩ := hk
  cases ob with
  | cells _ => exact hk.elim
  | dead => exact hk.elim
  | ghost _ _ _ => exact hk.elim
  | inv _ => exact hk.elim
  | arr e sz' es =>
   simp only at hk
   split at hk
   ·rename_i hb
    simp only [Bool.and_eq_true] at hb
    obtain rfl := Nat.eq_of_beq_eq_true hb.1
    obtain rfl := Nat.eq_of_beq_eq_true hb.2
    obtain ⟨rfl, hk⟩ := hk
    unfold Rep at hx
    obtain ⟨x, hm, hle, hmx, rfl⟩ := hx
    obtain ⟨hz, h2⟩ := h.heap.arrs l e sz es hob
    rcases h2 with ⟨h2, rfl⟩ | ⟨b, cap, cur, h3, h4, h5, h6, h7, h8, h9⟩
    ·rw [hm] at h2
     simp only [Option.some.injEq, GO.arr.injEq] at h2
     subst h2
     exact ⟨sz, [], hk, by simp, .inl ⟨rfl, rfl⟩⟩
    ·rw [hm] at h3
     simp only [Option.some.injEq, GO.arr.injEq] at h3
     subst h3
     have hcl : cur.toList.length = cap * sz := by simpa using h7
     have hmul : es.length * sz ≤ cap * sz := Nat.mul_le_mul_right _ h5
     refine ⟨sz, es, hk, hz, .inr ⟨⟨b, 0, none⟩, cap, cur.toList.take (es.length * sz), by simp [subSl], by rw [List.length_take]; omega, h8, fun j v hv => ?_, fun v hv => h9 v (List.mem_of_mem_take hv)⟩⟩
     rw [add_lit]
     have := (reads_row h4) j v
     rw [List.getElem?_take] at hv
     split at hv
     ·exact this hv
     ·cases hv
   ·exact hk.elim
 | _ => exact hk.elim
end
end Go.Av

/-
 AV: append, and texts from and to bytes.
-/
set_option linter.unusedSimpArgs false
set_option linter.unusedVariables false
namespace Go.Av
section
variable {G : Cx} {C : CellSet} {w : World} {mu : Mu} {H : List HO} {E : List AV} {a : Act} {T : List TY}

theorem zeroCells_one {z : Value} {zc : List AV} (hz : Reps C w zc mu z.cells.toList) (hs : zc.all scalB = true) (n : Nat) (hp : 0 < z.cells.size) : ∀ v ∈ (Builtin.zeroCells z.cells n).toList, v.oneCell' = true := by
 intro v hv
 simp only [Builtin.zeroCells, Array.toList_map, List.mem_map] at hv
 obtain ⟨i, _, rfl⟩ := hv
 have him : i % z.cells.size < z.cells.size := Nat.mod_lt _ hp
 rw [getElem!_pos z.cells _ him]
 exact reps_one hz hs _ (by simp)
theorem arr_app (vs : List Value) (Z : Array Value) : vs.toArray ++ Z = (vs ++ Z.toList).toArray := by cases Z; simp
theorem flat_append (xs ys : List AV) : flat (xs ++ ys) = flat xs ++ flat ys := by unfold flat; rw [List.flatMap_append]

/-- What append needs of the types. -/
structure AppTy (P : Program) (t e : TypeId) (sz by' : Nat) (z : Value) (i : TypeInfo) : Prop where
 ht : P.underlying t = some (.slice e)
 hi : P.info? e = some i
 hz : i.zero = some z
 hs : i.size = sz
 hb : i.bytes = by'
 hzs : z.cells.size = sz
 hp : 1 ≤ sz
 one : ∀ n, ∀ v ∈ (Builtin.zeroCells z.cells n).toList, v.oneCell' = true

theorem size_zero {P : Program} {t e : TypeId} {sz by' : Nat} {z : Value} {i : TypeInfo} (A : AppTy P t e sz by' z i) (n : Nat) : (Builtin.zeroCells z.cells n).toList.length = n * sz := by
 simp [Builtin.zeroCells, A.hzs]

theorem app_nil (h : StC G C mu E H a w) {n : Nat} {H' : List HO} {t ty e : TypeId} {sz by' : Nat} {z : Value} {i : TypeInfo} (A : AppTy G.P t e sz by' z i) {xs : List AV} (hal : Al H n H' (.arr e sz xs)) {u : Value} (hzz : ∀ a ∈ xs, a.cells.length = sz)
  (hu : (u = .slice none 0 0 ∧ xs = []) ∨ ∃ ad c vs, u = .slice (some ad) xs.length c ∧ vs.length = xs.length * sz ∧ Reps C w (flat xs) (blkMu mu) vs ∧ (∀ j v, vs[j]? = some v → w.cell? (ad.add j) = some v) ∧ ∀ v ∈ vs, v.oneCell' = true)
  (hb : xs.length * by' ≤ 140737488355328) (hm : xs.length ≤ 9223372036854775807) :
  ∃ mu' w' v, (Builtin.append_ #[t, t] ty #[.slice none 0 0, u]).run G.P w = .ok v w' ∧ StC G C mu' E H' a w' ∧ Rep C w' (.own n sz 0 xs.length) mu' v := by
 have hnil : xs.length = 0 → ∀ u', (∃ ad, u' = .slice ad 0 0 ∨ ∃ c, u' = .slice ad 0 c) → (Builtin.append_ #[t, t] ty #[.slice none 0 0, u']).run G.P w = .ok (.slice none 0 0) w := by
  rintro _ u' ⟨ad, rfl | ⟨c, rfl⟩⟩ <;> cases ad <;> simp [Builtin.append_, run_underlying A.ht, sizeOf, typeInfo, A.hi, Builtin.lenOf, Builtin.firstCells, loadCells, loadCellsFrom]
 by_cases hx : xs.length = 0
 ·have hx' : xs = [] := List.eq_nil_of_length_eq_zero hx
  subst hx'
  obtain ⟨h1, h2⟩ := h.nilArr hal
  refine ⟨_, w, _, hnil hx u ?_, h1, h2⟩
  rcases hu with ⟨rfl, _⟩ | ⟨ad, c, vs, rfl, _⟩
  ·exact ⟨none, .inl rfl⟩
  ·exact ⟨some ad, .inr ⟨c, rfl⟩⟩
 ·rcases hu with ⟨_, rfl⟩ | ⟨ad, c, vs, rfl, hl, hr, hcell, h1⟩
  ·simp at hx
  ·have hr0 := run_append_nil (P := G.P) w t ty e i z A.ht A.hi A.hz ad xs.length c vs (by rw [hl, A.hs]) hcell (by omega) (by omega) (by rw [A.hb]; omega)
   have hge := grownCap_ge w xs.length 0 e
   have hle := grownCap_le_maxLen w xs.length 0 e (by simp only [maxLen]; omega)
   simp only [maxLen] at hle
   obtain ⟨mu', m1, m2⟩ := new_arr (e := e) (cap := grownCap w xs.length 0 e) (vs := vs ++ (Builtin.zeroCells z.cells (grownCap w xs.length 0 e - xs.length)).toList) h.drew hal hzz
    (by rw [← hl, List.take_left]; exact Reps.mono ext_drew _ (MuLe.refl _) hr)
    (fun v hv => by
     rcases List.mem_append.1 hv with hv | hv
     ·exact h1 v hv
     ·exact A.one _ v hv)
    hge (by omega) (by rw [List.length_append, hl, size_zero A, ← Nat.add_mul]; congr 1; omega)
   refine ⟨mu', _, _, ?_, m1, m2⟩
   rw [hr0, arr_app]; rfl
theorem app_own (h : StC G C mu E H a w) {t ty e : TypeId} {sz by' : Nat} {z : Value} {i : TypeInfo} (A : AppTy G.P t e sz by' z i) {l : Nat} {es : List AV} (hl : H[l]? = some (.arr e sz es)) {s : Value}
  (hs : Rep C w (.own l sz 0 es.length) mu s) {xs : List AV} {u : Value} (hzz : ∀ a ∈ xs, a.cells.length = sz)
  (hu : (u = .slice none 0 0 ∧ xs = []) ∨ ∃ ad c vs, u = .slice (some ad) xs.length c ∧ vs.length = xs.length * sz ∧ Reps C w (flat xs) (blkMu mu) vs ∧ (∀ j v, vs[j]? = some v → w.cell? (ad.add j) = some v) ∧ ∀ v ∈ vs, v.oneCell' = true)
  (hb : (es ++ xs).length * by' ≤ 140737488355328) (hm : (es ++ xs).length ≤ 9223372036854775807) :
  ∃ mu' w' v, (Builtin.append_ #[t, t] ty #[s, u]).run G.P w = .ok v w' ∧ StC G C mu' (scrubs l E) ((H.map (scrubH l)).set l (.arr e sz (es ++ xs))) a w' ∧ Rep C w' (.own l sz 0 (es ++ xs).length) mu' v := by
 obtain ⟨hz, h2⟩ := h.heap.arrs l e sz es hl
 have hlt : l < H.length := (List.getElem?_eq_some_iff.1 hl).1
 have hzz' : ∀ a ∈ es ++ xs, a.cells.length = sz := fun x hx => (List.mem_append.1 hx).elim (hz x) (hzz x)
 have hset : ∀ {ob : HO}, H[l]? = some ob → scrubH l ob = ob → (H.map (scrubH l)).set l ob = H.map (scrubH l) := fun {ob} ho hsc => by
  apply List.ext_getElem?
  intro j
  by_cases e : j = l
  ·subst e; rw [List.getElem?_set_self (by simpa using hlt), List.getElem?_map, ho]; simp [hsc]
  ·rw [List.getElem?_set_ne (Ne.symm e)]
 unfold Rep at hs
 obtain ⟨x, hmx, hle, hmxl, rfl⟩ := hs
 -- nothing is appended
 by_cases hx : xs.length = 0
 ·have hx' : xs = [] := List.eq_nil_of_length_eq_zero hx
  subst hx'
  simp only [List.append_nil]
  rw [hset hl rfl]
  refine ⟨mu, w, subSl x sz 0 es.length, ?_, h.scrub l, by unfold Rep; exact ⟨x, hmx, hle, hmxl, rfl⟩⟩
  have hu' : ∃ ad c, u = .slice ad 0 c := by
   rcases hu with ⟨rfl, _⟩ | ⟨ad, c, vs, rfl, _⟩
   ·exact ⟨none, 0, rfl⟩
   ·exact ⟨some ad, c, rfl⟩
  obtain ⟨ad, c, rfl⟩ := hu'
  rcases h2 with ⟨h2, rfl⟩ | ⟨b, cap, cur, h3, h4, h5, h6, h7, h8, h9⟩
  ·rw [hmx] at h2
   simp only [Option.some.injEq, GO.arr.injEq] at h2
   subst h2
   cases ad <;> simp [subSl, Builtin.append_, run_underlying A.ht, sizeOf, typeInfo, A.hi, Builtin.lenOf, Builtin.firstCells, loadCells, loadCellsFrom]
  ·rw [hmx] at h3
   simp only [Option.some.injEq, GO.arr.injEq] at h3
   subst h3
   cases ad <;> simp [subSl, Builtin.append_, run_underlying A.ht, sizeOf, typeInfo, A.hi, Builtin.lenOf, Builtin.firstCells, loadCells, loadCellsFrom, h5, storeCells]
 ·rcases hu with ⟨_, rfl⟩ | ⟨ad, c, vs, rfl, hvl, hr, hcell, h1⟩
  ·simp at hx
  rw [List.length_append] at hb hm
  rcases h2 with ⟨h2, rfl⟩ | ⟨b, cap, cur, h3, h4, h5, h6, h7, h8, h9⟩
  · -- it was nil
   rw [hmx] at h2
   simp only [Option.some.injEq, GO.arr.injEq] at h2
   subst h2
   simp only [List.length_nil, Nat.zero_add] at hb hm
   have hr0 := run_append_nil (P := G.P) w t ty e i z A.ht A.hi A.hz ad xs.length c vs (by rw [hvl, A.hs]) hcell (by omega) (by omega) (by rw [A.hb]; omega)
   have hge := grownCap_ge w xs.length 0 e
   have hle := grownCap_le_maxLen w xs.length 0 e (by simp only [maxLen]; omega)
   simp only [maxLen] at hle
   have m1 := h.drew.renew hl (es := xs) (cap := grownCap w xs.length 0 e) (vs := vs ++ (Builtin.zeroCells z.cells (grownCap w xs.length 0 e - xs.length)).toList) hzz
    (by rw [← hvl, List.take_left]; exact Reps.mono ext_drew _ (MuLe.refl _) hr)
    (fun v hv => by
     rcases List.mem_append.1 hv with hv | hv
     ·exact h1 v hv
     ·exact A.one _ v hv)
    hge (by omega) (by rw [List.length_append, hvl, size_zero A, ← Nat.add_mul]; congr 1; omega)
   refine ⟨_, _, .slice (some ⟨w.heap.size, 0, none⟩) xs.length (grownCap w xs.length 0 e), ?_, m1, ?_⟩
   ·simp only [subSl, List.length_nil]; rw [hr0, arr_app]
   ·simp only [List.nil_append]
    unfold Rep; exact ⟨_, Mu.set_same _ _ _, by simp [lenSl], by simp only [lenSl]; omega, by simp [subSl]⟩
  ·rw [hmx] at h3
   simp only [Option.some.injEq, GO.arr.injEq] at h3
   subst h3
   have hcl : cur.toList.length = cap * sz := by simpa using h7
   have hmul : es.length * sz ≤ cap * sz := Nat.mul_le_mul_right _ h5
   have hsub : subSl (.slice (some ⟨b, 0, none⟩) es.length cap) sz 0 es.length = .slice (some ⟨b, 0, none⟩) es.length cap := by simp [subSl]
   rw [hsub]
   have hcat : Reps C w (flat (es ++ xs)) (blkMu mu) (cur.toList.take (es.length * sz) ++ vs) := by rw [flat_append]; exact reps_append h8 hr
   by_cases hroom : es.length + xs.length ≤ cap
   · -- there is room
    have hmul2 : (es.length + xs.length) * sz ≤ cap * sz := Nat.mul_le_mul_right _ hroom
    rw [Nat.add_mul] at hmul2
    have hr0 := run_append_room (P := G.P) w t ty e i A.ht A.hi b es.length cap cur h4 ad xs.length c vs (by rw [hvl, A.hs]) hcell h1 hroom (by rw [A.hs, hvl]; omega)
    rw [A.hs] at hr0
    have hx := ext_setRow (w := w) (h.heap.fresh _ _ _ hmx rfl).2.2 ((cur.toList.take (es.length * sz) ++ vs ++ cur.toList.drop (es.length * sz + vs.length)).toArray)
    have m1 := StC.write (g := .arr (.slice (some ⟨b, 0, none⟩) es.length cap)) (g' := .arr (.slice (some ⟨b, 0, none⟩) (es.length + xs.length) cap)) h hmx rfl
     (new := (cur.toList.take (es.length * sz) ++ vs ++ cur.toList.drop (es.length * sz + vs.length)).toArray) h4 (.arr e sz (es ++ xs)) rfl (by simp) (by simp) (E' := scrubs l E)
     (Reps.mono hx _ (MuLe.refl _) (scrubs_rep _ (fun b hb => by rw [hmx] at hb; cases hb) h.env)) ((H.map (scrubH l)).set l (.arr e sz (es ++ xs))) (by simp)
     (fun j hj => by
      rw [List.getElem?_set_ne (Ne.symm hj), List.getElem?_map]
      cases ho : H[j]? with
      | none => simp
      | some ob =>
       cases ob with
       | cells cs0 =>
        simp only [Option.map_some, scrubH, Option.some.injEq, HO.cells.injEq, reduceCtorEq, false_implies, implies_true, and_true]
        refine ⟨trivial, ?_⟩
        rintro cs rfl
        exact ⟨cs0, rfl, fun us k => scrubs_rep _ (fun b hb => by rw [hmx] at hb; cases hb) k⟩
       | dead => simp [scrubH]
       | inv I => simp [scrubH]
       | ghost cs0 vs0 ms0 =>
        simp only [Option.map_some, scrubH, Option.some.injEq, HO.ghost.injEq, reduceCtorEq, false_implies, implies_true, and_true, true_and]
        rintro cs vs ms ⟨rfl, rfl, rfl⟩
        exact ⟨cs0, ⟨rfl, rfl, rfl⟩, fun us k => scrubs_rep _ (fun b hb => by rw [hmx] at hb; cases hb) k⟩
       | arr e0 sz0 es0 => simp [scrubH])
     (by simp) (by rw [List.getElem?_set_self (by simpa using hlt)])
     (by simp)
     (fun e' sz' es' hc => by
      simp only [HO.arr.injEq] at hc
      obtain ⟨rfl, rfl, rfl⟩ := hc
      refine ⟨hzz', cap, by simp, rfl, by simpa using hroom, h6, ?_, ?_, ?_⟩
      ·simp only [List.size_toArray, List.length_append, List.length_take, List.length_drop]; omega
      ·have e1 : (es ++ xs).length * sz = (cur.toList.take (es.length * sz) ++ vs).length := by
        rw [List.length_append, List.length_append, List.length_take, Nat.add_mul]; omega
       rw [e1]
       simp only [List.take_left]
       exact hcat
      ·intro v hv
       simp only [List.mem_append] at hv
       rcases hv with (hv | hv) | hv
       ·exact h9 v (List.mem_of_mem_take hv)
       ·exact h1 v hv
       ·exact h9 v (List.mem_of_mem_drop hv))
    refine ⟨_, _, _, hr0, m1, ?_⟩
    unfold Rep
    exact ⟨_, Mu.set_same _ _ _, by simp [lenSl], by simp only [lenSl]; omega, by simp [subSl]⟩
   · -- a new array
    have hr0 := run_append_grow (P := G.P) w t ty e i z A.ht A.hi A.hz ⟨b, 0, none⟩ es.length cap (cur.toList.take (es.length * sz)) (by rw [List.length_take, A.hs]; omega)
     (fun j v hv => by
      rw [add_lit]
      have := (reads_row h4) j v
      rw [List.getElem?_take] at hv
      split at hv
      ·exact this hv
      ·cases hv)
     ad xs.length c vs (by rw [hvl, A.hs]) hcell (by omega) (by omega) (growslice_fits (by omega) (by rw [A.hb]; exact hb))
    have hge := grownCap_ge w (es.length + xs.length) cap e
    have hle := grownCap_le_maxLen w (es.length + xs.length) cap e (by simp only [maxLen]; omega)
    simp only [maxLen] at hle
    have m1 := h.drew.renew hl (es := es ++ xs) (cap := grownCap w (es.length + xs.length) cap e)
     (vs := cur.toList.take (es.length * sz) ++ vs ++ (Builtin.zeroCells z.cells (grownCap w (es.length + xs.length) cap e - (es.length + xs.length))).toList) hzz'
     (by
      have e1 : (es ++ xs).length * sz = (cur.toList.take (es.length * sz) ++ vs).length := by
       rw [List.length_append, List.length_append, List.length_take, Nat.add_mul]; omega
      rw [e1, List.take_left]; exact Reps.mono ext_drew _ (MuLe.refl _) hcat)
     (fun v hv => by
      simp only [List.mem_append] at hv
      rcases hv with (hv | hv) | hv
      ·exact h9 v (List.mem_of_mem_take hv)
      ·exact h1 v hv
      ·exact A.one _ v hv)
     (by rw [List.length_append]; exact hge) (by omega)
     (by rw [List.length_append, List.length_append, List.length_take, hvl, size_zero A, Nat.min_eq_left (by omega), ← Nat.add_mul, ← Nat.add_mul]; congr 1; omega)
    refine ⟨_, _, .slice (some ⟨w.heap.size, 0, none⟩) (es.length + xs.length) (grownCap w (es.length + xs.length) cap e), ?_, m1, ?_⟩
    ·rw [hr0, arr_app, List.append_toArray, ← arr_app]
    ·unfold Rep; exact ⟨_, Mu.set_same _ _ _, by simp [lenSl], by simp only [lenSl, List.length_append]; omega, by simp [subSl]⟩
end
end Go.Av

/-
 AV: append, and texts from and to bytes.
-/
set_option linter.unusedSimpArgs false
set_option linter.unusedVariables false
namespace Go.Av
section
variable {G : Cx} {C : CellSet} {w : World} {mu : Mu} {H : List HO} {E : List AV} {a : Act} {T : List TY}

theorem appTy (C : CellSet) (w : World) (hT : TOk G.P T) {t e : TypeId} {y : TY} {esz by' : Nat} {ag : Bool} (hy : T[t]? = some y) (hs : y.k = .slice e esz by' ag) (hp : 1 ≤ esz) {z : AV} {ye : TY} (hye : T[e]? = some ye) (hzc : z.cells = ye.zero)
  (hl : z.cells.length = esz) (hsc : z.cells.all scalB = true) : ∃ zv i, AppTy G.P t e esz by' zv i := by
 obtain ⟨hu, hsz, hby, _⟩ := hT.slice hy hs
 have hrs := run_sizeOf (P := G.P) (w := w) hsz hp
 obtain ⟨i, d, hi, hd, hyy⟩ := hT.facts hye
 have hisz : i.size = esz := by simp [sizeOf, typeInfo, hi] at hrs; exact hrs
 have hiby : i.bytes = by' := by unfold Program.bytesOf at hby; simpa [hi] using hby
 obtain ⟨zv, hz1, hz2⟩ := zero_reps (C := C) (w := w) (mu := Mu.none) hT hye (by rw [← hzc, hl, hyy]; exact hisz.symm) (by rw [hyy]; simp only [hisz]; exact hp)
 rw [← hzc] at hz2
 have hzl : zv.cells.size = esz := by have := reps_len _ hz2; simpa [hl] using this
 have hiz : i.zero = some zv := by
  cases hz : i.zero with
  | none => simp [zeroValue, typeInfo, hi, hz] at hz1
  | some z' => simp [zeroValue, typeInfo, hi, hz] at hz1; rw [hz1]
 exact ⟨zv, i, hu, hi, hiz, hisz, hiby, hzl, hp, fun n => zeroCells_one hz2 hsc n (by omega)⟩

theorem append_nn {t ty e : TypeId} {by' : Nat} {i : TypeInfo} (hu : G.P.underlying t = some (.slice e)) (hi : G.P.info? e = some i) (b : Option Addr) (n c : Nat) (hn : n ≤ c) :
  (Builtin.append_ #[t, t] ty #[.slice b n c, .slice none 0 0]).run G.P w = .ok (.slice b n c) w := by
 cases b <;> simp [Builtin.append_, run_underlying hu, sizeOf, typeInfo, hi, Builtin.lenOf, Builtin.firstCells, loadCells, loadCellsFrom, hn, storeCells]

theorem append_ok {al : Option Nat} (hT : TOk G.P T) (h : StC G C mu E H a w) {t t' ty : TypeId} {s x : Operand} {K : AV → KK} (hk : appendK al T E H t t' s x K) :
  EffOk G a w K (Builtin.append_ #[t, t'] ty #[a.eval s, a.eval x]) := by
 unfold appendK at hk
 split at hk
 ·rename_i htt
  obtain rfl := Nat.eq_of_beq_eq_true htt
  replace hk := (lkK_iff _ _ _).1 hk; obtain ⟨y, hy, hk⟩ := hk
  split at hk
  ·rename_i e esz by' ag hs
   split at hk
   ·rename_i hp
    simp only [Bool.and_eq_true] at hp
    have hby1 := Nat.le_of_ble_eq_true hp.2
    have hp := Nat.le_of_ble_eq_true hp.1
    have hfit : ∀ n, n * by' ≤ 140737488355328 → n ≤ 9223372036854775807 := fun n hn => by
     have := Nat.le_mul_of_pos_right n (show 0 < by' by omega)
     omega
    rw [evK_iff, evK_iff] at hk
    have hsr := rep_ev h.env s
    have hxr := rep_ev h.env x
    obtain ⟨hu, hsz, hby, _⟩ := hT.slice hy hs
    obtain ⟨i, d, hi, hd, hisz⟩ : ∃ i d, G.P.info? e = some i ∧ G.P.underlying e = some d ∧ i.size = esz := by
     obtain ⟨n, rfl⟩ : ∃ n, esz = n + 1 := ⟨esz - 1, by omega⟩
     exact szOf_pos hsz
    split at hk
    ·rename_i hxe
     rw [hxe] at hxr
     have hxv : a.eval x = .slice none 0 0 := by unfold Rep at hxr; exact hxr
     split at hk
     ·rename_i l sz lo n hse
      have hsr' := hsr
      rw [hse] at hsr'
      have hsr'' := hsr'
      replace hk := (lkK_iff _ _ _).1 hk; obtain ⟨ob, hob, hk⟩ := hk
      cases ob with
      | cells _ => exact hk.elim
      | dead => exact hk.elim
      | ghost _ _ _ => exact hk.elim
      | inv _ => exact hk.elim
      | arr e0 sz0 es0 =>
       simp only at hk
       unfold Rep at hsr'
       obtain ⟨v, hm, hle, hmx, hv⟩ := hsr'
       refine ⟨_, a.eval s, _, _, C, mu, w, hk, ?_, h, hsr''⟩
       rw [hxv, hv]
       obtain ⟨_, h2⟩ := h.heap.arrs l _ _ _ hob
       rcases h2 with ⟨h2, _⟩ | ⟨b, cap, cur, h3, h4, h5, _⟩
       ·rw [hm] at h2
        simp only [Option.some.injEq, GO.arr.injEq] at h2
        subst h2
        exact append_nn (by' := by') hu hi none 0 0 (Nat.le_refl _)
       ·rw [hm] at h3
        simp only [Option.some.injEq, GO.arr.injEq] at h3
        subst h3
        simp only [lenSl] at hle
        exact append_nn (by' := by') hu hi _ n (cap - lo) (by omega)
     ·rename_i hse
      rw [hse] at hsr
      have hsv : a.eval s = .slice none 0 0 := by unfold Rep at hsr; exact hsr
      refine ⟨_, .slice none 0 0, _, _, C, mu, w, hk, ?_, h, by unfold Rep; rfl⟩
      rw [hxv, hsv]
      exact append_nn (by' := by') hu hi none 0 0 (Nat.le_refl _)
     ·exact hk.elim
    ·obtain ⟨sz, xs, hk, hzz, hxs⟩ := elems_ok h hxr hk
     split at hk
     ·rename_i hse
      obtain rfl := Nat.eq_of_beq_eq_true hse
      split at hk
      ·rename_i hse
       rw [hse] at hsr
       have hsv : a.eval s = .slice none 0 0 := by unfold Rep at hsr; exact hsr
       obtain ⟨hb, hk⟩ := hk
       obtain ⟨z, ye, hye, hk, hzc⟩ := zeroK_ok hT hk
       rw [cellsK_iff] at hk
       split at hk
       ·rename_i hb2
        simp only [Bool.and_eq_true] at hb2
        obtain ⟨zv, i', A⟩ := appTy C w hT hy hs hp hye hzc (Nat.eq_of_beq_eq_true hb2.1) hb2.2
        obtain ⟨H', nn, hal, hk⟩ := alK_al hk
        obtain ⟨mu', w', v, h1, h2, h3⟩ := app_nil (ty := ty) h A hal hzz hxs hb (hfit _ hb)
        exact ⟨_, v, _, _, C, mu', w', hk, by rw [hsv]; exact h1, h2, h3⟩
       ·exact hk.elim
      ·rename_i l sz' lo n hse
       replace hk := (lkK_iff _ _ _).1 hk; obtain ⟨ob, hob, hk⟩ := hk
       cases ob with
       | cells _ => exact hk.elim
       | dead => exact hk.elim
       | ghost _ _ _ => exact hk.elim
       | inv _ => exact hk.elim
       | arr e' sz'' es =>
        simp only at hk
        split at hk
        ·rename_i hb1
         simp only [Bool.and_eq_true] at hb1
         obtain ⟨⟨⟨q1, q2⟩, q3⟩, q4⟩ := hb1
         obtain rfl := Nat.eq_of_beq_eq_true q1
         obtain rfl := Nat.eq_of_beq_eq_true q2
         obtain rfl := Nat.eq_of_beq_eq_true q3
         obtain rfl := Nat.eq_of_beq_eq_true q4
         obtain ⟨⟨rfl, hb⟩, hk⟩ := hk
         rw [hse] at hsr
         obtain ⟨z, ye, hye, hk, hzc⟩ := zeroK_ok hT hk
         rw [cellsK_iff] at hk
         split at hk
         ·rename_i hb2
          simp only [Bool.and_eq_true] at hb2
          obtain ⟨zv, i', A⟩ := appTy C w hT hy hs hp hye hzc (Nat.eq_of_beq_eq_true hb2.1) hb2.2
          rw [scrubK_iff, scrubHK_iff, updK_iff] at hk
          obtain ⟨mu', w', v, h1, h2, h3⟩ := app_own (ty := ty) h A hob hsr hzz hxs hb (hfit _ hb)
          exact ⟨_, v, _, _, C, mu', w', hk, h1, h2, h3⟩
         ·exact hk.elim
        ·exact hk.elim
      ·exact hk.elim
     ·exact hk.elim
   ·exact hk.elim
  ·exact hk.elim
 ·exact hk.elim
end
end Go.Av

/-
 AV: new blocks of others; texts from and to bytes.
-/
set_option linter.unusedSimpArgs false
set_option linter.unusedVariables false
namespace Go.Av
open Go.RowKit (Below)
section
variable {G : Cx} {C : CellSet} {w w' : World} {mu : Mu} {H : List HO} {E : List AV} {a : Act} {T : List TY}

def newC (C : CellSet) (n m : Nat) : CellSet := fun b o => C b o ∨ (n ≤ b ∧ b < m)
theorem ext_below (hlt : ∀ b o, C b o → b < w.heap.size) (hb : Below w.heap.size w w') : Ext C (newC C w.heap.size w'.heap.size) w w' :=
 ⟨fun _ _ h => .inl h, fun b o v hc hv => by rw [World.cell?_of_block]; exact hv; exact hb.block b (hlt b o hc)⟩
theorem Keep.below (h : Keep G w) (hb : Below w.heap.size w w') : Keep G w' :=
 ⟨hb.os.trans h.os, hb.tape.trans h.tape, hb.output.trans h.output, Nat.le_trans h.size hb.size, fun k hk hm => (hb.block k (by have := h.size; omega)).trans (h.block k hk hm)⟩
/-- Others have made blocks: these may be relied upon. -/
theorem StC.below (h : StC G C mu E H a w) (hb : Below w.heap.size w w') : StC G (newC C w.heap.size w'.heap.size) mu E H a w' := by
 have hx := ext_below h.lt hb
 have hs := hb.size
 refine ⟨fun b o hc => .inl (h.c0 b o hc), fun b o hc => ?_, fun b o hc => ?_, ⟨h.heap.dom, fun l g b hm hg => ?_, h.heap.sep, h.heap.dead, fun l cs hl => ?_, fun l e sz es hl => ?_⟩, Reps.mono hx _ (MuLe.refl _) h.env, ?_, h.keep.below hb, h.pin⟩
 rotate_right
 ·obtain ⟨ms, k1, k2⟩ := h.defers
  exact ⟨ms, k1, k2.step ⟨hb.os, hb.tape, hb.output, hb.size, fun b hbb => hb.block b hbb.1⟩ (fun l g b hm hg => .inl ⟨l, g, hm, hg⟩)
   (fun b o hc => hc.imp id fun k => .inl k.1) (fun l cs vs ms hl => ⟨cs, hl, Reps.mono hx _ (MuLe.refl _)⟩) (fun _ _ h => h)⟩
 ·rcases hc with hc | hc
  ·exact h.c1 b o hc
  ·exact .inr (.inl (by have := h.keep.size; omega))
 ·rcases hc with hc | hc
  ·have := h.lt b o hc; omega
  ·exact hc.2
 ·obtain ⟨k1, k2, k3⟩ := h.heap.fresh l g b hm hg
  exact ⟨k1, by omega, fun o hc => hc.elim (k3 o) (fun hc => by omega)⟩
 ·obtain ⟨b, cur, e, h1, h2, h3, h4⟩ := h.heap.recs l cs hl
  exact ⟨b, cur, e, h1, (hb.block b (h.heap.fresh _ _ _ h1 rfl).2.1).trans h2, Reps.mono hx _ (MuLe.refl _) h3, h4⟩
 ·obtain ⟨h1, h2⟩ := h.heap.arrs l e sz es hl
  exact ⟨h1, h2.imp id fun ⟨b, cap, cur, k1, k2, k3, k4, k5, k6, k7⟩ => ⟨b, cap, cur, k1, (hb.block b (h.heap.fresh _ _ _ k1 rfl).2.1).trans k2, k3, k4, k5, Reps.mono hx _ (MuLe.refl _) k6, k7⟩⟩

theorem flat_bytes (l : List UInt8) : flat (l.map fun b => AV.int .u8 b.toNat) = l.map fun b => AV.int .u8 b.toNat := by
 induction l with
 | nil => rfl
 | cons b l ih =>
  have e1 : flat ((b :: l).map fun b => AV.int .u8 b.toNat) = AV.int .u8 b.toNat :: flat (l.map fun b => AV.int .u8 b.toNat) := by simp [flat, AV.cells]
  rw [e1, ih]; rfl
theorem rows_bytes {sz : Nat} (hsz : sz = 1) {cells : List Value} : ∀ (l : List UInt8) (b o : Nat), (∀ i (h : i < l.length), Cl C w b (o + i) (.int .u8 (l[i]).toNat)) → Rows C w sz (l.map fun b => .int .u8 b.toNat) b o
 | [], _, _, _ => by simp only [List.map_nil]; unfold Rows; trivial
 | x :: l, b, o, h => by
  subst hsz
  simp only [List.map_cons]
  unfold Rows
  refine ⟨rfl, ⟨_, rfl, by simpa using h 0 (by simp), by unfold Rep; exact ⟨rfl, inKu8.2 ⟨by omega, by have := x.toNat_lt; omega⟩⟩⟩, rows_bytes rfl (cells := cells) l b (o + 1) (fun i hi => ?_)⟩
  have := h (i + 1) (by simpa using hi)
  rw [show o + 1 + i = o + (i + 1) by omega]
  simpa using this
theorem freeze_spec (w : World) (b n : Nat) (cur : Array Value) (e : TypeId) (h : w.heap[b]? = some (.cells cur e (0, 0))) :
  (w.freeze ⟨b, n, none⟩ 1).heap[b]? = some (.cells cur e (n, n + 1)) ∧ (∀ k, k ≠ b → (w.freeze ⟨b, n, none⟩ 1).heap[k]? = w.heap[k]?) ∧ (w.freeze ⟨b, n, none⟩ 1).heap.size = w.heap.size := by
 have hb : b < w.heap.size := (Array.getElem?_eq_some_iff.1 h).1
 refine ⟨?_, fun k hk => ?_, ?_⟩
 ·simp [World.freeze, Array.getElem?_modify, h]
 ·simp only [World.freeze, Nat.one_ne_zero, if_false]
  rw [Array.getElem?_modify, if_neg (fun e => hk e.symm)]
 ·simp [World.freeze]
theorem reps_bytes : ∀ (l : List UInt8) {mu : Mu} {vs : List Value}, Reps C w (l.map fun b => AV.int .u8 b.toNat) mu vs → vs = l.map fun b => Value.int .u8 b.toNat
 | [], _, _, h => by simpa [Reps] using h
 | b :: l, _, _, h => by
  simp only [List.map_cons] at h ⊢
  unfold Reps at h
  obtain ⟨v, vs', rfl, h2, h3⟩ := h
  rw [(rep_int_inv h2).1, reps_bytes l h3]
theorem bytes_ok (hT : TOk G.P T) (h : StC G C mu E H a w) {s d : TypeId} {x : Operand} {K : AV → KK} (hk : bytesK T E H s d x K) : EffOk G a w K (convert s d (a.eval x)) := by
 unfold bytesK at hk
 replace hk := (lkK_iff _ _ _).1 hk; obtain ⟨ys, hys, hk⟩ := hk
 replace hk := (lkK_iff _ _ _).1 hk; obtain ⟨yd, hyd, hk⟩ := hk
 rw [evK_iff] at hk
 have hxr := rep_ev h.env x
 split at hk
 ·rename_i e esz by' ag h1 h2
  have hus := hT.string hys h1
  obtain ⟨hud, hsz, hby, _⟩ := hT.slice hyd h2
  split at hk
  ·rename_i l hxe
   rw [hxe] at hxr
   obtain ⟨hxv, hll⟩ := rep_str_inv hxr
   split at hk
   ·rename_i hb
    obtain rfl := Nat.eq_of_beq_eq_true hb
    replace hk := (lkK_iff _ _ _).1 hk; obtain ⟨ye, hye, hk⟩ := hk
    split at hk
    ·rename_i hke
     have hue := hT.int hye hke
     rw [hxv]
     -- the run
     obtain ⟨w1, cap, hch, hbl, hcap, hsz1, hcm⟩ : ∃ w1 cap, (choose (.appendCap l.length 0 e)).run G.P w = .ok cap w1 ∧ Below w.heap.size w w1 ∧ (l.length ≤ cap ∨ l.length = 0) ∧ w1.heap.size = w.heap.size ∧ cap ≤ 9223372036854775807 := by
      rw [run_choose]
      split
      ·rename_i hf
       refine ⟨w, 0, rfl, Below.refl _ _, ?_, rfl, by omega⟩
       simp [Question.forced] at hf
      ·refine ⟨w.drew, _, rfl, (Below.refl _ _).drew, .inl ?_, rfl, ?_⟩
       ·exact grownCap_ge w l.length 0 e
       ·exact Nat.le_trans (grownCap_le_maxLen w l.length 0 e (by simp only [maxLen]; omega)) (by simp [maxLen])
     have hcap' : l.length ≤ cap := by omega
     obtain ⟨cur, hcd⟩ : ∃ c : Array Value, (l.toArray.map fun b => Value.int .u8 b.toNat) ++ Array.replicate (cap - l.length) (.int .u8 0) = c := ⟨_, rfl⟩
     have hcur : cur.size = cap := by rw [← hcd]; simp; omega
     obtain ⟨w2, hw2d⟩ : ∃ w2, (w1.alloc (.cells cur e)).freeze ⟨w1.heap.size, cur.size, none⟩ 1 = w2 := ⟨_, rfl⟩
     have hal : (w1.alloc (.cells cur e)).heap[w1.heap.size]? = some (.cells cur e (0, 0)) := heap_alloc_new _ _
     obtain ⟨hw2, hw3, hw4⟩ := freeze_spec (w1.alloc (.cells cur e)) w1.heap.size cur.size cur e hal
     have hshape : (w1.alloc (.cells cur e)).shape? w1.heap.size = some (e, cur.size) := by unfold World.shape?; rw [hal]
     rw [hw2d] at hw2 hw3 hw4
     have hb2 : Below w.heap.size w w2 := by
      refine hbl.trans ⟨by rw [← hw2d]; rfl, by rw [← hw2d]; rfl, by rw [← hw2d]; rfl, ?_, fun k hk => ?_⟩
      ·show _ ≤ w2.heap.size
       rw [hw4]; simp
      ·show w2.heap[k]? = _
       rw [hw3 k (by omega), heap_alloc_old _ _ (by omega)]
     have hsz2 : w2.heap.size = w.heap.size + 1 := by rw [hw4]; simp [hsz1]
     have hst := h.below hb2
     refine ⟨_, .slice (some ⟨w1.heap.size, 0, none⟩) l.length cap, _, _, _, mu, w2, hk, ?_, hst, ?_⟩
     ·simp only [convert, Sem.run_bind, run_underlying hus, run_underlying hud, run_underlying hue, Result.andThen_ok, Conv.stringToBytes, size_of_list, hch]
      simp only [hcd, newRow, markStringish, Sem.run_bind, run_newObj, World.alloc_eq, Sem.run_pure, Result.andThen_ok, run_shape, hshape, run_freeze, hw2d]
     ·unfold Rep
      refine .inr ⟨w1.heap.size, 0, cap, by simp, by simpa using hcap', hcm, rows_bytes rfl (cells := []) l _ 0 (fun i hi => ⟨.inr ⟨by omega, by omega⟩, ?_⟩)⟩
      rw [Nat.zero_add, cell_of_row w2 _ i cur e _ hw2]
      rw [← hcd]
      rw [Array.getElem?_append_left (by simpa using hi)]
      simp [hi]
    ·exact hk.elim
   ·exact hk.elim
  ·exact hk.elim
 ·rename_i e esz by' ag h1 h2
  have hud := hT.string hyd h2
  obtain ⟨hus, hsz, hby, _⟩ := hT.slice hys h1
  replace hk := elems_ok h hxr hk
  obtain ⟨sz, xs, hk, hzz, hxs⟩ := hk
  split at hk
  ·rename_i hb
   simp only [Bool.and_eq_true] at hb
   obtain rfl := Nat.eq_of_beq_eq_true hb.1
   obtain rfl := Nat.eq_of_beq_eq_true hb.2
   replace hk := (lkK_iff _ _ _).1 hk; obtain ⟨ye, hye, hk⟩ := hk
   split at hk
   ·rename_i hke
    have hue := hT.int hye hke
    obtain ⟨l, ⟨rfl, hll⟩, hk⟩ := hk
    refine ⟨_, .string ⟨l.toArray⟩, _, _, C, mu, w, hk, ?_, h, rep_str hll⟩
    rcases hxs with ⟨hv, hx⟩ | ⟨ad, c, vs, hv, hvl, hr, hcell, h1⟩
    ·simp only [List.map_eq_nil_iff] at hx
     subst hx
     rw [hv, run_convert_bytes_nil w s e hus hue 0 0 d hud]; rfl
    ·rw [flat_bytes] at hr
     have hvs := reps_bytes l hr
     subst hvs
     have hsp : ad.spot = none ∨ l = [] := by
      cases l with
      | nil => exact .inr rfl
      | cons b l =>
       left
       have := hcell 0 _ rfl
       simp only [Addr.add, if_true] at this
       unfold World.cell? at this
       split at this
       ·split at this
        ·cases this
        ·rename_i hsp; simpa using hsp
       ·cases this
     rw [hv]
     rw [run_convert_bytes_string w s d e _ _ c hus hue hud, run_bytesToString w ad _ c (l.map fun b => (b.toNat : Int)) (by
      have := run_loadCells_list (P := G.P) w ad _ hcell
      simpa [List.map_map, Function.comp_def] using this), foldl_push_bytes]
     simp [ByteArray.empty, ByteArray.emptyWithCapacity, Function.comp_def]
     rfl
   ·exact hk.elim
  ·exact hk.elim
 ·exact hk.elim
end
end Go.Av

/-
 AV: an array of the call's own becomes one that stays as it is.
-/
set_option linter.unusedSimpArgs false
set_option linter.unusedVariables false
namespace Go.Av
open Go.RowKit (Below)
mutual
/-- What led to array l leads to a slice that stays as it is. -/
def frz (l sz : Nat) (es : List AV) : AV → AV
 | .own k sz' lo n => match Nat.beq k l with
  | true => (match Nat.beq sz' sz && Nat.beq lo 0 with | true => .sl sz es | false => .any)
  | false => .own k sz' lo n
 | .el k sz' i o => match Nat.beq k l with | true => .any | false => .el k sz' i o
 | .fn f cap => .fn f (frzs l sz es cap)
 | .mv f cap => .mv f (frzs l sz es cap)
 | .iface t x => .iface t (frz l sz es x)
 | .agg cs => .agg (frzs l sz es cs)
 | .tuple vs => .tuple (frzs l sz es vs)
 | a => a
def frzs (l sz : Nat) (es : List AV) : List AV → List AV
 | [] => []
 | a :: as => frz l sz es a :: frzs l sz es as
end
mutual
/-- It leads to the whole of array l, or not to it. -/
def frzP (l sz m : Nat) : AV → Prop → Prop
 | .own k sz' lo n, Q => match Nat.beq k l with
  | true => (match Nat.beq sz' sz && Nat.beq lo 0 with | true => n = m ∧ Q | false => Q)
  | false => Q
 | .fn f cap, Q => frzPs l sz m cap Q
 | .mv f cap, Q => frzPs l sz m cap Q
 | .iface t x, Q => frzP l sz m x Q
 | .agg cs, Q => frzPs l sz m cs Q
 | .tuple vs, Q => frzPs l sz m vs Q
 | _, Q => Q
def frzPs (l sz m : Nat) : List AV → Prop → Prop
 | [], Q => Q
 | a :: as, Q => frzP l sz m a (frzPs l sz m as Q)
end
def frzEK (l sz : Nat) (es : List AV) : List AV → (List AV → Prop) → Prop
 | [], K => K []
 | a :: as, K => frzP l sz es.length a ((frz l sz es a).force fun b => frzEK l sz es as fun bs => K (b :: bs))
def frzHK (l sz : Nat) (es : List AV) : List HO → (List HO → Prop) → Prop
 | [], K => K []
 | .cells cs :: r, K => frzEK l sz es cs fun cs => frzHK l sz es r fun r => K (.cells cs :: r)
 | .arr e s xs :: r, K => frzHK l sz es r fun r => K (.arr e s xs :: r)
 | .dead :: r, K => frzHK l sz es r fun r => K (.dead :: r)
 | .ghost cs vs ms :: r, K => frzEK l sz es cs fun cs => frzHK l sz es r fun r => K (.ghost cs vs ms :: r)
 | .inv I :: r, K => frzHK l sz es r fun r => K (.inv I :: r)
def frzK (l : Nat) (E : List AV) (H : List HO) (K : KK) : Prop :=
 lkK H l fun ob => match ob with
  | .arr e sz es => (∀ e ∈ es, closed e = true) ∧ frzEK l sz es E fun E => frzHK l sz es H fun H => updK H l .dead fun H => K E H
  | _ => False
section
variable {G : Cx} {C C2 : CellSet} {w : World} {mu : Mu} {H : List HO} {E : List AV} {a : Act} {l sz : Nat} {es : List AV}

mutual
theorem frz_rep (hx : Ext C C2 w w) (hl : ∀ b, mu l ≠ some (.blk b)) (hown : ∀ v, Rep C w (.own l sz 0 es.length) mu v → Rep C2 w (.sl sz es) Mu.none v) : ∀ (x : AV) {v : Value} {Q : Prop}, frzP l sz es.length x Q → Rep C w x mu v → Rep C2 w (frz l sz es x) (mu.set l none) v ∧ Q
 | .any, _, _, q, _ => ⟨by unfold frz Rep; trivial, by unfold frzP at q; exact q⟩
 | .int _ _, _, _, q, h => ⟨by unfold frz; unfold Rep at *; exact h, by unfold frzP at q; exact q⟩
 | .bool _, _, _, q, h => ⟨by unfold frz; unfold Rep at *; exact h, by unfold frzP at q; exact q⟩
 | .lit _, _, _, q, h => ⟨by unfold frz; unfold Rep at *; exact h, by unfold frzP at q; exact q⟩
 | .str _, _, _, q, h => ⟨by unfold frz; unfold Rep at *; exact h, by unfold frzP at q; exact q⟩
 | .sl _ _, _, _, q, h => ⟨by unfold frz; exact Rep.mono hx _ (MuLe.none _) (closed_rep _ rfl h), by unfold frzP at q; exact q⟩
 | .at_ _, _, _, q, h => ⟨by unfold frz; exact Rep.mono hx _ (MuLe.none _) (closed_rep _ rfl h), by unfold frzP at q; exact q⟩
 | .raw _, _, _, q, h => ⟨by unfold frz; unfold Rep at *; exact h, by unfold frzP at q; exact q⟩
 | .ptr k o, _, _, q, h => ⟨by
   unfold frz; unfold Rep at *
   obtain ⟨b, h1, h2⟩ := h
   refine ⟨b, ?_, h2⟩
   rw [Mu.set_ne]
   ·exact h1
   ·rintro rfl
    exact hl b h1, by unfold frzP at q; exact q⟩
 | .el k sz' i o, _, _, q, h => ⟨by
   unfold frz
   split
   ·unfold Rep; trivial
   ·rename_i hb
    unfold Rep at *
    obtain ⟨b, n, c, h1, h2⟩ := h
    refine ⟨b, n, c, ?_, h2⟩
    rw [Mu.set_ne _ _ (Nat.ne_of_beq_eq_false hb)]; exact h1, by unfold frzP at q; exact q⟩
 | .own k sz' lo n, _, _, q, h => by
   unfold frzP at q
   unfold frz
   cases hb : Nat.beq k l with
   | false =>
    rw [hb] at q
    refine ⟨?_, q⟩
    simp only
    unfold Rep at *
    obtain ⟨x, h1, h2⟩ := h
    refine ⟨x, ?_, h2⟩
    rw [Mu.set_ne _ _ (Nat.ne_of_beq_eq_false hb)]; exact h1
   | true =>
    rw [hb] at q
    obtain rfl := Nat.eq_of_beq_eq_true hb
    cases hc : Nat.beq sz' sz && Nat.beq lo 0 with
    | false => rw [hc] at q; exact ⟨by simp only; unfold Rep; trivial, q⟩
    | true =>
     rw [hc] at q
     simp only [Bool.and_eq_true] at hc
     obtain rfl := Nat.eq_of_beq_eq_true hc.1
     obtain rfl := Nat.eq_of_beq_eq_true hc.2
     obtain ⟨rfl, q⟩ := q
     exact ⟨Rep.mono (Ext.refl _ _) _ (MuLe.none _) (hown _ h), q⟩
 | .fn f cap, _, _, q, h => by
   unfold frzP at q
   unfold frz; unfold Rep at *
   obtain ⟨vs, h1, h2⟩ := h
   have := frzs_rep hx hl hown cap q h2
   exact ⟨⟨vs, h1, this.1⟩, this.2⟩
 | .mv f cap, _, _, q, h => by
   unfold frzP at q
   unfold frz; unfold Rep at *
   obtain ⟨vs, h1, h2⟩ := h
   have := frzs_rep hx hl hown cap q h2
   exact ⟨⟨vs, h1, this.1⟩, this.2⟩
 | .iface t x, _, _, q, h => by
   unfold frzP at q
   unfold frz; unfold Rep at *
   obtain ⟨vs, h1, h2⟩ := h
   have := frz_rep hx hl hown x q h2
   exact ⟨⟨vs, h1, this.1⟩, this.2⟩
 | .agg cs, _, _, q, h => by
   unfold frzP at q
   unfold frz; unfold Rep at *
   obtain ⟨vs, h1, h2⟩ := h
   have := frzs_rep hx hl hown cs q h2
   exact ⟨⟨vs, h1, this.1⟩, this.2⟩
 | .tuple cs, _, _, q, h => by
   unfold frzP at q
   unfold frz; unfold Rep at *
   obtain ⟨vs, h1, h2⟩ := h
   have := frzs_rep hx hl hown cs q h2
   exact ⟨⟨vs, h1, this.1⟩, this.2⟩
theorem frzs_rep (hx : Ext C C2 w w) (hl : ∀ b, mu l ≠ some (.blk b)) (hown : ∀ v, Rep C w (.own l sz 0 es.length) mu v → Rep C2 w (.sl sz es) Mu.none v) : ∀ (xs : List AV) {vs : List Value} {Q : Prop}, frzPs l sz es.length xs Q → Reps C w xs mu vs → Reps C2 w (frzs l sz es xs) (mu.set l none) vs ∧ Q
 | [], _, _, q, h => ⟨by unfold frzs; unfold Reps at *; exact h, by unfold frzPs at q; exact q⟩
 | x :: xs, _, _, q, h => by
  unfold frzPs at q
  unfold frzs; unfold Reps at *
  obtain ⟨v, vs', h1, h2, h3⟩ := h
  have k := frz_rep hx hl hown x q h2
  have k' := frzs_rep hx hl hown xs k.2 h3
  exact ⟨⟨v, vs', h1, k.1, k'.1⟩, k'.2⟩
end
/-- What an array holds, once its block stays as it is. -/
theorem rows_own {fr : Nat → Prop} (hh : HeapRel C w fr mu H) (hx : Ext C C2 w w) {l : Nat} (hB : ∀ g b o, mu l = some g → g.block? = some b → C2 b o) {e : TypeId} {sz : Nat} {es : List AV} (hl : H[l]? = some (.arr e sz es)) (hc : ∀ e ∈ es, closed e = true) {u : Value}
  (hu : Rep C w (.own l sz 0 es.length) mu u) : Rep C2 w (.sl sz es) Mu.none u := by
 unfold Rep at hu ⊢
 obtain ⟨x, hm, hle, hmx, rfl⟩ := hu
 obtain ⟨hz, h2⟩ := hh.arrs l e sz es hl
 rcases h2 with ⟨h2, rfl⟩ | ⟨b, cap, cur, h3, h4, h5, h6, h7, h8, h9⟩
 ·rw [hm] at h2
  simp only [Option.some.injEq, GO.arr.injEq] at h2
  subst h2
  exact .inl ⟨⟨_, rfl⟩, rfl⟩
 ·rw [hm] at h3
  simp only [Option.some.injEq, GO.arr.injEq] at h3
  subst h3
  obtain ⟨f1, f2, _⟩ := hh.fresh l _ b hm rfl
  refine .inr ⟨b, 0, cap, by simp [subSl], h5, h6, (rows_iff es 0).2 fun i hi => ⟨hz _ (List.getElem_mem hi), (cells_iff _ _).2 fun j hj => ?_⟩⟩
  have hei : es[i]? = some es[i] := List.getElem?_eq_getElem hi
  obtain ⟨r, hr⟩ := flat_drop es hz i _ hei
  have hri := (reps_iff _).1 h8
  have hsz := hz _ (List.getElem_mem hi)
  have hfl := flat_length es hz
  have hmul : (i + 1) * sz ≤ es.length * sz := Nat.mul_le_mul_right _ hi
  rw [Nat.add_mul] at hmul
  have hmul2 : es.length * sz ≤ cap * sz := Nat.mul_le_mul_right _ h5
  have hcl : cur.toList.length = cap * sz := by simpa using h7
  have hk : i * sz + j < (flat es).length := by omega
  have hk' : i * sz + j < (cur.toList.take (es.length * sz)).length := by rw [hri.1]; exact hk
  have hrep := hri.2 (i * sz + j) hk hk'
  have he1 : (flat es)[i * sz + j] = es[i].cells[j] := by
   have e1 : ((flat es).drop (i * sz))[j]? = (es[i].cells ++ r)[j]? := by rw [hr]
   rw [List.getElem?_drop, List.getElem?_eq_getElem hk, List.getElem?_append_left hj, List.getElem?_eq_getElem hj] at e1
   simpa using e1
  rw [he1] at hrep
  have hcc : closed es[i].cells[j] = true := by
   have := hc _ (List.getElem_mem hi)
   generalize es[i] = q at this hj ⊢
   cases q with
   | agg cs =>
    unfold closed at this
    have key : ∀ (cs : List AV), closeds cs = true → ∀ j (hj : j < cs.length), closed cs[j] = true := by
     intro cs
     induction cs with
     | nil => intro _ j hj; simp at hj
     | cons c cs ih =>
      intro h j hj
      unfold closeds at h
      simp only [Bool.and_eq_true] at h
      cases j with
      | zero => exact h.1
      | succ j => exact ih h.2 j (by simpa using hj)
    exact key cs this j hj
   | _ =>
    simp only [AV.cells, List.length_cons, List.length_nil] at hj
    obtain rfl : j = 0 := by omega
    exact this
  have hlt : i * sz + j < cur.toList.length := by omega
  have hge : (cur.toList.take (es.length * sz))[i * sz + j] = cur.toList[i * sz + j] := by simp
  refine ⟨cur.toList[i * sz + j], h9 _ (List.getElem_mem hlt), ⟨hB _ _ _ hm rfl, ?_⟩, ?_⟩
  ·rw [show 0 + i * sz + j = i * sz + j by omega, cell_of_row w b _ cur e _ h4]
   simp at hlt ⊢
  ·rw [hge] at hrep
   exact Rep.mono hx _ (MuLe.refl _) (closed_rep _ hcc hrep)


mutual
theorem frzP_iff {l sz m : Nat} : ∀ (x : AV) (Q : Prop), frzP l sz m x Q → frzP l sz m x True ∧ Q
 | .any, _, q => by unfold frzP at *; exact ⟨trivial, q⟩
 | .int _ _, _, q => by unfold frzP at *; exact ⟨trivial, q⟩
 | .bool _, _, q => by unfold frzP at *; exact ⟨trivial, q⟩
 | .lit _, _, q => by unfold frzP at *; exact ⟨trivial, q⟩
 | .str _, _, q => by unfold frzP at *; exact ⟨trivial, q⟩
 | .sl _ _, _, q => by unfold frzP at *; exact ⟨trivial, q⟩
 | .at_ _, _, q => by unfold frzP at *; exact ⟨trivial, q⟩
 | .raw _, _, q => by unfold frzP at *; exact ⟨trivial, q⟩
 | .ptr _ _, _, q => by unfold frzP at *; exact ⟨trivial, q⟩
 | .el _ _ _ _, _, q => by unfold frzP at *; exact ⟨trivial, q⟩
 | .own k s lo n, _, q => by
  unfold frzP at *
  split at q
  ·split at q
   ·exact ⟨⟨q.1, trivial⟩, q.2⟩
   ·exact ⟨trivial, q⟩
  ·exact ⟨trivial, q⟩
 | .fn f cap, _, q => by unfold frzP at *; exact frzPs_iff cap _ q
 | .mv f cap, _, q => by unfold frzP at *; exact frzPs_iff cap _ q
 | .iface t x, _, q => by unfold frzP at *; exact frzP_iff x _ q
 | .agg cs, _, q => by unfold frzP at *; exact frzPs_iff cs _ q
 | .tuple cs, _, q => by unfold frzP at *; exact frzPs_iff cs _ q
theorem frzPs_iff {l sz m : Nat} : ∀ (xs : List AV) (Q : Prop), frzPs l sz m xs Q → frzPs l sz m xs True ∧ Q
 | [], _, q => by unfold frzPs at *; exact ⟨trivial, q⟩
 | x :: xs, _, q => by
  unfold frzPs at *
  obtain ⟨q1, q2⟩ := frzP_iff x _ q
  obtain ⟨q3, q4⟩ := frzPs_iff xs _ q2
  refine ⟨?_, q4⟩
  exact frzP_mono x q1 (fun _ => q3)
theorem frzP_mono {l sz m : Nat} : ∀ (x : AV) {Q Q' : Prop}, frzP l sz m x Q → (Q → Q') → frzP l sz m x Q'
 | .any, _, _, q, h => by unfold frzP at *; exact h q
 | .int _ _, _, _, q, h => by unfold frzP at *; exact h q
 | .bool _, _, _, q, h => by unfold frzP at *; exact h q
 | .lit _, _, _, q, h => by unfold frzP at *; exact h q
 | .str _, _, _, q, h => by unfold frzP at *; exact h q
 | .sl _ _, _, _, q, h => by unfold frzP at *; exact h q
 | .at_ _, _, _, q, h => by unfold frzP at *; exact h q
 | .raw _, _, _, q, h => by unfold frzP at *; exact h q
 | .ptr _ _, _, _, q, h => by unfold frzP at *; exact h q
 | .el _ _ _ _, _, _, q, h => by unfold frzP at *; exact h q
 | .own k s lo n, _, _, q, h => by
  unfold frzP at *
  split at q
  ·split at q
   ·simp_all
   ·simp_all
  ·simp_all
 | .fn f cap, _, _, q, h => by unfold frzP at *; exact frzPs_mono cap q h
 | .mv f cap, _, _, q, h => by unfold frzP at *; exact frzPs_mono cap q h
 | .iface t x, _, _, q, h => by unfold frzP at *; exact frzP_mono x q h
 | .agg cs, _, _, q, h => by unfold frzP at *; exact frzPs_mono cs q h
 | .tuple cs, _, _, q, h => by unfold frzP at *; exact frzPs_mono cs q h
theorem frzPs_mono {l sz m : Nat} : ∀ (xs : List AV) {Q Q' : Prop}, frzPs l sz m xs Q → (Q → Q') → frzPs l sz m xs Q'
 | [], _, _, q, h => by unfold frzPs at *; exact h q
 | x :: xs, _, _, q, h => by
  unfold frzPs at *
  exact frzP_mono x q fun q => frzPs_mono xs q h
end
theorem frzEK_iff {l sz : Nat} {es : List AV} : ∀ (as : List AV) {K : List AV → Prop}, frzEK l sz es as K → frzPs l sz es.length as True ∧ K (frzs l sz es as)
 | [], K, h => ⟨by unfold frzPs; trivial, by unfold frzEK at h; unfold frzs; exact h⟩
 | a :: as, K, h => by
  unfold frzEK at h
  obtain ⟨h1, h2⟩ := frzP_iff a _ h
  rw [AV.force_iff] at h2
  obtain ⟨h3, h4⟩ := frzEK_iff as h2
  unfold frzPs frzs
  exact ⟨frzP_mono a h1 fun _ => h3, h4⟩
def frzH (l sz : Nat) (es : List AV) : HO → HO
 | .cells cs => .cells (frzs l sz es cs)
 | .ghost cs vs ms => .ghost (frzs l sz es cs) vs ms
 | o => o
theorem frzHK_iff {l sz : Nat} {es : List AV} : ∀ (H : List HO) {K : List HO → Prop}, frzHK l sz es H K → (∀ (i : Nat) cs, H[i]? = some (.cells cs) → frzPs l sz es.length cs True) ∧
   (∀ (i : Nat) cs vs ms, H[i]? = some (.ghost cs vs ms) → frzPs l sz es.length cs True) ∧ K (H.map (frzH l sz es))
 | [], K, h => ⟨fun i cs hi => by simp at hi, fun i cs vs ms hi => by simp at hi, h⟩
 | o :: r, K, h => by
  cases o with
  | cells cs0 =>
   unfold frzHK at h
   obtain ⟨h1, h2⟩ := frzEK_iff cs0 h
   obtain ⟨h3, h4, h5⟩ := frzHK_iff r h2
   refine ⟨fun i cs hi => ?_, fun i cs vs ms hi => ?_, h5⟩
   ·cases i with
    | zero => simp at hi; subst hi; exact h1
    | succ i => exact h3 i cs (by simpa using hi)
   ·cases i with
    | zero => simp at hi
    | succ i => exact h4 i cs vs ms (by simpa using hi)
  | ghost cs0 vs0 ms0 =>
   unfold frzHK at h
   obtain ⟨h1, h2⟩ := frzEK_iff cs0 h
   obtain ⟨h3, h4, h5⟩ := frzHK_iff r h2
   refine ⟨fun i cs hi => ?_, fun i cs vs ms hi => ?_, h5⟩
   ·cases i with
    | zero => simp at hi
    | succ i => exact h3 i cs (by simpa using hi)
   ·cases i with
    | zero => simp at hi; obtain ⟨rfl, _, _⟩ := hi; exact h1
    | succ i => exact h4 i cs vs ms (by simpa using hi)
  | arr e s xs =>
   unfold frzHK at h
   obtain ⟨h3, h4, h5⟩ := frzHK_iff r h
   refine ⟨fun i cs hi => ?_, fun i cs vs ms hi => ?_, h5⟩
   ·cases i with
    | zero => simp at hi
    | succ i => exact h3 i cs (by simpa using hi)
   ·cases i with
    | zero => simp at hi
    | succ i => exact h4 i cs vs ms (by simpa using hi)
  | dead =>
   unfold frzHK at h
   obtain ⟨h3, h4, h5⟩ := frzHK_iff r h
   refine ⟨fun i cs hi => ?_, fun i cs vs ms hi => ?_, h5⟩
   ·cases i with
    | zero => simp at hi
    | succ i => exact h3 i cs (by simpa using hi)
   ·cases i with
    | zero => simp at hi
    | succ i => exact h4 i cs vs ms (by simpa using hi)
  | inv I =>
   unfold frzHK at h
   obtain ⟨h3, h4, h5⟩ := frzHK_iff r h
   refine ⟨fun i cs hi => ?_, fun i cs vs ms hi => ?_, h5⟩
   ·cases i with
    | zero => simp at hi
    | succ i => exact h3 i cs (by simpa using hi)
   ·cases i with
    | zero => simp at hi
    | succ i => exact h4 i cs vs ms (by simpa using hi)

/-- An array of the call's own stays as it is from now on. -/
theorem StC.freeze (h : StC G C mu E H a w) {K : KK} (hk : frzK l E H K) : ∃ E' H' C' mu', K E' H' ∧ StC G C' mu' E' H' a w := by
 unfold frzK at hk
 replace hk := (lkK_iff _ _ _).1 hk; obtain ⟨ob, hob, hk⟩ := hk
 cases ob <;> first | exact hk.elim | skip
 rename_i e sz es
 obtain ⟨hcl, hk⟩ := hk
 obtain ⟨hE, hk⟩ := frzEK_iff E hk
 obtain ⟨hH1, hH2, hk⟩ := frzHK_iff H hk
 rw [updK_iff] at hk
 let C2 : CellSet := fun b o => C b o ∨ ∃ g, mu l = some g ∧ g.block? = some b
 have hx : Ext C C2 w w := ⟨fun _ _ h => .inl h, fun _ _ _ _ h => h⟩
 have hl : ∀ b, mu l ≠ some (.blk b) := fun b hb => by
  obtain ⟨_, k⟩ := h.heap.arrs l e sz es hob
  rcases k with ⟨k, _⟩ | ⟨_, _, _, k, _⟩
  ·rw [hb] at k; cases k
  ·rw [hb] at k; cases k
 have hown : ∀ v, Rep C w (.own l sz 0 es.length) mu v → Rep C2 w (.sl sz es) Mu.none v := fun v hv =>
  rows_own h.heap hx (fun g b o hm hb => .inr ⟨g, hm, hb⟩) hob hcl hv
 have hbm : ∀ i b, mu i = some (.blk b) → (mu.set l none) i = some (.blk b) := fun i b hi => by
  rw [Mu.set_ne]
  ·exact hi
  ·rintro rfl; exact hl b hi
 have hnl : ∀ {i g}, (mu.set l none) i = some g → i ≠ l ∧ mu i = some g := fun {i g} hi => by
  have hne : i ≠ l := by rintro rfl; rw [Mu.set_same] at hi; cases hi
  rw [Mu.set_ne _ _ hne] at hi
  exact ⟨hne, hi⟩
 have hnB : ∀ {i g b}, i ≠ l → mu i = some g → g.block? = some b → ∀ o, ¬ C2 b o := fun {i g b} hne hi hg o hc => by
  rcases hc with hc | ⟨g', h1, h2⟩
  ·exact (h.heap.fresh i g b hi hg).2.2 o hc
  ·exact hne (h.heap.sep l g' b i g h1 h2 hi hg)
 have hget : ∀ {i : Nat} {ob : HO}, ((H.map (frzH l sz es)).set l .dead)[i]? = some ob → (i = l ∧ ob = .dead) ∨ (i ≠ l ∧ ∃ o, H[i]? = some o ∧ ob = frzH l sz es o) := fun {i ob} hi => by
  by_cases e : i = l
  ·subst e
   have hlt : i < H.length := (List.getElem?_eq_some_iff.1 hob).1
   rw [List.getElem?_set_self (by simpa using hlt)] at hi
   exact .inl ⟨rfl, by simpa using hi.symm⟩
  ·rw [List.getElem?_set_ne (fun e' => e e'.symm), List.getElem?_map] at hi
   cases ho : H[i]? with
   | none => simp [ho] at hi
   | some o => exact .inr ⟨e, o, rfl, by simpa [ho] using hi.symm⟩
 have hmd : ∀ {D : Nat × Obj}, MarkOK C w G.fresh mu D → MarkOK C2 w G.fresh (mu.set l none) D := fun {D} k =>
  ⟨k.at_, fun o hc => hc.elim (k.imm o) (fun ⟨g, h1, h2⟩ => k.own l g h1 h2), fun i g hi => k.own i g (hnl hi).2, k.fr⟩
 refine ⟨_, _, C2, mu.set l none, hk, fun b o hc => .inl (h.c0 b o hc), fun b o hc => ?_, fun b o hc => ?_, ⟨fun i g hi => ?_, fun i g b hi hg => ?_, fun i g b i' g' hi hg hi' hg' => ?_, fun i hi => ?_, fun i cs hi => ?_, fun i e' s' es' hi => ?_⟩, (frzs_rep hx hl hown E hE h.env).1, ?_, h.keep, by simpa using h.pin.1, fun i b hn hi => hbm i b (h.pin.2 i b hn hi)⟩
 ·rcases hc with hc | ⟨g, h1, h2⟩
  ·exact h.c1 b o hc
  ·exact .inr (h.heap.fresh l g b h1 h2).1
 ·rcases hc with hc | ⟨g, h1, h2⟩
  ·exact h.lt b o hc
  ·exact (h.heap.fresh l g b h1 h2).2.1
 ·simpa using h.heap.dom i g (hnl hi).2
 ·obtain ⟨k1, k2, k3⟩ := h.heap.fresh i g b (hnl hi).2 hg
  exact ⟨k1, k2, hnB (hnl hi).1 (hnl hi).2 hg⟩
 ·exact h.heap.sep i g b i' g' (hnl hi).2 hg (hnl hi').2 hg'
 ·rcases hget hi with ⟨rfl, _⟩ | ⟨hne, o, ho, he⟩
  ·exact Mu.set_same _ _ _
  ·rw [Mu.set_ne _ _ hne]
   cases o with
   | dead => exact h.heap.dead i ho
   | _ => simp [frzH] at he
 ·rcases hget hi with ⟨rfl, he⟩ | ⟨hne, o, ho, he⟩
  ·cases he
  ·cases o with
   | cells cs0 =>
    simp only [frzH, HO.cells.injEq] at he
    subst he
    obtain ⟨b, cur, e', k1, k2, k3, k4⟩ := h.heap.recs i cs0 ho
    exact ⟨b, cur, e', hbm i b k1, k2, (frzs_rep hx hl hown cs0 (hH1 i cs0 ho) k3).1, k4⟩
   | _ => simp [frzH] at he
 ·rcases hget hi with ⟨rfl, he⟩ | ⟨hne, o, ho, he⟩
  ·cases he
  ·cases o with
   | arr e0 s0 es0 =>
    simp only [frzH, HO.arr.injEq] at he
    obtain ⟨rfl, rfl, rfl⟩ := he
    obtain ⟨k0, k⟩ := h.heap.arrs i _ _ _ ho
    refine ⟨k0, ?_⟩
    rw [Mu.set_ne _ _ hne]
    exact k.imp id fun ⟨b, cap, cur, k1, k2, k3, k4, k5, k6, k7⟩ => ⟨b, cap, cur, k1, k2, k3, k4, k5, Reps.mono hx _ (blkMu_mono hbm) k6, k7⟩
   | _ => simp [frzH] at he
 ·obtain ⟨ms, d1, d2⟩ := h.defers
  refine ⟨ms, d1, ⟨fun i cs vs gm hi => ?_, fun i I hi => ?_, fun d hd => hmd (d2.marks d hd), d2.nd, fun i i' cs vs gm cs' vs' gm' hi hi' hne => ?_⟩⟩
  ·rcases hget hi with ⟨rfl, he⟩ | ⟨hne, o, ho, he⟩
   ·cases he
   ·cases o with
    | ghost cs0 vs0 ms0 =>
     simp only [frzH, HO.ghost.injEq] at he
     obtain ⟨rfl, rfl, rfl⟩ := he
     obtain ⟨k1, k2, k3⟩ := d2.ghosts i _ _ _ ho
     exact ⟨(frzs_rep hx hl hown cs0 (hH2 i _ _ _ ho) k1).1, k2, fun D hD => ⟨hmd (k3 D hD).1, (k3 D hD).2⟩⟩
    | _ => simp [frzH] at he
  ·rcases hget hi with ⟨rfl, he⟩ | ⟨hne, o, ho, he⟩
   ·cases he
   ·cases o with
    | inv I0 =>
     simp only [frzH, HO.inv.injEq] at he
     subst he
     obtain ⟨h0, Sw, Sr, f, k2, k3, k4⟩ := d2.invs i _ ho
     refine ⟨h0, Sw, Sr, ⟨f.fr, f.base, fun b o hc => ?_, fun i g b hi hg => f.ob i g b (hnl hi).2 hg, f.sub, f.lt, fun b hb i g hi => f.own b hb i g (hnl hi).2, fun b o hb hc => ?_⟩, k2, k3, fun i' cs vs gm hi' => ?_⟩
     ·rcases hc with hc | ⟨g, h1, h2⟩
      ·exact f.cb b o hc
      ·exact .inr (f.ob l g b h1 h2)
     ·rcases hc with hc | ⟨g, h1, h2⟩
      ·exact f.imm b o hb hc
      ·exact f.own b (f.sub b hb) l g h1 h2
     ·rcases hget hi' with ⟨rfl, he⟩ | ⟨hne, o, ho', he⟩
      ·cases he
      ·cases o with
       | ghost cs0 vs0 ms0 =>
        simp only [frzH, HO.ghost.injEq] at he
        obtain ⟨rfl, rfl, rfl⟩ := he
        exact k4 i' _ _ _ ho'
       | _ => simp [frzH] at he
    | _ => simp [frzH] at he
  ·rcases hget hi with ⟨rfl, he⟩ | ⟨_, o, ho, he⟩
   ·cases he
   ·rcases hget hi' with ⟨rfl, he'⟩ | ⟨_, o', ho', he'⟩
    ·cases he'
    ·cases o with
     | ghost cs0 vs0 ms0 =>
      cases o' with
      | ghost cs1 vs1 ms1 =>
       simp only [frzH, HO.ghost.injEq] at he he'
       obtain ⟨rfl, rfl, rfl⟩ := he
       obtain ⟨rfl, rfl, rfl⟩ := he'
       exact d2.sep i i' _ _ _ _ _ _ ho ho' hne
      | _ => simp [frzH] at he'
     | _ => simp [frzH] at he

/-- What is put into another's elements is first made to stay as it is. -/
def frzCsK : List AV → List AV → List HO → KK → Prop
 | [], E, H, K => K E H
 | v :: r, E, H, K => match v with
  | .own l _ _ _ => frzK l E H fun E H => frzCsK r E H K
  | _ => frzCsK r E H K
def frzVK (v : AV) (E : List AV) (H : List HO) (K : KK) : Prop :=
 match v with
 | .own l _ _ _ => frzK l E H K
 | .agg cs => frzCsK cs E H K
 | _ => K E H
def frzPartsK : List (Nat × Operand) → List AV → List HO → KK → Prop
 | [], E, H, K => K E H
 | (_, x) :: r, E, H, K => evK E x fun v => frzVK v E H fun E H => frzPartsK r E H K
theorem frzCs_ok : ∀ (cs : List AV) {C : CellSet} {mu : Mu} {E : List AV} {H : List HO} {K : KK}, StC G C mu E H a w → frzCsK cs E H K → ∃ E' H' C' mu', K E' H' ∧ StC G C' mu' E' H' a w
 | [], C, mu, E, H, K, h, hk => ⟨E, H, C, mu, hk, h⟩
 | v :: r, C, mu, E, H, K, h, hk => by
  unfold frzCsK at hk
  split at hk
  ·obtain ⟨E', H', C', mu', hk, h⟩ := h.freeze hk
   exact frzCs_ok r h hk
  ·exact frzCs_ok r h hk
theorem frzV_ok {v : AV} {K : KK} (h : StC G C mu E H a w) (hk : frzVK v E H K) : ∃ E' H' C' mu', K E' H' ∧ StC G C' mu' E' H' a w := by
 unfold frzVK at hk
 split at hk
 ·exact h.freeze hk
 ·exact frzCs_ok _ h hk
 ·exact ⟨E, H, C, mu, hk, h⟩
theorem frzParts_ok : ∀ (ps : List (Nat × Operand)) {C : CellSet} {mu : Mu} {E : List AV} {H : List HO} {K : KK}, StC G C mu E H a w → frzPartsK ps E H K → ∃ E' H' C' mu', K E' H' ∧ StC G C' mu' E' H' a w
 | [], C, mu, E, H, K, h, hk => ⟨E, H, C, mu, hk, h⟩
 | (i, x) :: r, C, mu, E, H, K, h, hk => by
  unfold frzPartsK at hk
  rw [evK_iff] at hk
  obtain ⟨E', H', C', mu', hk, h⟩ := frzV_ok h hk
  exact frzParts_ok r h hk
end
end Go.Av
