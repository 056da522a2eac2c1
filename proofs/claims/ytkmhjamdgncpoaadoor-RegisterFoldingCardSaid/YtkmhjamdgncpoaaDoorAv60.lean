/-
  AV: a call of a function on plain data that looks at an own array whose rows hold growing slices.
-/
import Derived.Test.YtkmhjamdgncpoaaDoorAv59
set_option linter.unusedSimpArgs false
set_option linter.unusedVariables false
set_option linter.unusedSectionVars false
namespace Go.Av
open Go.RowKit (Below)
section
variable {G : Cx} {C C2 : CellSet} {w : World} {mu : Mu} {H : List HO} {E : List AV} {a : Act} {T : List TY} {P : Program} {K : KK} {X : XX} {e0 : TypeId} {ts : Tok}
/-- An own array, seen as a plain slice. -/
def viewO (H : List HO) (ts : Tok) (x y : AV) : Prop := viewC ts x y ∨ ∃ l sz e rows rows', x = .own l sz 0 rows.length ∧ y = .sl sz rows' ∧ H[l]? = some (.arr e sz rows) ∧ viewRows ts rows rows'
def viewOs (H : List HO) (ts : Tok) : List AV → List AV → Prop
  | [], [] => True
  | x :: xs, y :: ys => viewO H ts x y ∧ viewOs H ts xs ys
  | _, _ => False
/-- Arguments: plain things, or pointers to variables that hold own arrays. -/
def viewP (H : List HO) (ts : Tok) (x y : AV) : Prop := viewX H ts x y ∨ ∃ l cs ds, x = .ptr l 0 ∧ y = .at_ ds ∧ H[l]? = some (.cells cs) ∧ viewOs H ts cs ds
def viewPs (H : List HO) (ts : Tok) : List AV → List AV → Prop
  | [], [] => True
  | x :: xs, y :: ys => viewP H ts x y ∧ viewPs H ts xs ys
  | _, _ => False
theorem viewO_ok (hst : StC G C mu E H a w) {Sw Sr : Nat → Prop} (hts : ∀ x ∈ ts, TokE e0 Sw Sr w x) (hS : ∀ b, Sr b → b < w.heap.size) {x y : AV} {u : Value} (h : viewO H ts x y) (hr : Rep C w x mu u) : Rep (wideC w) w y Mu.none u := by
  have hx : Ext C (wideC w) w w := .of_block (fun b o hc => hst.lt b o hc) fun _ _ _ => rfl
  rcases h with h | ⟨l, sz, e, rows, rows', rfl, rfl, hl, h⟩
  · exact viewC_ok hts (fun b hb _ => hS b hb) hx h hr
  · obtain ⟨hz, h2⟩ := hst.heap.arrs l e sz rows hl
    obtain ⟨m1, m2⟩ := viewRows_len h hz
    unfold Rep at hr ⊢
    obtain ⟨x, hm, hle, hmx, rfl⟩ := hr
    rcases h2 with ⟨h2, rfl⟩ | ⟨b, cap, cur, h3, ⟨fz, h4, hfz⟩, h5, h6, h7, h8, h9⟩
    · rw [hm] at h2
      simp only [Option.some.injEq, GO.arr.injEq] at h2
      subst h2
      exact .inl ⟨⟨_, rfl⟩, List.eq_nil_of_length_eq_zero m1⟩
    · rw [hm] at h3
      simp only [Option.some.injEq, GO.arr.injEq] at h3
      subst h3
      have h8' := viewRows_ok hts (fun b hb _ => hS b hb) hx h h8
      have f2 : b < w.heap.size := (Array.getElem?_eq_some_iff.1 h4).1
      refine .inr ⟨b, 0, cap, by simp [subSl, m1], by omega, h6, (rows_iff rows' 0).2 fun i hi => ⟨m2 _ (List.getElem_mem hi), (cells_iff _ _).2 fun j hj => ?_⟩⟩
      have hei : rows'[i]? = some rows'[i] := List.getElem?_eq_getElem hi
      obtain ⟨r, hr⟩ := flat_drop rows' m2 i _ hei
      have hri := (reps_iff _).1 h8'
      have hsz := m2 _ (List.getElem_mem hi)
      have hfl := flat_length rows' m2
      have hmul : (i + 1) * sz ≤ rows'.length * sz := Nat.mul_le_mul_right _ hi
      rw [Nat.add_mul] at hmul
      have hmul2 : rows.length * sz ≤ cap * sz := Nat.mul_le_mul_right _ h5
      have hmm : rows'.length * sz = rows.length * sz := by rw [m1]
      have hcl : cur.toList.length = cap * sz := by simpa using h7
      have hk : i * sz + j < (flat rows').length := by omega
      have hk' : i * sz + j < (cur.toList.take (rows.length * sz)).length := by rw [hri.1]; exact hk
      have hrep := hri.2 (i * sz + j) hk hk'
      have he1 : (flat rows')[i * sz + j] = rows'[i].cells[j] := by
        have e1 : ((flat rows').drop (i * sz))[j]? = (rows'[i].cells ++ r)[j]? := by rw [hr]
        rw [List.getElem?_drop, List.getElem?_eq_getElem hk, List.getElem?_append_left hj, List.getElem?_eq_getElem hj] at e1
        simpa using e1
      rw [he1, List.getElem_take] at hrep
      have hlt : i * sz + j < cur.toList.length := by omega
      have e5 : cur[i * sz + j]? = some cur.toList[i * sz + j] := by rw [← Array.getElem?_toList]; exact List.getElem?_eq_getElem hlt
      refine ⟨cur.toList[i * sz + j], h9 _ (List.getElem_mem _), ⟨f2, ?_⟩, hrep⟩
      rw [Nat.zero_add]
      simp [World.cell?, h4, e5]
theorem viewOs_ok (hst : StC G C mu E H a w) {Sw Sr : Nat → Prop} (hts : ∀ x ∈ ts, TokE e0 Sw Sr w x) (hS : ∀ b, Sr b → b < w.heap.size) : ∀ {xs ys : List AV} {us : List Value}, viewOs H ts xs ys → Reps C w xs mu us → Reps (wideC w) w ys Mu.none us
  | [], [], us, _, hr => by unfold Reps at *; exact hr
  | [], _ :: _, _, h, _ => h.elim
  | _ :: _, [], _, h, _ => h.elim
  | x :: xs, y :: ys, us, h, hr => by
    unfold Reps at hr ⊢
    obtain ⟨v, vs, rfl, h1, h2⟩ := hr
    exact ⟨v, vs, rfl, viewO_ok hst hts hS h.1 h1, viewOs_ok hst hts hS h.2 h2⟩
theorem viewPs_ok (hst : StC G C mu E H a w) {Sw Sr : Nat → Prop} (hts : ∀ x ∈ ts, TokE e0 Sw Sr w x) (hS : ∀ b, Sr b → b < w.heap.size) : ∀ {xs ys : List AV} {us : List Value}, viewPs H ts xs ys → Reps C w xs mu us → Reps (wideC w) w ys Mu.none us
  | [], [], us, _, hr => by unfold Reps at *; exact hr
  | [], _ :: _, _, h, _ => h.elim
  | _ :: _, [], _, h, _ => h.elim
  | x :: xs, y :: ys, us, h, hr => by
    unfold Reps at hr ⊢
    obtain ⟨v, vs, rfl, h1, h2⟩ := hr
    refine ⟨v, vs, rfl, ?_, viewPs_ok hst hts hS h.2 h2⟩
    rcases h.1 with k | ⟨l, cs, ds, rfl, rfl, hl, k⟩
    · have k2 : viewXs H ts [x] [y] := ⟨k, trivial⟩
      have := viewXs_ok hst hts hS k2 (us := [v]) (by unfold Reps; exact ⟨v, [], rfl, h1, by unfold Reps; rfl⟩)
      unfold Reps at this
      obtain ⟨v', vs', he, k3, _⟩ := this
      simp only [List.cons.injEq] at he
      obtain ⟨rfl, _⟩ := he
      exact k3
    · unfold Rep at h1
      obtain ⟨b, hm, rfl⟩ := h1
      obtain ⟨b', cur, e, k1, k2, k3, k4⟩ := hst.heap.recs l cs hl
      rw [hm] at k1
      simp only [Option.some.injEq, GO.blk.injEq] at k1
      subst k1
      have k5 := viewOs_ok hst hts hS k k3
      unfold Rep
      refine ⟨b, 0, rfl, (cells_iff _ _).2 fun i hi => ?_⟩
      have hlen := reps_len _ k5
      have hir := ((reps_iff _).1 k5).2 i hi (by omega)
      have hlt : b < w.heap.size := (Array.getElem?_eq_some_iff.1 k2).1
      refine ⟨cur.toList[i], k4 _ (List.getElem_mem _), ⟨hlt, ?_⟩, hir⟩
      rw [Nat.zero_add]
      have : cur[i]? = some cur.toList[i] := by rw [← Array.getElem?_toList]; exact List.getElem?_eq_getElem _
      simp [World.cell?, k2, this]
/-- A call of a function on plain data that looks at own arrays and growing slices; its result leads to no memory. -/
theorem ACall.of_tokP {f : FuncId} {as as' : List AV} {v : AV} {K : AV → KK} (hob : H[0]? = some (.inv (TokI e0 ts))) (hv : viewPs H ts as as') (hctr : Ctr P f as' (fun r => r = v)) (hm : memfree v = true) (hk : K v E H) : ACall P f as E H K X := by
  refine ⟨hctr.good, fun G C mu a w vs hP hst hr => ?_⟩
  obtain ⟨Sw, Sr, hf, hJ, key⟩ := hst.owner hob
  obtain ⟨hJ1, hJ2⟩ : TokJ e0 ts Sw Sr w := hJ
  refine (hctr.out (wideC w) w vs (wide_cok hst) (viewPs_ok hst hJ1 hf.lt hv hr)).mono fun e w' ⟨r, u, h1, h2, h3, h4⟩ => ?_
  subst h2
  exact .inl ⟨r, u, E, H, _, mu, h1, hk, hst.below h3, memfree_rep _ hm h4⟩
end
end Go.Av
