/-
  AV: a call whose body is run in place: over the caller's own objects, the caller's frame kept beside them.
-/
import Derived.Test.YtkmhjamdgncpoaaDoorKf
set_option linter.unusedSimpArgs false
set_option linter.unusedVariables false
set_option linter.unusedSectionVars false
namespace Go.Av
open Go.RowKit (Below)
/-- The caller's frame, when the call is over. -/
def backK (n : Nat) (us : List Value) (ms : List Nat) (H : List HO) (Q : List AV → List HO → Prop) : Prop :=
  lkK H n fun ob => match ob with
    | .ghost E us' ms' => (us' = us ∧ ms' = ms) ∧ updK H n (.ghost [] [] []) fun H' => Q E H'
    | _ => False
def retI (T : List TY) (rs : List ResultVar) (n : Nat) (us : List Value) (ms : List Nat) (K : AV → KK) (E : List AV) (H : List HO) : Prop :=
  resK T E H rs fun vs => backK n us ms H fun E2 H2 => match vs with
    | [v] => K v E2 H2
    | vs => K (.tuple vs) E2 H2
section
variable {G : Cx} {C C' : CellSet} {w w' : World} {mu : Mu} {H : List HO} {E : List AV} {a : Act} {T : List TY} {P : Program}
theorem snoc_get {x : HO} {l : Nat} {y : HO} (h : (H ++ [x])[l]? = some y) : (l < H.length ∧ H[l]? = some y) ∨ (l = H.length ∧ y = x) := by
  rw [List.getElem?_append] at h
  split at h
  · rename_i hl; exact .inl ⟨hl, h⟩
  · rename_i hl
    have h2 : l - H.length = 0 := by
      have := (List.getElem?_eq_some_iff.1 h).1
      simp at this; omega
    rw [h2] at h
    simp only [List.getElem?_cons_zero, Option.some.injEq] at h
    exact .inr ⟨by omega, h.symm⟩
theorem heap_ghost {fr : Nat → Prop} (h : HeapRel C w fr mu H) (E0 : List AV) (us : List Value) (ms : List Nat) : HeapRel C w fr mu (H ++ [.ghost E0 us ms]) := by
  refine ⟨fun l g hl => by have := h.dom l g hl; simp; omega, h.fresh, h.sep, fun l hl => ?_, fun l cs hl => ?_, fun l e sz es hl => ?_, fun l ks vs hl => ?_⟩
  · rcases snoc_get hl with ⟨_, k⟩ | ⟨_, k⟩
    · exact h.dead l k
    · cases k
  · rcases snoc_get hl with ⟨_, k⟩ | ⟨_, k⟩
    · exact h.recs l cs k
    · cases k
  · rcases snoc_get hl with ⟨_, k⟩ | ⟨_, k⟩
    · exact h.arrs l e sz es k
    · cases k
  · rcases snoc_get hl with ⟨_, k⟩ | ⟨_, k⟩
    · exact h.maps l ks vs k
    · cases k
/-- The caller's frame goes beside its objects. -/
theorem xrel_push {fr : Nat → Prop} {ms : List Nat} {rds : List (Nat × Obj)} (h : XRel C w fr mu H (ms.map (fun D => (D, dfr)) ++ rds)) {E0 : List AV} {us : List Value} (hr : Reps C w E0 mu us) :
    XRel C w fr mu (H ++ [.ghost E0 us ms]) rds := by
  have hnd := h.nd
  rw [List.map_append, List.nodup_append] at hnd
  obtain ⟨n1, n2, n3⟩ := hnd
  have hms : (ms.map (fun D => (D, dfr))).map Prod.fst = ms := by rw [List.map_map]; exact List.map_id ms
  rw [hms] at n1 n3
  have hmem : ∀ D ∈ ms, (D, dfr) ∈ ms.map (fun D => (D, dfr)) ++ rds := fun D hD => List.mem_append_left _ (List.mem_map.2 ⟨D, hD, rfl⟩)
  have hfst : ∀ D, D ∉ (ms.map (fun D => (D, dfr)) ++ rds).map Prod.fst → D ∉ ms ∧ D ∉ rds.map Prod.fst := fun D hD => by
    rw [List.map_append, hms] at hD
    simp only [List.mem_append, not_or] at hD
    exact hD
  refine ⟨fun l cs vs ms' hl => ?_, fun l I hl => ?_, fun D hD => h.marks D (List.mem_append_right _ hD), n2, fun l l' cs vs ms1 cs' vs' ms2 hl hl' hne => ?_⟩
  · rcases snoc_get hl with ⟨_, k⟩ | ⟨_, k⟩
    · obtain ⟨q1, q2, q3⟩ := h.ghosts l cs vs ms' k
      exact ⟨q1, q2, fun D hD => ⟨(q3 D hD).1, (hfst D (q3 D hD).2).2⟩⟩
    · simp only [HO.ghost.injEq] at k
      obtain ⟨rfl, rfl, rfl⟩ := k
      exact ⟨hr, n1, fun D hD => ⟨h.marks _ (hmem D hD), fun hm => n3 D hD D hm rfl⟩⟩
  · rcases snoc_get hl with ⟨_, k⟩ | ⟨_, k⟩
    · obtain ⟨q1, Sw, Sr, q2, q3, q4, q5⟩ := h.invs l I k
      refine ⟨q1, Sw, Sr, q2, q3, fun D hD => q4 D (List.mem_append_right _ hD), fun l' cs vs ms' hl' D hD => ?_⟩
      rcases snoc_get hl' with ⟨_, k'⟩ | ⟨_, k'⟩
      · exact q5 l' cs vs ms' k' D hD
      · simp only [HO.ghost.injEq] at k'
        obtain ⟨rfl, rfl, rfl⟩ := k'
        exact q4 _ (hmem D hD)
    · cases k
  · intro D hD hD'
    rcases snoc_get hl with ⟨_, k⟩ | ⟨e, k⟩
    · rcases snoc_get hl' with ⟨_, k'⟩ | ⟨_, k'⟩
      · exact h.sep l l' cs vs ms1 cs' vs' ms2 k k' hne D hD hD'
      · simp only [HO.ghost.injEq] at k'
        obtain ⟨rfl, rfl, rfl⟩ := k'
        exact (hfst D ((h.ghosts l cs vs ms1 k).2.2 D hD).2).1 hD'
    · simp only [HO.ghost.injEq] at k
      obtain ⟨rfl, rfl, rfl⟩ := k
      rcases snoc_get hl' with ⟨_, k'⟩ | ⟨e', k'⟩
      · exact (hfst D ((h.ghosts l' cs' vs' ms2 k').2.2 D hD').2).1 hD
      · omega
/-- The frame is taken back. -/
theorem xrel_pop {fr : Nat → Prop} {ms : List Nat} {rds : List (Nat × Obj)} (h : XRel C w fr mu H rds) {n : Nat} {E0 : List AV} {us : List Value} (hn : H[n]? = some (.ghost E0 us ms)) :
    XRel C w fr mu (H.set n (.ghost [] [] [])) (ms.map (fun D => (D, dfr)) ++ rds) := by
  have hlt := (List.getElem?_eq_some_iff.1 hn).1
  obtain ⟨g1, g2, g3⟩ := h.ghosts n E0 us ms hn
  have hms : (ms.map (fun D => (D, dfr))).map Prod.fst = ms := by rw [List.map_map]; exact List.map_id ms
  have get : ∀ {l : Nat} {y : HO}, (H.set n (.ghost [] [] []))[l]? = some y → (l = n ∧ y = .ghost [] [] []) ∨ (l ≠ n ∧ H[l]? = some y) := fun {l y} hl => by
    by_cases e : l = n
    · subst e
      rw [List.getElem?_set_self hlt] at hl
      simp only [Option.some.injEq] at hl
      exact .inl ⟨rfl, hl.symm⟩
    · rw [List.getElem?_set_ne (Ne.symm e)] at hl
      exact .inr ⟨e, hl⟩
  refine ⟨fun l cs vs ms' hl => ?_, fun l I hl => ?_, fun D hD => ?_, ?_, fun l l' cs vs ms1 cs' vs' ms2 hl hl' hne => ?_⟩
  · rcases get hl with ⟨_, k⟩ | ⟨e, k⟩
    · simp only [HO.ghost.injEq] at k
      obtain ⟨rfl, rfl, rfl⟩ := k
      exact ⟨by unfold Reps; rfl, List.nodup_nil, fun D hD => by cases hD⟩
    · obtain ⟨q1, q2, q3⟩ := h.ghosts l cs vs ms' k
      refine ⟨q1, q2, fun D hD => ⟨(q3 D hD).1, ?_⟩⟩
      rw [List.map_append, hms, List.mem_append, not_or]
      exact ⟨fun hm => h.sep l n cs vs ms' E0 us ms k hn e D hD hm, (q3 D hD).2⟩
  · rcases get hl with ⟨_, k⟩ | ⟨e, k⟩
    · cases k
    · obtain ⟨q1, Sw, Sr, q2, q3, q4, q5⟩ := h.invs l I k
      refine ⟨q1, Sw, Sr, q2, q3, fun D hD => ?_, fun l' cs vs ms' hl' D hD => ?_⟩
      · rcases List.mem_append.1 hD with hD | hD
        · obtain ⟨D0, hD0, rfl⟩ := List.mem_map.1 hD
          exact q5 n E0 us ms hn D0 hD0
        · exact q4 D hD
      · rcases get hl' with ⟨_, k'⟩ | ⟨e', k'⟩
        · simp only [HO.ghost.injEq] at k'
          obtain ⟨rfl, rfl, rfl⟩ := k'
          cases hD
        · exact q5 l' cs vs ms' k' D hD
  · rcases List.mem_append.1 hD with hD | hD
    · obtain ⟨D0, hD0, rfl⟩ := List.mem_map.1 hD
      exact (g3 D0 hD0).1
    · exact h.marks D hD
  · rw [List.map_append, hms, List.nodup_append]
    exact ⟨g2, h.nd, fun D hD D' hD' e => (g3 D hD).2 (by rw [e]; exact hD')⟩
  · rcases get hl with ⟨_, k⟩ | ⟨_, k⟩
    · simp only [HO.ghost.injEq] at k
      obtain ⟨rfl, rfl, rfl⟩ := k
      intro D hD
      cases hD
    · rcases get hl' with ⟨_, k'⟩ | ⟨_, k'⟩
      · simp only [HO.ghost.injEq] at k'
        obtain ⟨rfl, rfl, rfl⟩ := k'
        intro D _ hD
        cases hD
      · exact h.sep l l' cs vs ms1 cs' vs' ms2 k k' hne
theorem heap_set_ghost {fr : Nat → Prop} (h : HeapRel C w fr mu H) {n : Nat} {E0 : List AV} {us : List Value} {ms : List Nat} (hn : H[n]? = some (.ghost E0 us ms)) : HeapRel C w fr mu (H.set n (.ghost [] [] [])) := by
  have hlt := (List.getElem?_eq_some_iff.1 hn).1
  have get : ∀ {l : Nat} {y : HO}, (H.set n (.ghost [] [] []))[l]? = some y → y = .ghost [] [] [] ∨ H[l]? = some y := fun {l y} hl => by
    by_cases e : l = n
    · subst e
      rw [List.getElem?_set_self hlt] at hl
      simp only [Option.some.injEq] at hl
      exact .inl hl.symm
    · rw [List.getElem?_set_ne (Ne.symm e)] at hl
      exact .inr hl
  refine ⟨fun l g hl => by have := h.dom l g hl; simpa using this, h.fresh, h.sep, fun l hl => ?_, fun l cs hl => ?_, fun l e sz es hl => ?_, fun l ks vs hl => ?_⟩
  · rcases get hl with k | k
    · cases k
    · exact h.dead l k
  · rcases get hl with k | k
    · cases k
    · exact h.recs l cs k
  · rcases get hl with k | k
    · cases k
    · exact h.arrs l e sz es k
  · rcases get hl with k | k
    · cases k
    · exact h.maps l ks vs k
theorem back_ok {n : Nat} {us : List Value} {ms : List Nat} {Q : List AV → List HO → Prop} (hk : backK n us ms H Q) : ∃ E2, H[n]? = some (.ghost E2 us ms) ∧ Q E2 (H.set n (.ghost [] [] [])) := by
  unfold backK at hk
  replace hk := (lkK_iff _ _ _).1 hk
  obtain ⟨ob, hob, hk⟩ := hk
  cases ob <;> first | exact hk.elim | skip
  rename_i E2 us' ms'
  obtain ⟨⟨rfl, rfl⟩, hk⟩ := hk
  rw [updK_iff] at hk
  exact ⟨E2, hob, hk⟩
/-- A call, its body run over the caller's own objects. -/
theorem ACall.inline {f : FuncId} {fn : Func} {c : Code} {args : List AV} {K : AV → KK} {X : XX} (hf : P.funcs[f]? = some fn) (hb : fn.body = some c) (hT : TOk P T) (hg : goodF P f = true)
    (h : ∀ (us : List Value) (ms : List Nat), enterK fn.ntmps args fun E1 => ACode P c E1 (H ++ [.ghost E us ms]) (retI T fn.results.toList H.length us ms K)
      (fun e E1 H1 => match e with | .ret => retI T fn.results.toList H.length us ms K E1 H1 | .panic x => backK H.length us ms H1 fun E2 H2 => X (.panic x) E2 H2 | _ => False)) : ACall P f args E H K X := by
  refine ⟨hg, fun G C mu a w vs hP hst hr => (callsIn_wide (n := 0)).1 (callsIn_of_wp_marks (F := Fence.wide) (n := 0) (by rw [← hP] at hf; rw [← hP]; exact hf) hb trivial ?_ rfl)⟩
  subst hP
  obtain ⟨ms, d1, d2⟩ := hst.defers
  replace h := h a.tmps.toList ms
  unfold enterK at h
  rw [repK_iff, appK_iff] at h
  let G' : Cx := { G with ds := [], rd := none, hrd := by intro l h; cases h }
  have hx := xrel_push d2 hst.env
  have hst' : St G' (args ++ List.replicate (fn.ntmps - args.length) (.raw undef)) (H ++ [.ghost E a.tmps.toList ms]) { tmps := vs.toArray ++ Array.replicate (fn.ntmps - vs.toArray.size) undef, defers := [] } w := by
    refine ⟨C, mu, hst.c0, hst.c1, hst.lt, heap_ghost hst.heap _ _ _, ?_, ⟨[], rfl, hx⟩, ⟨hst.keep.os, hst.keep.tape, hst.keep.output, hst.keep.size, hst.keep.block⟩, by have := hst.pin.1; simp only [List.length_append, List.length_cons, List.length_nil]; exact Nat.le_trans this (Nat.le_add_right _ _), hst.pin.2⟩
    have hl := reps_len _ hr
    have := reps_append hr (reps_replicate (C := C) (w := w) (mu := mu) (fn.ntmps - args.length))
    simpa [hl] using this
  have back : ∀ {C1 : CellSet} {mu1 : Mu} {E1 : List AV} {H1 : List HO} {a1 : Act} {w1 : World} {E2 : List AV}, StC G' C1 mu1 E1 H1 a1 w1 → H1[H.length]? = some (.ghost E2 a.tmps.toList ms) → StC G C1 mu1 E2 (H1.set H.length (.ghost [] [] [])) a w1 := fun {C1 mu1 E1 H1 a1 w1 E2} hs hgh => by
    obtain ⟨ms2, _, e2⟩ := hs.defers
    have e3 : XRel C1 w1 G.fresh mu1 H1 G.rds := XRel.less e2
    exact ⟨hs.c0, hs.c1, hs.lt, heap_set_ghost hs.heap hgh, (e3.ghosts _ _ _ _ hgh).1, ⟨ms, d1, xrel_pop e3 hgh⟩, ⟨hs.keep.os, hs.keep.tape, hs.keep.output, hs.keep.size, hs.keep.block⟩, by rw [List.length_set]; exact hs.pin.1, hs.pin.2⟩
  have fin : ∀ E1 H1 a1 w1, retI T fn.results.toList H.length a.tmps.toList ms K E1 H1 → St G' E1 H1 a1 w1 → LeavesInM (fw none) 0 G.P fn a1.tmps (fun e w' => (∃ r v E' H' C' mu', e = .returned v ∧ K r E' H' ∧ StC G C' mu' E' H' a w' ∧ Rep C' w' r mu' v) ∨
      (∃ x v E' H' C' mu', e = .panicked [{ v, recovered := false }] ∧ X (.panic x) E' H' ∧ StC G C' mu' E' H' a w' ∧ Rep C' w' x mu' v)) a1.defers .returning w1 := by
    rintro E1 H1 a1 w1 hk ⟨C1, mu1, hs⟩
    obtain ⟨ms2, e1, e2⟩ := hs.defers
    rw [show a1.defers = ms2.map mark by simpa [G'] using e1]
    refine leaves_gen (G := G') rfl (by simp) ms2 rfl hs e2 fun a2 w2 ha hs2 => ?_
    unfold retI at hk
    replace hk := res_ok (G := G') hT hs2 _ hk
    obtain ⟨xs, us, hk, hrr, hrun⟩ := hk
    replace hk := back_ok hk
    obtain ⟨E2, hgh, hk⟩ := hk
    have hm : (fn.results.mapM (resF a2.tmps)).run G.P w2 = .ok us.toArray w2 := by
      rw [Array.mapM_eq_mapM_toList]
      simp only [Sem.run_map, hrun, Result.andThen_ok, G']
    have hres : (results fn a1.tmps).run G.P w2 = .ok (if h : us.toArray.size = 1 then us.toArray[0] else .tuple us.toArray) w2 := by
      rw [← ha, results_eq, Sem.run_bind, hm]
      rfl
    have hs3 := back hs2 hgh
    unfold LeavesIn
    split at hk
    · rename_i x
      unfold Reps at hrr
      obtain ⟨u, us', rfl, hrr, hr'⟩ := hrr
      unfold Reps at hr'
      subst hr'
      exact ⟨u, by rw [hres]; simp, .inl ⟨x, u, E2, _, C1, mu1, rfl, hk, hs3, hrr⟩⟩
    · rename_i hne
      have hl : us.length ≠ 1 := fun e => by
        have := reps_len _ hrr
        rw [e] at this
        cases xs with
        | nil => simp at this
        | cons x xs =>
          cases xs with
          | nil => exact hne x rfl
          | cons _ _ => simp at this
      exact ⟨.tuple us.toArray, by rw [hres]; simp [hl], .inl ⟨_, .tuple us.toArray, E2, _, C1, mu1, rfl, hk, hs3, by unfold Rep; exact ⟨us, rfl, hrr⟩⟩⟩
  refine wpIn_mono (h.out 0 G' _ w rfl hst') fun e a1 w1 q => ?_
  cases e with
  | normal => obtain ⟨E1, H1, h1, h2⟩ := q; exact fin E1 H1 a1 w1 h1 h2
  | ret => obtain ⟨E1, H1, h1, h2⟩ := q; exact fin E1 H1 a1 w1 h1 h2
  | exit id => obtain ⟨E1, H1, h1, h2⟩ := q; exact h1.elim
  | goto l => exact q.elim
  | outgrown => exact q.elim
  | panic ch =>
    obtain ⟨x, v, E1, H1, C1, mu1, rfl, hk, hs, hx1⟩ := q
    obtain ⟨ms2, e1, e2⟩ := hs.defers
    show LeavesInM (fw none) 0 G.P fn a1.tmps _ a1.defers (.panicking [{ v, recovered := false }]) w1
    rw [show a1.defers = ms2.map mark by simpa [G'] using e1]
    have hs0 : StC G' C1 mu1 [x] H1 { tmps := #[v], defers := a1.defers } w1 := hs.frame (by unfold Reps; exact ⟨v, [], rfl, hx1, by unfold Reps; rfl⟩) rfl
    refine leaves_gen (G := G') (tm2 := #[v]) rfl (by simp) ms2 (a := { tmps := #[v], defers := a1.defers }) rfl hs0 e2 fun a2 w2 ha hs2 => ?_
    have hx' : Rep C1 w2 x mu1 v := by
      have := hs2.env
      rw [ha] at this
      unfold Reps at this
      obtain ⟨v', vs', he, k, _⟩ := this
      simp only [List.cons.injEq] at he
      obtain ⟨rfl, _⟩ := he
      exact k
    replace hk := back_ok hk
    obtain ⟨E2, hgh, hk⟩ := hk
    exact .inr ⟨x, v, E2, _, C1, mu1, rfl, hk, back hs2 hgh, hx'⟩
end
end Go.Av
