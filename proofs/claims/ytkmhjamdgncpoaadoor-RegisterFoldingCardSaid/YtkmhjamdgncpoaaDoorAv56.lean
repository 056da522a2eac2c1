/-
  AV: slices of texts that grow where they lie: their own values are known by name, what they hold is kept at place 0.
-/
import Derived.Test.YtkmhjamdgncpoaaDoorAv55
set_option linter.unusedSimpArgs false
set_option linter.unusedVariables false
set_option linter.unusedSectionVars false
namespace Go.Av
open Go.RowKit (Below)
/-- A slice's own value. -/
structure Sv where
  a : Option Addr
  n : Nat
  c : Nat
def Sv.v (s : Sv) : Value := .slice s.a s.n s.c
def Sv.nil : Sv := ⟨none, 0, 0⟩
abbrev Tok := List (Sv × List (List UInt8))
def strV (s : List UInt8) : Value := .string ⟨s.toArray⟩
/-- A growing slice: its block is the call's own, its first cells are the texts. -/
def TokE (e0 : TypeId) (Sw Sr : Nat → Prop) (w : World) (x : Sv × List (List UInt8)) : Prop :=
  (x.1 = .nil ∧ x.2 = []) ∨ ∃ b cap cur rest, x.1 = ⟨some ⟨b, 0, none⟩, x.2.length, cap⟩ ∧ Sw b ∧ Sr b ∧ w.heap[b]? = some (.cells cur e0 (0, 0)) ∧ cap ≤ 9223372036854775807 ∧ cur.size = cap ∧
    cur.toList = x.2.map strV ++ rest ∧ (∀ v ∈ cur.toList, v.oneCell' = true) ∧ ∀ s ∈ x.2, s.length ≤ 9223372036854775807
def Sv.blk (s : Sv) : Option Nat := s.a.map (·.block)
def TokJ (e0 : TypeId) (ts : Tok) (Sw Sr : Nat → Prop) (w : World) : Prop :=
  (∀ x ∈ ts, TokE e0 Sw Sr w x) ∧ ∀ (i j : Nat) x y, ts[i]? = some x → ts[j]? = some y → i ≠ j → ∀ b, x.1.blk = some b → y.1.blk ≠ some b
theorem TokE.same {e0 : TypeId} {Sw Sr : Nat → Prop} {w w' : World} {x : Sv × List (List UInt8)} (h : TokE e0 Sw Sr w x) (hs : ∀ b, Sr b → w'.heap[b]? = w.heap[b]?) : TokE e0 Sw Sr w' x := by
  rcases h with h | ⟨b, cap, cur, rest, h1, h2, h3, h4, h5⟩
  · exact .inl h
  · exact .inr ⟨b, cap, cur, rest, h1, h2, h3, by rw [hs b h3]; exact h4, h5⟩
def TokI (e0 : TypeId) (ts : Tok) : Inv where
  J := TokJ e0 ts
  stab := fun Sw Sr w w' h hs => ⟨fun x hx => (h.1 x hx).same hs.block, h.2⟩
  Cb := fun _ _ => True
  nb := 0
section
variable {G : Cx} {C C' : CellSet} {w w' : World} {mu : Mu} {H : List HO} {E : List AV} {a : Act} {T : List TY} {P : Program}
/-- What one's own state at place 0 may do. -/
theorem StC.owner (hst : StC G C mu E H a w) {I : Inv} (hob : H[0]? = some (.inv I)) : ∃ Sw Sr, Foot C w G.fresh mu I.Cb I.nb Sw Sr ∧ I.J Sw Sr w ∧
    ∀ (In : Inv) (w' : World) (Sw' Sr' : Nat → Prop), In.Cb = I.Cb → In.nb = I.nb → Same (fun b => b < w.heap.size ∧ ¬ Sw b) w w' → (∀ b, Sw' b → Sw b ∨ w.heap.size ≤ b) → (∀ b, Sr' b → Sr b ∨ w.heap.size ≤ b) → (∀ b, Sw' b → Sr' b) → (∀ b, Sr' b → b < w'.heap.size) →
      In.J Sw' Sr' w' → StC G C mu E (H.set 0 (.inv In)) a w' := by
  obtain ⟨ms, d1, d2⟩ := hst.defers
  obtain ⟨_, Sw, Sr, hf, hJ, hD1, hD2⟩ := d2.invs 0 I hob
  have h0 : 0 < H.length := (List.getElem?_eq_some_iff.1 hob).1
  refine ⟨Sw, Sr, hf, hJ, fun In w' Sw' Sr' eq1 eq2 q1 q2 q3 q4 q5 hIn => ?_⟩
  have hx : Ext C C w w' := Ext.of_block (fun _ _ h => h) fun b o hc => q1.block b ⟨hst.lt b o hc, fun hs => hf.imm b o hs hc⟩
  have hown : ∀ {i g b}, mu i = some g → g.block? = some b → w'.heap[b]? = w.heap[b]? := fun {i g b} hi hg => q1.block b ⟨(hst.heap.fresh i g b hi hg).2.1, fun hs => hf.own b (hf.sub b hs) i g hi hg⟩
  have get : ∀ {i ob'}, (H.set 0 (.inv In))[i]? = some ob' → (i = 0 ∧ ob' = .inv In) ∨ (H[i]? = some ob') := fun {i ob'} hi => by
    by_cases e : 0 = i
    · subst e; rw [List.getElem?_set_self h0] at hi; simp only [Option.some.injEq] at hi; exact .inl ⟨rfl, hi.symm⟩
    · rw [List.getElem?_set_ne e] at hi; exact .inr hi
  have hmark : ∀ D : Nat × Obj, ¬ Sr D.1 → MarkOK C w G.fresh mu D → MarkOK C w' G.fresh mu D := fun D hd m => by
    refine ⟨?_, m.imm, m.own, m.fr⟩
    rw [q1.block D.1 ⟨(Array.getElem?_eq_some_iff.1 m.at_).1, fun hs => hd (hf.sub D.1 hs)⟩]; exact m.at_
  have hsr : ∀ D : Nat × Obj, ¬ Sr D.1 → MarkOK C w G.fresh mu D → ¬ Sr' D.1 := fun D hd m hs => by
    rcases q3 D.1 hs with k | k
    · exact hd k
    · have := (Array.getElem?_eq_some_iff.1 m.at_).1; omega
  have gg : ∀ {i : Nat} {cs : List AV} {us : List Value} {ms' : List Nat}, (H.set 0 (.inv In))[i]? = some (.ghost cs us ms') → H[i]? = some (.ghost cs us ms') := fun {i cs us ms'} hi => by
    rcases get hi with ⟨_, h⟩ | h
    · cases h
    · exact h
  have hrest : (∀ D ∈ ms.map (fun D => (D, dfr)) ++ G.rds, ¬ Sr' D.1) ∧ ∀ (l : Nat) (cs : List AV) (vs : List Value) (ms' : List Nat), (H.set 0 (.inv In))[l]? = some (.ghost cs vs ms') → ∀ D ∈ ms', ¬ Sr' D :=
    ⟨fun D hd => hsr D (hD1 D hd) (d2.marks D hd), fun l cs vs ms' hl D hd => hsr (D, dfr) (hD2 l cs vs ms' (gg hl) D hd) ((d2.ghosts l cs vs ms' (gg hl)).2.2 D hd).1⟩
  refine ⟨hst.c0, hst.c1, fun b o hc => Nat.lt_of_lt_of_le (hst.lt b o hc) q1.size, ⟨fun i g hi => by simpa using hst.heap.dom i g hi, fun i g b hi hg => ?_, hst.heap.sep, fun i hi => ?_, fun i cs hi => ?_, fun i e sz es hi => ?_, fun i ks vs hi => ?_⟩,
    Reps.mono hx _ (MuLe.refl _) hst.env, ⟨ms, d1, fun i cs us ms' hi => ?_, fun i I' hi => ?_, fun d hd => hmark d (hD1 d hd) (d2.marks d hd), d2.nd, fun l l' cs vs ms cs' vs' ms' hl hl' hne => d2.sep l l' cs vs ms cs' vs' ms' (gg hl) (gg hl') hne⟩, ?_, by simpa using hst.pin.1, hst.pin.2⟩
  · obtain ⟨k1, k2, k3⟩ := hst.heap.fresh i g b hi hg
    exact ⟨k1, Nat.lt_of_lt_of_le k2 q1.size, k3⟩
  · rcases get hi with ⟨_, h⟩ | h
    · cases h
    · exact hst.heap.dead i h
  · rcases get hi with ⟨_, h⟩ | h
    · cases h
    · obtain ⟨b, cur, e, k1, k2, k3, k4⟩ := hst.heap.recs i cs h
      exact ⟨b, cur, e, k1, by rw [hown k1 rfl]; exact k2, Reps.mono hx _ (MuLe.refl _) k3, k4⟩
  · rcases get hi with ⟨_, h⟩ | h
    · cases h
    · obtain ⟨k0, k⟩ := hst.heap.arrs i e sz es h
      refine ⟨k0, k.imp id fun ⟨b, cap, cur, k1, k2, k3, k4, k5, k6, k7⟩ => ⟨b, cap, cur, k1, k2.of_eq (by rw [hown k1 rfl]), k3, k4, k5, Reps.mono hx _ (MuLe.refl _) k6, k7⟩⟩
  · rcases get hi with ⟨_, h⟩ | h
    · cases h
    · obtain ⟨b, es, cl, k1, k2, k3⟩ := hst.heap.maps i ks vs h
      exact ⟨b, es, cl, k1, by rw [hown k1 rfl]; exact k2, k3⟩
  · rcases get hi with ⟨_, h⟩ | h
    · cases h
    · obtain ⟨k1, k3, k2⟩ := d2.ghosts i cs us ms' h
      exact ⟨Reps.mono hx _ (MuLe.refl _) k1, k3, fun d hd => ⟨hmark (d, dfr) (hD2 i cs us ms' h d hd) (k2 d hd).1, (k2 d hd).2⟩⟩
  · have fin : ∀ I', I' = In → i = 0 → i = 0 ∧ ∃ Sw Sr, Foot C w' G.fresh mu I'.Cb I'.nb Sw Sr ∧ I'.J Sw Sr w' ∧ (∀ D ∈ ms.map (fun D => (D, dfr)) ++ G.rds, ¬ Sr D.1) ∧ ∀ (l : Nat) cs vs ms', (H.set 0 (.inv In))[l]? = some (.ghost cs vs ms') → ∀ D ∈ ms', ¬ Sr D := fun I' hI' h0' => by
      subst hI'
      refine ⟨h0', Sw', Sr', ⟨fun b hb => ?_, by rw [eq2]; exact Nat.le_trans hf.base q1.size, by rw [eq1, eq2]; exact hf.cb, by rw [eq2]; exact hf.ob, q4, q5, fun b hb i g hi hg => ?_, fun b o hb hc => ?_⟩, hIn, hrest⟩
      · rcases q2 b hb with k | k
        · exact hf.fr b k
        · exact .inl (Nat.le_trans hst.keep.size k)
      · obtain ⟨_, k2, k3⟩ := hst.heap.fresh i g b hi hg
        rcases q3 b hb with k | k
        · exact hf.own b k i g hi hg
        · omega
      · rcases q2 b hb with k | k
        · exact hf.imm b o k hc
        · have := hst.lt b o hc; omega
    rcases get hi with ⟨e, h⟩ | h
    · simp only [HO.inv.injEq] at h
      exact fin I' h e
    · have hi0 := (d2.invs i I' h).1
      subst hi0
      rw [List.getElem?_set_self h0] at hi
      simp only [Option.some.injEq, HO.inv.injEq] at hi
      exact fin I' hi.symm rfl
  · refine ⟨q1.os.trans hst.keep.os, q1.tape.trans hst.keep.tape, q1.output.trans hst.keep.output, Nat.le_trans hst.keep.size q1.size, fun k hk hm => ?_⟩
    rw [q1.block k ⟨Nat.lt_of_lt_of_le hk hst.keep.size, fun hs => ?_⟩]
    · exact hst.keep.block k hk hm
    · rcases hf.fr k hs with h | h
      · omega
      · exact hm h
/-! ### Append -/
theorem strV_one (s : List UInt8) : (strV s).oneCell' = true := rfl
theorem reps_strs : ∀ {ss : List (List UInt8)} {vs : List Value}, Reps C w (ss.map AV.str) (blkMu mu) vs → vs = ss.map strV ∧ ∀ s ∈ ss, s.length ≤ 9223372036854775807
  | [], vs, h => by
    simp only [List.map_nil] at h
    unfold Reps at h
    exact ⟨h, fun s hs => by cases hs⟩
  | s :: ss, vs, h => by
    simp only [List.map_cons] at h
    unfold Reps at h
    obtain ⟨v, vs', rfl, h1, h2⟩ := h
    unfold Rep at h1
    obtain ⟨rfl, h3⟩ := h1
    obtain ⟨rfl, h4⟩ := reps_strs h2
    exact ⟨rfl, fun x hx => by rcases List.mem_cons.1 hx with rfl | hx; exact h3; exact h4 x hx⟩
theorem flat_strs (ss : List (List UInt8)) : flat (ss.map AV.str) = ss.map AV.str := by
  unfold flat
  induction ss with
  | nil => rfl
  | cons s ss ih => rw [List.map_cons, List.flatMap_cons, ih]; rfl
theorem tok_sep_set {ts : Tok} {j : Nat} {y : Sv × List (List UInt8)} (h : ∀ (i j : Nat) x y, ts[i]? = some x → ts[j]? = some y → i ≠ j → ∀ b, x.1.blk = some b → y.1.blk ≠ some b)
    (hy : ∀ (i : Nat) x, ts[i]? = some x → i ≠ j → ∀ b, x.1.blk = some b → y.1.blk ≠ some b) : ∀ (i k : Nat) x z, (ts.set j y)[i]? = some x → (ts.set j y)[k]? = some z → i ≠ k → ∀ b, x.1.blk = some b → z.1.blk ≠ some b := by
  intro i k x z hi hk hne b hb
  have get : ∀ {i : Nat} {x}, (ts.set j y)[i]? = some x → (i = j ∧ x = y) ∨ (i ≠ j ∧ ts[i]? = some x) := fun {i x} hi => by
    by_cases e : i = j
    · subst e
      have hlt : i < ts.length := by have := (List.getElem?_eq_some_iff.1 hi).1; simpa using this
      rw [List.getElem?_set_self hlt] at hi
      simp only [Option.some.injEq] at hi
      exact .inl ⟨rfl, hi.symm⟩
    · rw [List.getElem?_set_ne (Ne.symm e)] at hi
      exact .inr ⟨e, hi⟩
  rcases get hi with ⟨e1, rfl⟩ | ⟨e1, k1⟩
  · rcases get hk with ⟨e2, rfl⟩ | ⟨e2, k2⟩
    · omega
    · exact fun hz => hy k z k2 e2 b hz hb
  · rcases get hk with ⟨e2, rfl⟩ | ⟨e2, k2⟩
    · exact hy i x k1 e1 b hb
    · exact h i k x z k1 k2 hne b hb
/-- A growing slice grows. -/
theorem tok_append {e0 : TypeId} {ts : Tok} (hst : StC G C mu E H a w) (hob : H[0]? = some (.inv (TokI e0 ts))) {t ty : TypeId} {by' : Nat} {z : Value} {i : TypeInfo} (A : AppTy G.P t e0 1 by' z i) {j : Nat} {s : Sv} {es ss : List (List UInt8)} (hj : ts[j]? = some (s, es))
    (h1 : 1 ≤ ss.length) {u : Value} (hu : ∃ ad c vs, u = .slice (some ad) ss.length c ∧ vs.length = ss.length * 1 ∧ Reps C w (ss.map AV.str) (blkMu mu) vs ∧ (∀ j v, vs[j]? = some v → w.cell? (ad.add j) = some v) ∧ ∀ v ∈ vs, v.oneCell' = true)
    (hb : (es.length + ss.length) * by' ≤ 140737488355328) (hm : es.length + ss.length ≤ 9223372036854775807) :
    ∃ (s' : Sv) (w' : World), (Builtin.append_ #[t, t] ty #[s.v, u]).run G.P w = .ok s'.v w' ∧ StC G C mu E (H.set 0 (.inv (TokI e0 (ts.set j (s', es ++ ss))))) a w' := by
  obtain ⟨Sw, Sr, hf, hJ, key⟩ := hst.owner hob
  obtain ⟨hJ1, hJ2⟩ : TokJ e0 ts Sw Sr w := hJ
  obtain ⟨ad, c, vs, rfl, hvl, hr, hcell, hone⟩ := hu
  obtain ⟨rfl, hlen⟩ := reps_strs hr
  have hmem : (s, es) ∈ ts := List.mem_of_getElem? hj
  have hjl : j < ts.length := (List.getElem?_eq_some_iff.1 hj).1
  have hent := hJ1 _ hmem
  unfold TokE at hent
  simp only at hent
  -- a new array
  have fresh : ∀ (w' : World) (cap : Nat) (rest : List Value), w' = w.drew.alloc (.cells ((es ++ ss).map strV ++ rest).toArray e0) → (es ++ ss).length + rest.length = cap → cap ≤ 9223372036854775807 → (∀ v ∈ rest, v.oneCell' = true) → (∀ x ∈ es, x.length ≤ 9223372036854775807) →
      StC G C mu E (H.set 0 (.inv (TokI e0 (ts.set j (⟨some ⟨w.heap.size, 0, none⟩, (es ++ ss).length, cap⟩, es ++ ss))))) a w' := by
    rintro w' cap rest rfl hc hcm hro hel
    have hold : ∀ b, b < w.heap.size → (w.drew.alloc (.cells ((es ++ ss).map strV ++ rest).toArray e0)).heap[b]? = w.heap[b]? := fun b hb => heap_alloc_old w.drew _ hb
    refine key _ _ (fun b => Sw b ∨ b = w.heap.size) (fun b => Sr b ∨ b = w.heap.size) rfl rfl ⟨rfl, rfl, rfl, by simp, fun b hb => hold b hb.1⟩ (fun b hb => hb.imp id fun h => by omega) (fun b hb => hb.imp id fun h => by omega) (fun b hb => hb.imp (hf.sub b) id)
      (fun b hb => by
        rcases hb with hb | hb
        · have := hf.lt b hb; simp; omega
        · simp; omega) ⟨fun x hx => ?_, tok_sep_set hJ2 fun i x hi hne b hb => ?_⟩
    · obtain ⟨k, hk⟩ := List.mem_iff_getElem?.1 hx
      by_cases e : k = j
      · subst e
        rw [List.getElem?_set_self hjl] at hk
        simp only [Option.some.injEq] at hk
        subst hk
        refine .inr ⟨w.heap.size, cap, _, rest, rfl, .inr rfl, .inr rfl, heap_alloc_new _ _, hcm, by simp only [List.size_toArray, List.length_append, List.length_map] at *; omega, rfl, fun v hv => ?_, fun x hx => ?_⟩
        · simp only [List.mem_append] at hv
          rcases hv with hv | hv
          · obtain ⟨y, _, rfl⟩ := List.mem_map.1 hv; rfl
          · exact hro v hv
        · rcases List.mem_append.1 hx with hx | hx
          · exact hel x hx
          · exact hlen x hx
      · rw [List.getElem?_set_ne (Ne.symm e)] at hk
        rcases hJ1 x (List.mem_of_getElem? hk) with h | ⟨b, cap', cur, rest', q1, q2, q3, q4, q5⟩
        · exact .inl h
        · exact .inr ⟨b, cap', cur, rest', q1, .inl q2, .inl q3, by rw [hold b (hf.lt b q3)]; exact q4, q5⟩
    · rcases hJ1 x (List.mem_of_getElem? hi) with ⟨h, _⟩ | ⟨b', cap', cur, rest', q1, q2, q3, q4, q5⟩
      · rw [h] at hb; cases hb
      · rw [q1] at hb
        simp only [Sv.blk, Option.map_some, Option.some.injEq] at hb
        subst hb
        have := hf.lt b' q3
        simp only [Sv.blk, Option.map_some, ne_eq, Option.some.injEq]
        omega
  rcases hent with ⟨rfl, rfl⟩ | ⟨b, cap, cur, rest, rfl, hSw, hSr, hblk, hcap, hsz, hcur, hc1, hel⟩
  · have hr0 := run_append_nil (P := G.P) w t ty e0 i z A.ht A.hi A.hz ad ss.length c (ss.map strV) (by rw [hvl, A.hs]) hcell (by omega) (by simp only [List.length_nil] at hm; omega) (by rw [A.hb]; simp only [List.length_nil, Nat.zero_add] at hb; omega)
    have hge := grownCap_ge w ss.length 0 e0
    have hle := grownCap_le_maxLen w ss.length 0 e0 (by simp only [maxLen, List.length_nil] at *; omega)
    simp only [maxLen] at hle
    refine ⟨_, _, ?_, fresh _ (grownCap w ss.length 0 e0) (Builtin.zeroCells z.cells (grownCap w ss.length 0 e0 - ss.length)).toList rfl (by rw [size_zero A]; simp only [List.nil_append]; omega) (by omega) (A.one _) (fun x hx => by cases hx)⟩
    show (Builtin.append_ #[t, t] ty #[.slice none 0 0, _]).run G.P w = _
    rw [hr0, arr_app]
    rfl
  · have hlc : es.length ≤ cap := by
      have := congrArg List.length hcur
      simp only [Array.length_toList, List.length_append, List.length_map] at this
      omega
    by_cases hroom : es.length + ss.length ≤ cap
    · have hr0 := run_append_room (P := G.P) w t ty e0 i A.ht A.hi b es.length cap cur hblk ad ss.length c (ss.map strV) (by rw [hvl, A.hs]) hcell hone hroom (by rw [A.hs, hvl]; omega)
      rw [A.hs] at hr0
      refine ⟨⟨some ⟨b, 0, none⟩, es.length + ss.length, cap⟩, _, hr0, ?_⟩
      have hnew : cur.toList.take (es.length * 1) ++ ss.map strV ++ cur.toList.drop (es.length * 1 + (ss.map strV).length) = (es ++ ss).map strV ++ rest.drop ss.length := by
        rw [hcur, Nat.mul_one, List.take_left' (by simp), List.map_append]
        congr 1
        rw [← List.drop_drop, List.drop_left' (by simp), List.length_map]
      have hrl : rest.length = cap - es.length := by
        have := congrArg List.length hcur
        simp only [Array.length_toList, List.length_append, List.length_map] at this
        omega
      rw [hnew]
      have hbs : b < w.heap.size := hf.lt b hSr
      refine key _ _ Sw Sr rfl rfl (same_setRow (fun h => h.2 hSw) _) (fun b hb => .inl hb) (fun b hb => .inl hb) hf.sub (fun b hb => by have := hf.lt b hb; simpa using this) ⟨fun x hx => ?_, tok_sep_set hJ2 fun i' x hi hne b' hb' => ?_⟩
      · obtain ⟨k, hk⟩ := List.mem_iff_getElem?.1 hx
        by_cases e : k = j
        · subst e
          rw [List.getElem?_set_self hjl] at hk
          simp only [Option.some.injEq] at hk
          subst hk
          refine .inr ⟨b, cap, _, rest.drop ss.length, by simp only [List.length_append], hSw, hSr, setRow_heap _ _ _ _ _ _ hblk, hcap, by simp only [List.size_toArray, List.length_append, List.length_map, List.length_drop]; omega, rfl, fun v hv => ?_, fun x hx => ?_⟩
          · simp only [List.mem_append] at hv
            rcases hv with hv | hv
            · obtain ⟨y, _, rfl⟩ := List.mem_map.1 hv; rfl
            · exact hc1 v (by rw [hcur]; exact List.mem_append_right _ (List.mem_of_mem_drop hv))
          · rcases List.mem_append.1 hx with hx | hx
            · exact hel x hx
            · exact hlen x hx
        · rw [List.getElem?_set_ne (Ne.symm e)] at hk
          rcases hJ1 x (List.mem_of_getElem? hk) with h | ⟨b', cap', cur', rest', q1, q2, q3, q4, q5⟩
          · exact .inl h
          · refine .inr ⟨b', cap', cur', rest', q1, q2, q3, ?_, q5⟩
            rw [setRow_other]
            · exact q4
            · intro eb
              subst eb
              exact hJ2 k j x _ hk hj e b' (by rw [q1]; rfl) rfl
      · exact hJ2 i' j x _ hi hj hne b' hb'
    · have hr0 := run_append_grow (P := G.P) w t ty e0 i z A.ht A.hi A.hz ⟨b, 0, none⟩ es.length cap (es.map strV) (by rw [List.length_map, A.hs]; omega)
        (fun k v hv => by
          rw [add_lit]
          refine (reads_row hblk) k v ?_
          rw [hcur, List.getElem?_append_left (by have := (List.getElem?_eq_some_iff.1 hv).1; exact this)]
          exact hv)
        ad ss.length c (ss.map strV) (by rw [hvl, A.hs]) hcell (by omega) (by omega) (growslice_fits (by omega) (by rw [A.hb]; exact hb))
      have hge := grownCap_ge w (es.length + ss.length) cap e0
      have hle := grownCap_le_maxLen w (es.length + ss.length) cap e0 (by simp only [maxLen]; omega)
      simp only [maxLen] at hle
      refine ⟨_, _, ?_, fresh _ (grownCap w (es.length + ss.length) cap e0) (Builtin.zeroCells z.cells (grownCap w (es.length + ss.length) cap e0 - (es.length + ss.length))).toList rfl (by rw [size_zero A, List.length_append]; omega) (by omega) (A.one _) hel⟩
      show (Builtin.append_ #[t, t] ty #[.slice _ _ _, _]).run G.P w = _
      rw [hr0, List.append_toArray, arr_app, ← List.map_append, List.length_append]
      rfl
end
end Go.Av
