/-
  AV: slices.SortFunc at structs, of any length, by the library's law: the comparator's contract and its order are what is asked.
-/
import Derived.Test.YtiojkoaefabjbaaGreatDoorKf
import Derived.Test.YtiojkoaefabjbaaGreatDoorAvUp
import Derived.Shelf.SlSortCmp.NoneTotal
set_option linter.unusedSimpArgs false
set_option linter.unusedVariables false
namespace Go.Av
open Go.Proofs Go.Sort Go.Shelf
section
variable {P : Program} {C : CellSet} {w : World} {mu : Mu}

theorem reps_cut : ∀ (xs ys : List AV) {vs : List Value}, Reps C w (xs ++ ys) mu vs → ∃ us ws, vs = us ++ ws ∧ Reps C w xs mu us ∧ Reps C w ys mu ws
  | [], ys, vs, h => ⟨[], vs, rfl, by unfold Reps; rfl, h⟩
  | a :: xs, ys, vs, h => by
    rw [List.cons_append] at h
    unfold Reps at h
    obtain ⟨v, vs', rfl, h1, h2⟩ := h
    obtain ⟨us, ws, rfl, h3, h4⟩ := reps_cut xs ys h2
    exact ⟨v :: us, ws, rfl, by unfold Reps; exact ⟨v, us, rfl, h1, h3⟩, h4⟩

/-- An element with the values of its cells. -/
def SEl (C : CellSet) (w : World) {β : Type} (v : β → AV) (Ok : β → Prop) : Type := { p : β × List Value // Ok p.1 ∧ Reps C w (v p.1).cells Mu.none p.2 ∧ ∀ u ∈ p.2, u.oneCell' = true }
def SEl.enc {β : Type} {v : β → AV} {Ok : β → Prop} (x : SEl C w v Ok) : List Value := x.1.2
theorem sels_of {β : Type} (v : β → AV) (Ok : β → Prop) (hcl : ∀ x, closeds (v x).cells = true) : ∀ (l : List β) {us : List Value}, (∀ x ∈ l, Ok x) → Reps C w (flat (l.map v)) mu us → (∀ u ∈ us, u.oneCell' = true) →
    ∃ ds : List (SEl C w v Ok), ds.map (fun x => x.1.1) = l ∧ us = (ds.map SEl.enc).flatten
  | [], us, _, h, _ => by
    unfold flat at h
    simp only [List.map_nil, List.flatMap_nil] at h
    unfold Reps at h
    exact ⟨[], rfl, h⟩
  | x :: l, us, hx, h, h1 => by
    have e : flat ((x :: l).map v) = (v x).cells ++ flat (l.map v) := rfl
    rw [e] at h
    obtain ⟨u1, u2, rfl, h2, h3⟩ := reps_cut _ _ h
    obtain ⟨ds, rfl, rfl⟩ := sels_of v Ok hcl l (fun y hy => hx y (List.mem_cons_of_mem _ hy)) h3 (fun u hu => h1 u (List.mem_append_right _ hu))
    exact ⟨⟨(x, u1), hx x (List.mem_cons_self ..), closeds_rep _ (hcl x) h2, fun u hu => h1 u (List.mem_append_left _ hu)⟩ :: ds, rfl, rfl⟩
theorem sels_reps {β : Type} {v : β → AV} {Ok : β → Prop} : ∀ (ds : List (SEl C w v Ok)), Reps C w (flat ((ds.map fun x => x.1.1).map v)) mu (ds.map SEl.enc).flatten
  | [] => by unfold flat; simp only [List.map_nil, List.flatMap_nil]; unfold Reps; rfl
  | x :: ds => by
    have e : flat (((x :: ds).map fun x => x.1.1).map v) = (v x.1.1).cells ++ flat ((ds.map fun x => x.1.1).map v) := rfl
    rw [e]
    exact reps_append (Reps.mono (Ext.refl _ _) _ (MuLe.none _) x.2.2.1) (sels_reps ds)
theorem flatten_get {α : Type} {enc : α → List Value} {k : Nat} (hk : ∀ x, (enc x).length = k) : ∀ (ds : List α) (j : Nat) (h : j < ds.length * k), ∃ h1 : j / k < ds.length, (ds.map enc).flatten[j]? = (enc ds[j / k])[j % k]?
  | [], j, h => by simp at h
  | x :: ds, j, h => by
    have k0 : 0 < k := by rcases Nat.eq_zero_or_pos k with h' | h'
                          · subst h'; simp at h
                          · exact h'
    by_cases hj : j < k
    · refine ⟨by rw [Nat.div_eq_of_lt hj]; simp, ?_⟩
      simp only [List.map_cons, List.flatten_cons]
      rw [List.getElem?_append_left (by rw [hk]; exact hj)]
      simp only [Nat.div_eq_of_lt hj, Nat.mod_eq_of_lt hj, List.getElem_cons_zero]
    · have hd : j / k = (j - k) / k + 1 := by
        rw [show j = (j - k) + k by omega, Nat.add_div_right _ k0]; simp
      have hm : j % k = (j - k) % k := by rw [Nat.mod_eq_sub_mod (by omega)]
      have h' : j - k < ds.length * k := by simp [Nat.add_mul] at h; omega
      obtain ⟨h1, h2⟩ := flatten_get hk ds (j - k) h'
      refine ⟨by rw [hd]; simp; exact h1, ?_⟩
      simp only [List.map_cons, List.flatten_cons]
      rw [List.getElem?_append_right (by rw [hk]; omega), hk, h2, hm]
      simp only [hd, List.getElem_cons_succ]
theorem flatten_len {α : Type} {enc : α → List Value} {k : Nat} (hk : ∀ x, (enc x).length = k) : ∀ (ds : List α), (ds.map enc).flatten.length = ds.length * k
  | [] => by simp
  | x :: ds => by simp only [List.map_cons, List.flatten_cons, List.length_append, hk, flatten_len hk ds, List.length_cons, Nat.add_mul]; omega
theorem flatK_list {α : Type} [Inhabited α] {enc : α → List Value} {k : Nat} (hk : ∀ x, (enc x).length = k) (d : Array α) : (flatK enc k d).toList = (d.toList.map enc).flatten := by
  apply List.ext_getElem?
  intro j
  by_cases hj : j < d.size * k
  · obtain ⟨h1, h2⟩ := flatten_get hk d.toList j (by simpa using hj)
    rw [h2]
    have h1' : j / k < d.size := by simpa using h1
    have := get_flatK enc k d j hj
    have hs : j < (flatK enc k d).size := by rw [size_flatK]; exact hj
    rw [getElem!_pos (flatK enc k d) j hs] at this
    have k0 : 0 < k := by rcases Nat.eq_zero_or_pos k with h' | h'
                          · subst h'; simp at hj
                          · exact h'
    have hl : j % k < (enc d[j / k]).length := by rw [hk]; exact Nat.mod_lt _ k0
    rw [getElem!_pos d (j / k) h1', getElem!_pos _ (j % k) hl] at this
    rw [Array.getElem?_toList, Array.getElem?_eq_getElem hs, this]
    simp only [Array.getElem_toList]
    rw [List.getElem?_eq_getElem hl]
  · rw [List.getElem?_eq_none (by simp; omega), List.getElem?_eq_none (by rw [flatten_len hk]; simpa using hj)]

theorem grown_of {W W' : World} (h : Go.RowKit.Below W.heap.size W W') (h4 : W.drawn ≤ W'.drawn) : ∃ q os, W' = grow (W.drewN q) os := by
  refine ⟨W'.drawn - W.drawn, W'.heap.extract W.heap.size W'.heap.size, ?_⟩
  obtain ⟨h1, h2, h3, h5, h6⟩ := h
  cases W' with
  | mk heap tape drawn os output =>
    simp only at h1 h2 h3 h4 h5 h6
    subst h1 h2 h3
    unfold grow World.drewN
    simp only [World.mk.injEq, true_and, and_true]
    refine ⟨?_, by omega⟩
    apply Array.ext_getElem?
    intro i
    by_cases hi : i < W.heap.size
    · rw [Array.getElem?_append_left hi, h6 i hi]
    · rw [Array.getElem?_append_right (by omega)]
      simp only [Array.getElem?_extract]
      by_cases hi2 : i < heap.size
      · rw [if_pos (by omega)]; congr 1; omega
      · rw [if_neg (by omega), Array.getElem?_eq_none (by omega)]

/-- The world behind a sort. -/
theorem sort_heap {α : Type} [Inhabited α] (enc : α → List Value) (k b m : Nat) (dk : Array α) (os : Array Obj) {i : Nat} (hi : i < w.heap.size) :
    (sortWorldK enc k w b 0 m dk os).heap[i]? = if i = b then w.heap[i]?.map (onCells (putCells id 0 (flatK enc k dk))) else w.heap[i]? := by
  unfold sortWorldK grow putRowK putRow mapBlock Sort.ahead
  simp only
  rw [Array.getElem?_append_left (by simpa using hi), Array.getElem?_modify]
  by_cases h : b = i
  · subst h; simp
  · rw [if_neg h, if_neg (Ne.symm h)]
theorem sort_size {α : Type} [Inhabited α] (enc : α → List Value) (k b m : Nat) (dk : Array α) (os : Array Obj) : w.heap.size ≤ (sortWorldK enc k w b 0 m dk os).heap.size := by
  unfold sortWorldK grow putRowK putRow mapBlock Sort.ahead
  simp

theorem sortF {β : Type} {ρ : Ren} (L : SlLaysF0.n6 P ρ) (k : Nat) (aE : ∀ w, (isAgg (ρ.t 24)).run P w = .ok true w) (zE : ∀ w, (Go.sizeOf (ρ.t 24)).run P w = .ok k w) (hg6 : goodF P (ρ.f 6) = true) (g : Nat)
    (eg : ∀ args w, (callFunc g args).run P w = .ok (.enter g args) w) (v : β → AV) (Ok : β → Prop) (cf : β → β → Int) (hirr : ∀ x, ¬ cf x x < 0) (htr : ∀ x y z, cf x y < 0 → cf y z < 0 → cf x z < 0) (hntr : ∀ x y z, ¬ cf x y < 0 → ¬ cf y z < 0 → ¬ cf x z < 0)
    (hv : ∀ x, ∃ cs, v x = .agg cs ∧ cs.length = k ∧ closeds cs = true) (hspec : ∀ x y, Ok x → Ok y → Ctr P g [v x, v y] (fun r => r = .int .i64 (cf x y)))
    (l : List β) (hl : l.length < 4611686018427387904) (hx : ∀ x ∈ l, Ok x) (e : TypeId) :
    HCtrF P (ρ.f 6) [.own 0 k 0 l.length, .fn g []] e k (l.map v) (fun r es => r = .tuple [] ∧ ∃ l' : List β, es = l'.map v ∧ l'.Perm l ∧ l'.Pairwise fun x y => ¬ cf y x < 0) := by
  refine ⟨hg6, fun C mu w vs hlt hh hr => ?_⟩
  have hvc : ∀ x, closeds (v x).cells = true ∧ (v x).cells.length = k := fun x => by
    obtain ⟨cs, h1, h2, h3⟩ := hv x
    rw [h1]; exact ⟨h3, h2⟩
  unfold Reps at hr
  obtain ⟨v1, _, rfl, hr1, hr⟩ := hr
  unfold Reps at hr
  obtain ⟨v2, _, rfl, hr2, hr⟩ := hr
  unfold Reps at hr
  subst hr
  unfold Rep at hr1 hr2
  obtain ⟨x, hm, _, _, rfl⟩ := hr1
  obtain ⟨cb, rfl, hcb⟩ := hr2
  unfold Reps at hcb
  subst hcb
  obtain ⟨hcl, harr⟩ := hh.arrs 0 e k (l.map v) rfl
  rcases harr with ⟨m0, hnil⟩ | ⟨b, cap, cur, m0, hb, hle, hcap, hcs, hreps, hone⟩
  · have hl0 : l = [] := by simpa using hnil
    subst hl0
    rw [m0] at hm
    simp only [Option.some.injEq, GO.arr.injEq] at hm
    subst hm
    refine (AnyF.slices_SortFunc_none L none 0 (.func (.func g) #[] #[]) w).mono fun en w' h => ?_
    obtain ⟨rfl, rfl⟩ := h
    exact ⟨.tuple [], _, [], C, rfl, ⟨rfl, [], rfl, .nil, .nil⟩, rfl, ⟨⟨rfl, rfl, rfl, Nat.le_refl _, fun _ _ => rfl⟩, fun _ _ h => h, fun b o hc => ⟨hlt.lt b o hc, .inl hc⟩, fun _ _ h => h, fun l g b h1 h2 => .inl ⟨l, g, h1, h2⟩⟩, hh, by unfold Rep; exact ⟨[], rfl, by unfold Reps; rfl⟩⟩
  · rw [m0] at hm
    simp only [Option.some.injEq, GO.arr.injEq] at hm
    subst hm
    have hbf := hh.fresh 0 _ b m0 rfl
    have hblk : b < w.heap.size := hbf.2.1
    have hlen : (l.map v).length = l.length := by simp
    rw [hlen] at hle hreps m0
    have hrl := reps_len _ hreps
    obtain ⟨ds, hds, hcut⟩ := sels_of v Ok (fun x => (hvc x).1) l hx hreps (fun u hu => hone u (List.mem_of_mem_take hu))
    have hk : ∀ x : SEl C w v Ok, x.enc.length = k := fun x => by
      have := reps_len _ x.2.2.1
      rw [(hvc _).2] at this
      exact this
    have hdl : ds.length = l.length := by rw [← hds]; simp
    by_cases hl0 : l = []
    · subst hl0
      refine (AnyF.slices_SortFunc_none L (some ⟨b, 0 + 0 * k, none⟩) (cap - 0) (.func (.func g) #[] #[]) w).mono fun en w' h => ?_
      obtain ⟨rfl, rfl⟩ := h
      exact ⟨.tuple [], _, [], C, rfl, ⟨rfl, [], rfl, .nil, .nil⟩, rfl, ⟨⟨rfl, rfl, rfl, Nat.le_refl _, fun _ _ => rfl⟩, fun _ _ h => h, fun b o hc => ⟨hlt.lt b o hc, .inl hc⟩, fun _ _ h => h, fun l g b h1 h2 => .inl ⟨l, g, h1, h2⟩⟩, hh, by unfold Rep; exact ⟨[], rfl, by unfold Reps; rfl⟩⟩
    · have d0 : SEl C w v Ok := ds[0]'(by rw [hdl]; exact List.length_pos_iff.2 hl0)
      letI : Inhabited (SEl C w v Ok) := ⟨d0⟩
      have hflat : ∀ d : Array (SEl C w v Ok), (flatK SEl.enc k d).toList = (d.toList.map SEl.enc).flatten := fun d => flatK_list hk d
      have hH : HoldsK SEl.enc k w b 0 ds.toArray := by
        intro j hj
        rw [size_flatK] at hj
        simp only [List.size_toArray, hdl] at hj
        have hj2 : j < cur.size := by rw [hcs]; exact Nat.lt_of_lt_of_le hj (Nat.mul_le_mul_right k hle)
        have hjl : (flatK SEl.enc k ds.toArray)[j]? = cur[j]? := by
          rw [← Array.getElem?_toList, hflat, ← hcut, List.getElem?_take_of_lt hj, Array.getElem?_toList]
        have hjs : j < (flatK SEl.enc k ds.toArray).size := by rw [size_flatK]; simpa [hdl] using hj
        rw [getElem!_pos _ j hjs]
        rw [Array.getElem?_eq_getElem hjs, Array.getElem?_eq_getElem hj2] at hjl
        simp only [Option.some.injEq] at hjl
        rw [hjl, Nat.zero_add]
        refine ⟨?_, ?_⟩
        · rw [cell_of_row w b j cur e _ hb, Array.getElem?_eq_getElem hj2]; rfl
        · unfold World.frozen?; simp [hb]
      have hext : ∀ m (dk : Array (SEl C w v Ok)) os, Ext C C w (sortWorldK SEl.enc k w b 0 m dk os) := fun m dk os => ⟨fun _ _ h => h, fun b' o hc => by
        have hne : b' ≠ b := fun h => hbf.2.2 o (by rw [← h]; exact hc)
        rw [sort_heap SEl.enc k b m dk os (hlt.lt b' o hc), if_neg hne]⟩
      have hcmp : CmpLays P g #[] SEl.enc k (fun x y : SEl C w v Ok => cf x.1.1 y.1.1) b 0 ds.toArray.size w := by
        intro m os dk hsz x y
        have hx' := hext m dk os
        have hok : COK C (sortWorldK SEl.enc k w b 0 m dk os) := hlt.mono hx' fun b' o hc => Nat.lt_of_lt_of_le (hlt.lt b' o hc) (sort_size SEl.enc k b m dk os)
        have hr : ∀ z : SEl C w v Ok, Rep C (sortWorldK SEl.enc k w b 0 m dk os) (v z.1.1) Mu.none (.agg z.enc.toArray) := fun z => by
          obtain ⟨cs, h1, h2, h3⟩ := hv z.1.1
          have h4 := z.2.2.1
          rw [h1] at h4 ⊢
          unfold Rep
          exact ⟨z.enc, rfl, Reps.mono hx' _ (MuLe.refl _) h4⟩
        have hc := (hspec x.1.1 y.1.1 x.2.1 y.2.1).out C _ [.agg x.enc.toArray, .agg y.enc.toArray] hok (by
          unfold Reps; refine ⟨_, _, rfl, hr x, ?_⟩; unfold Reps; refine ⟨_, _, rfl, hr y, ?_⟩; unfold Reps; rfl)
        refine Calls.mono (by simpa using calls_up hc) fun en w' h => ?_
        obtain ⟨⟨r, u, rfl, rfl, hb', hu⟩, hup⟩ := h
        unfold Rep at hu
        obtain ⟨rfl, _⟩ := hu
        exact ⟨rfl, grown_of hb' (hup _ rfl)⟩
      have hO : SWO (ltOf fun x y : SEl C w v Ok => cf x.1.1 y.1.1) := ⟨fun x => by simp [ltOf]; have := hirr x.1.1; omega, fun x y z h1 h2 => by simp only [ltOf, decide_eq_true_eq] at *; exact htr _ _ _ h1 h2,
        fun x y z h1 h2 => by simp only [ltOf, decide_eq_false_iff_not] at *; exact hntr _ _ _ h1 h2⟩
      have main := AnyQ.slices_SortFunc L k aE zE SEl.enc hk (fun x => x.2.2.2) (fun x y : SEl C w v Ok => cf x.1.1 y.1.1) hO g #[] b 0 cap ds.toArray w eg hcmp hH hblk (by simpa [hdl] using hl)
      rw [show ds.toArray.size = l.length by simpa using hdl] at main
      have harg : [subSl (.slice (some ⟨b, 0, none⟩) (l.map v).length cap) k 0 l.length, Value.func (.func g) #[] #[]].toArray = #[Value.slice (some ⟨b, 0, none⟩) l.length cap, .func (.func g) #[] #[]] := by simp [subSl]
      rw [harg]
      refine main.mono fun en w' h => ?_
      obtain ⟨rfl, d', n, os, hp, hs, rfl⟩ := h
      have hd's : d'.size = l.length := by have := hp.1; simpa [hdl] using this
      have hperm : d'.toList.Perm ds := by
        have := hp.2.2
        rw [← hdl] at this
        have e1 : d'.extract 0 ds.length = d' := by
          apply Array.ext_getElem?; intro i
          by_cases hi : i < d'.size
          · rw [Array.getElem?_extract, if_pos (by omega)]; simp
          · rw [Array.getElem?_eq_none (by simp; omega), Array.getElem?_eq_none (by omega)]
        have e2 : ds.toArray.extract 0 ds.length = ds.toArray := by simp
        rw [e1, e2] at this
        simpa using this
      have hx' := hext n d' os
      have hheap := sort_heap (w := w) SEl.enc k b n d' os hblk
      rw [if_pos rfl, hb] at hheap
      have hput : (putCells id 0 (flatK SEl.enc k d') cur).toList.take (l.length * k) = (d'.toList.map SEl.enc).flatten := by
        rw [← hflat]
        apply List.ext_getElem?
        intro j
        by_cases hj : j < l.length * k
        · have hj2 : j < cur.size := by rw [hcs]; exact Nat.lt_of_lt_of_le hj (Nat.mul_le_mul_right k hle)
          have hj3 : j < (flatK SEl.enc k d').size := by rw [size_flatK, hd's]; exact hj
          rw [List.getElem?_take_of_lt hj, Array.getElem?_toList, Array.getElem?_toList]
          unfold putCells
          rw [Array.getElem?_mapIdx, Array.getElem?_eq_getElem hj2, Array.getElem?_eq_getElem hj3]
          simp only [Option.map_some, Option.some.injEq]
          rw [if_pos ⟨Nat.zero_le _, by omega⟩, Nat.sub_zero, getElem!_pos _ j hj3]
          rfl
        · rw [List.getElem?_eq_none (by simp; omega), List.getElem?_eq_none (by simp [hd's]; omega)]
      refine ⟨.tuple [], _, (d'.toList.map fun x => x.1.1).map v, C, rfl, ⟨rfl, d'.toList.map fun x => x.1.1, rfl, ?_, ?_⟩, by simp [hd's], ⟨⟨rfl, rfl, rfl, sort_size SEl.enc k b n d' os, fun b' hb' => ?_⟩, fun _ _ h => h, fun b' o hc => ⟨Nat.lt_of_lt_of_le (hlt.lt b' o hc) (sort_size SEl.enc k b n d' os), .inl hc⟩, fun _ _ h => h, fun l g b h1 h2 => .inl ⟨l, g, h1, h2⟩⟩, ⟨fun i x hi => by have := hh.dom i x hi; simpa using this, fun i x b' hi hb' => ?_, hh.sep, fun i hi => ?_, fun i cs hi => ?_, fun i e' sz' es' hi => ?_, fun i ks us hi => ?_⟩, by unfold Rep; exact ⟨[], rfl, by unfold Reps; rfl⟩⟩
      · rw [← hds]; exact hperm.map _
      · rw [List.pairwise_map, List.pairwise_iff_getElem]
        intro i j hi hj hij
        have hi' : i < d'.size := by simpa using hi
        have hj' : j < d'.size := by simpa using hj
        have := hs i j (Nat.zero_le _) hij (by omega)
        rw [getElem!_pos d' i hi', getElem!_pos d' j hj'] at this
        simp only [ltOf, decide_eq_false_iff_not] at this
        simpa using this
      · rw [sort_heap SEl.enc k b n d' os hb'.1, if_neg (fun h => hb'.2 0 _ m0 (by rw [h]; rfl))]
      · obtain ⟨k1, k2, k3⟩ := hh.fresh i x b' hi hb'
        exact ⟨k1, Nat.lt_of_lt_of_le k2 (sort_size SEl.enc k b n d' os), k3⟩
      all_goals
        match i, hi with
        | 0, hi => ?_
        | i + 1, hi => simp at hi
      all_goals simp only [List.getElem?_cons_zero, Option.some.injEq, HO.arr.injEq, reduceCtorEq] at hi
      obtain ⟨rfl, rfl, rfl⟩ := hi
      refine ⟨fun a ha => ?_, .inr ⟨b, cap, putCells id 0 (flatK SEl.enc k d') cur, by simpa [hd's] using m0, hheap, by simpa [hd's] using hle, hcap, by unfold putCells; simpa using hcs, ?_, fun u hu => ?_⟩⟩
      · obtain ⟨x, _, rfl⟩ := List.mem_map.1 ha
        exact (hvc x).2
      · rw [show ((d'.toList.map fun x => x.1.1).map v).length = l.length by simp [hd's], hput]
        exact Reps.mono hx' _ (MuLe.refl _) (sels_reps d'.toList)
      · rw [Array.mem_toList_iff] at hu
        obtain ⟨j, hj, rfl⟩ := Array.mem_iff_getElem.1 hu
        unfold putCells at hj ⊢
        have hj2 : j < cur.size := by simpa using hj
        rw [Array.getElem_mapIdx]
        split
        · rename_i hjk
          have hj3 : j < (flatK SEl.enc k d').size := by omega
          rw [Nat.sub_zero, getElem!_pos _ j hj3]
          have hmem : (flatK SEl.enc k d')[j] ∈ (flatK SEl.enc k d').toList := by rw [Array.mem_toList_iff]; exact Array.getElem_mem hj3
          rw [hflat] at hmem
          obtain ⟨q, hq, hq2⟩ := List.mem_flatten.1 hmem
          obtain ⟨y, _, rfl⟩ := List.mem_map.1 hq
          exact y.2.2.2 _ hq2
        · exact hone _ (by rw [Array.mem_toList_iff]; exact Array.getElem_mem hj2)
end
end Go.Av
