/-
  Words of texts put together; the readings are in order.
-/
import Derived.Test.YtbodeejogdckgaaGreatDoorP5
set_option linter.unusedVariables false
set_option linter.unusedSimpArgs false
namespace Go.Proofs.YtbodeejogdckgaaGreatDoor
open Go.Av Pl
theorem wsGo_app (c : UInt8) (hc : blankB c = true) (r : Bs) : ∀ (x cur : Bs), wsGo cur (x ++ c :: r) = wsGo cur x ++ wsGo [] r
  | [], cur => by
    rw [List.nil_append, wsGo, wsGo, if_pos hc]
    by_cases h : cur = []
    · rw [if_pos h, if_pos h]; rfl
    · rw [if_neg h, if_neg h]; rfl
  | d :: x, cur => by
    rw [List.cons_append, wsGo, wsGo]
    by_cases h : blankB d = true
    · rw [if_pos h, if_pos h, wsGo_app c hc r x []]
      by_cases h2 : cur = []
      · rw [if_pos h2, if_pos h2]
      · rw [if_neg h2, if_neg h2]; rfl
    · rw [if_neg h, if_neg h, wsGo_app c hc r x (cur ++ [d])]
theorem words_app (x r : Bs) (c : UInt8) (hc : blankB c = true) : wordsW (x ++ c :: r) = wordsW x ++ wordsW r := wsGo_app c hc r x []
def isW (w : Bs) : Prop := w ≠ [] ∧ ∀ c ∈ w, blankB c = false
theorem words_isW {w : Bs} (h : isW w) : wordsW w = [w] := by
  have := wsGo_skip w [] [] h.2
  rw [List.append_nil, List.nil_append] at this
  unfold wordsW
  rw [this, wsGo, if_neg h.1]
theorem wsGo_mem : ∀ (s cur : Bs), (∀ c ∈ cur, blankB c = false) → ∀ w ∈ wsGo cur s, isW w
  | [], cur, h, w, hw => by
    rw [wsGo] at hw
    by_cases hc : cur = []
    · rw [if_pos hc] at hw; cases hw
    · rw [if_neg hc] at hw
      rw [List.mem_singleton.1 hw]
      exact ⟨hc, h⟩
  | d :: x, cur, h, w, hw => by
    rw [wsGo] at hw
    by_cases hd : blankB d = true
    · rw [if_pos hd] at hw
      by_cases hc : cur = []
      · rw [if_pos hc] at hw
        exact wsGo_mem x [] (by simp) w hw
      · rw [if_neg hc] at hw
        rcases List.mem_cons.1 hw with rfl | hw
        · exact ⟨hc, h⟩
        · exact wsGo_mem x [] (by simp) w hw
    · rw [if_neg hd] at hw
      refine wsGo_mem x _ (fun c hc => ?_) w hw
      rcases List.mem_append.1 hc with hc | hc
      · exact h c hc
      · rw [List.mem_singleton.1 hc]
        simpa using hd
theorem words_mem {s w : Bs} (h : w ∈ wordsW s) : isW w := wsGo_mem s [] (by simp) w h
theorem join_cons2 (a b : Bs) (l : List Bs) : Lib.join (a :: b :: l) [32] = a ++ 32 :: Lib.join (b :: l) [32] := by
  simp [Lib.join, Lib.joinTail]
theorem words_join : ∀ (l : List Bs), (∀ w ∈ l, isW w) → wordsW (Lib.join l [32]) = l
  | [], _ => by simp [Lib.join, wordsW, wsGo]
  | [a], h => by
    have : Lib.join [a] [32] = a := by simp [Lib.join, Lib.joinTail]
    rw [this]
    exact words_isW (h a (by simp))
  | a :: b :: l, h => by
    rw [join_cons2, words_app _ _ _ (by decide), words_isW (h a (by simp)), words_join (b :: l) fun w hw => h w (by simp [hw])]
    rfl
theorem fit_isW {w : Bs} (h : fitB w = true) : isW w := by
  unfold fitB at h
  simp only [Bool.and_eq_true, decide_eq_true_eq] at h
  refine ⟨fun h0 => by rw [h0] at h; simp at h, fun c hc => ?_⟩
  have hf := List.all_eq_true.1 h.2 c hc
  simp only [fitC, letterB, smallB, capB, digB, Bool.or_eq_true, Bool.and_eq_true, decide_eq_true_eq] at hf
  unfold blankB
  simp
  omega
/-! ### The order of readings -/
def lessB : List Nat → List Nat → Bool
  | [], [] => false
  | [], _ :: _ => true
  | _ :: _, [] => false
  | a :: l, b :: m => if a = b then lessB l m else decide (a < b)
theorem less_app : ∀ (l m x y : List Nat), l.length = m.length → lessB l m = true → lessB (l ++ x) (m ++ y) = true
  | [], [], _, _, _, h => by simp [lessB] at h
  | [], _ :: _, _, _, h, _ => by simp at h
  | _ :: _, [], _, _, h, _ => by simp at h
  | a :: l, b :: m, x, y, h, k => by
    simp only [List.cons_append, lessB] at k ⊢
    by_cases e : a = b
    · rw [if_pos e] at k ⊢
      exact less_app l m x y (by simpa using h) k
    · rw [if_neg e] at k ⊢
      exact k
theorem less_pre : ∀ (l x y : List Nat), lessB (l ++ x) (l ++ y) = lessB x y
  | [], _, _ => rfl
  | a :: l, x, y => by
    simp only [List.cons_append, lessB, if_true]
    exact less_pre l x y
theorem less_irrefl : ∀ (l : List Nat), lessB l l = false
  | [] => rfl
  | a :: l => by simp only [lessB, if_true]; exact less_irrefl l
def cntP (a : Ad) (p : Pt) : Option Nat := if p.k = 4 then some (wordsW a.st).length else if p.k = 5 then some (wordsW a.to).length else if p.k = 6 then some (wordsW a.pe).length else none
def cntL (L : List Pt) (a : Ad) : List Nat := L.filterMap (cntP a)
theorem cntL_cons (p : Pt) (L : List Pt) (a : Ad) : cntL (p :: L) a = (cntP a p).toList ++ cntL L a := by
  unfold cntL
  rw [List.filterMap_cons]
  cases cntP a p <;> rfl
theorem cntL_app (L M : List Pt) (a : Ad) : cntL (L ++ M) a = cntL L a ++ cntL M a := List.filterMap_append
theorem cntL_len (a b : Ad) : ∀ L : List Pt, (cntL L a).length = (cntL L b).length
  | [] => rfl
  | p :: L => by
    rw [cntL_cons, cntL_cons, List.length_append, List.length_append, cntL_len a b L]
    congr 1
    unfold cntP
    repeat' split
    all_goals rfl
/-- Parts of these lists have no kind in common, words aside. -/
def Apart (L P : List Pt) : Prop := ∀ p ∈ L, p.k ≠ 1 → ¬ hasK P p.k
theorem cntL_agr {P : List Pt} {a b : Ad} (h : Agr P a b) : ∀ {L : List Pt}, Apart L P → cntL L a = cntL L b
  | [], _ => rfl
  | p :: L, hL => by
    rw [cntL_cons, cntL_cons, cntL_agr h fun q hq => hL q (by simp [hq])]
    congr 2
    have hp := hL p (by simp)
    unfold cntP
    by_cases h4 : p.k = 4
    · rw [if_pos h4, if_pos h4, h.st (by rw [← h4]; exact hp (by omega))]
    · rw [if_neg h4, if_neg h4]
      by_cases h5 : p.k = 5
      · rw [if_pos h5, if_pos h5, h.to (by rw [← h5]; exact hp (by omega))]
      · rw [if_neg h5, if_neg h5]
        by_cases h6 : p.k = 6
        · rw [if_pos h6, if_pos h6, h.pe (by rw [← h6]; exact hp (by omega))]
        · rw [if_neg h6, if_neg h6]
theorem kindsR_app (L M : List Pt) : kindsR (L ++ M) = kindsR L ++ kindsR M := by unfold kindsR; rw [List.filter_append, List.map_append]
theorem nodup_apart {L M : List Pt} (h : (kindsR (L ++ M)).Nodup) : Apart L M := by
  intro p hp hk ⟨q, hq, e⟩
  rw [kindsR_app, List.nodup_append] at h
  have h1 : p.k ∈ kindsR L := List.mem_map.2 ⟨p, List.mem_filter.2 ⟨hp, by simpa using hk⟩, rfl⟩
  have h2 : p.k ∈ kindsR M := List.mem_map.2 ⟨q, List.mem_filter.2 ⟨hq, by rw [e]; simpa using hk⟩, e⟩
  exact h.2.2 _ h1 _ h2 rfl
theorem nodup_left {L M : List Pt} (h : (kindsR (L ++ M)).Nodup) : (kindsR L).Nodup := by
  rw [kindsR_app, List.nodup_append] at h
  exact h.1
theorem nodup_right {L M : List Pt} (h : (kindsR (L ++ M)).Nodup) : (kindsR M).Nodup := by
  rw [kindsR_app, List.nodup_append] at h
  exact h.2.1
theorem readL_mem_agr : ∀ (ps : List Pt) (ws : List Bs) (a x : Ad), goodK ps → x ∈ readL ps ws a → Agr ps a x
  | [], [], a, x, _, h => by
    have h : x ∈ [a] := h
    rw [List.mem_singleton.1 h]
    exact Agr.refl _ _
  | [], _ :: _, a, x, _, h => by
    have h : x ∈ ([] : List Ad) := h
    cases h
  | p :: ps, ws, a, x, hg, h => by
    rw [readL_cons] at h
    obtain ⟨i, _, h⟩ := List.mem_flatMap.1 h
    rcases stepL_le p ps ws a i with e | e
    · rw [e] at h; cases h
    · rw [e] at h
      have h1 := readL_mem_agr ps _ _ x (fun q hq => hg q (by simp [hq])) h
      exact (Agr.mono (fun q hq => by simp at hq; simp [hq]) (put_kind (l := ws.take (i + 1)) (a := a) (hg p (by simp)))).trans (Agr.mono (fun q hq => by simp [hq]) h1)
theorem readF_mem_agr : ∀ (ls : List (List Pt)) (W : List (List Bs)) (a x : Ad), goodK ls.flatten → x ∈ readF ls W a → Agr ls.flatten a x
  | [], [], a, x, _, h => by
    have h : x ∈ [a] := h
    rw [List.mem_singleton.1 h]
    exact Agr.refl _ _
  | [], _ :: _, a, x, _, h => by
    have h : x ∈ ([] : List Ad) := h
    cases h
  | _ :: _, [], a, x, _, h => by
    have h : x ∈ ([] : List Ad) := h
    cases h
  | l :: ls, w :: W, a, x, hg, h => by
    have h : x ∈ (readL l w a).flatMap (readF ls W) := h
    rw [List.flatten_cons] at hg ⊢
    obtain ⟨b, hb, h⟩ := List.mem_flatMap.1 h
    have h1 := readL_mem_agr l w a b (fun q hq => hg q (by simp [hq])) hb
    have h2 := readF_mem_agr ls W b x (fun q hq => hg q (by simp only [List.mem_append]; exact .inr hq)) h
    exact (h1.mono fun q hq => List.mem_append_left _ hq).trans (h2.mono fun q hq => List.mem_append_right _ hq)
theorem put_cnt {p : Pt} {l : List Bs} {a : Ad} (hl : ∀ w ∈ l, isW w) : cntP (putP p l a) p = if p.k = 4 ∨ p.k = 5 ∨ p.k = 6 then some l.length else none := by
  unfold cntP putP
  by_cases h4 : p.k = 4
  · simp [h4, words_join l hl]
  · by_cases h5 : p.k = 5
    · simp [h5, words_join l hl]
    · by_cases h6 : p.k = 6
      · simp [h6, words_join l hl]
      · simp [h4, h5, h6]
theorem agr_cntP {P : List Pt} {a b : Ad} {p : Pt} (h : Agr P a b) (hp : p.k ≠ 1 → ¬ hasK P p.k) : cntP a p = cntP b p := by
  have := cntL_agr h (L := [p]) fun q hq => by simp at hq; rw [hq]; exact hp
  rw [cntL_cons, cntL_cons] at this
  cases h1 : cntP a p <;> cases h2 : cntP b p <;> rw [h1, h2] at this <;> simp_all [cntL]
def LessA (L : List Pt) (x y : Ad) : Prop := lessB (cntL L x) (cntL L y) = true
theorem readL_ord : ∀ (ps : List Pt) (ws : List Bs) (a : Ad), goodK ps → (kindsR ps).Nodup → (∀ w ∈ ws, isW w) → (readL ps ws a).Pairwise (LessA ps)
  | [], [], a, _, _, _ => by show [a].Pairwise _; simp
  | [], _ :: _, a, _, _, _ => List.Pairwise.nil
  | p :: ps, ws, a, hg, hn, hw => by
    rw [readL_cons, List.pairwise_flatMap]
    have hn2 : (kindsR ([p] ++ ps)).Nodup := hn
    have hap := nodup_apart hn2 p (by simp)
    have key : ∀ i, i < min (mostP p) ws.length → ∀ x ∈ stepL p ps ws a i, cntL (p :: ps) x = (if p.k = 4 ∨ p.k = 5 ∨ p.k = 6 then [i + 1] else []) ++ cntL ps x := by
      intro i hi x hx
      rcases stepL_le p ps ws a i with e | e
      · rw [e] at hx; cases hx
      · rw [e] at hx
        have h1 := readL_mem_agr ps _ _ x (fun q hq => hg q (by simp [hq])) hx
        rw [cntL_cons, ← agr_cntP h1 hap, put_cnt fun w h => hw w (List.mem_of_mem_take h), List.length_take, Nat.min_eq_left (by omega)]
        split <;> rfl
    refine ⟨fun i hi => ?_, ?_⟩
    · have hi := List.mem_range.1 hi
      have hk := key i hi
      rcases stepL_le p ps ws a i with e | e
      · rw [e]; exact List.Pairwise.nil
      · rw [e] at hk ⊢
        refine List.Pairwise.imp_of_mem (R := LessA ps) (fun {x y} hx hy h => ?_) (readL_ord ps _ _ (fun q hq => hg q (by simp [hq])) (nodup_right hn2) fun w h => hw w (List.mem_of_mem_drop h))
        unfold LessA at h ⊢
        rw [hk x hx, hk y hy, less_pre]
        exact h
    · refine List.Pairwise.imp_of_mem (R := fun i j => i < j) (fun {i j} hi hj h x hx y hy => ?_) List.pairwise_lt_range
      have hi := List.mem_range.1 hi
      have hj := List.mem_range.1 hj
      unfold LessA
      rw [key i hi x hx, key j hj y hy]
      by_cases hm : p.k = 4 ∨ p.k = 5 ∨ p.k = 6
      · rw [if_pos hm, if_pos hm]
        simp only [List.cons_append, lessB]
        rw [if_neg (by omega)]
        simp
        exact h
      · have : mostP p = 1 := by
          have := hg p (by simp)
          unfold mostP
          rw [if_pos (by omega)]
        omega
theorem readF_ord : ∀ (ls : List (List Pt)) (W : List (List Bs)) (a : Ad), goodK ls.flatten → (kindsR ls.flatten).Nodup → (∀ ws ∈ W, ∀ w ∈ ws, isW w) → (readF ls W a).Pairwise (LessA ls.flatten)
  | [], [], a, _, _, _ => by show [a].Pairwise _; simp
  | [], _ :: _, a, _, _, _ => List.Pairwise.nil
  | _ :: _, [], a, _, _, _ => List.Pairwise.nil
  | l :: ls, w :: W, a, hg, hn, hw => by
    show ((readL l w a).flatMap (readF ls W)).Pairwise _
    rw [List.flatten_cons] at hg hn ⊢
    rw [List.pairwise_flatMap]
    have hg1 : goodK l := fun q hq => hg q (List.mem_append_left _ hq)
    have hg2 : goodK ls.flatten := fun q hq => hg q (List.mem_append_right _ hq)
    have hap := nodup_apart hn
    have key : ∀ x : Ad, ∀ x' ∈ readF ls W x, cntL (l ++ ls.flatten) x' = cntL l x ++ cntL ls.flatten x' := by
      intro x x' hx
      rw [cntL_app, cntL_agr (readF_mem_agr ls W x x' hg2 hx) hap]
    refine ⟨fun x hx => ?_, ?_⟩
    · refine List.Pairwise.imp_of_mem (R := LessA ls.flatten) (fun {y z} hy hz h => ?_) (readF_ord ls W x hg2 (nodup_right hn) fun ws h => hw ws (by simp [h]))
      unfold LessA at h ⊢
      rw [key x y hy, key x z hz, less_pre]
      exact h
    · refine List.Pairwise.imp (R := LessA l) (fun {x y} h x' hx y' hy => ?_) (readL_ord l w a hg1 (nodup_left hn) (hw w (by simp)))
      unfold LessA at h ⊢
      rw [key x x' hx, key y y' hy]
      exact less_app _ _ _ _ (cntL_len _ _ _) h
end Go.Proofs.YtbodeejogdckgaaGreatDoor
