/-
  The reference's readings in plain words.
-/
import Derived.Test.YtbodeejogdckgaaGreatDoorP8
set_option linter.unusedVariables false
set_option linter.unusedSimpArgs false
namespace Go.Proofs.YtbodeejogdckgaaGreatDoor
open Go.Av Pl
theorem up_low (c : UInt8) : lowC (upC c) = lowC c := by
  rcases up_cases c with ⟨e, _⟩ | ⟨h, e⟩
  · rw [e]
  · have h2 := h
    unfold smallB at h2
    simp only [Bool.and_eq_true, decide_eq_true_eq] at h2
    have c1 : capB (upC c) = true := by unfold capB; rw [e]; simp; omega
    have c2 : capB c = false := by unfold capB; simp; omega
    unfold lowC
    rw [if_pos c1, if_neg (by rw [c2]; simp)]
    apply UInt8.toNat_inj.1
    rw [UInt8.toNat_add, e]
    have : (32 : UInt8).toNat = 32 := rfl
    omega
theorem up_same {a b : Bs} (h : upB a = upB b) : lowB a = lowB b := by
  have e : ∀ x : Bs, lowB (upB x) = lowB x := fun x => by
    unfold upB lowB
    rw [List.map_map]
    exact List.map_congr_left fun c _ => up_low c
  rw [← e a, ← e b, h]
theorem low_iff (a b : Bs) : (lowB a = lowB b) ↔ (upB a = upB b) := ⟨low_same, up_same⟩
/-- Whether a part takes words. -/
def takeB (p : Pt) (l : List Bs) : Bool := l.all fitB && decide (1 ≤ l.length) && decide (l.length ≤ mostP p) && okS p l
def stepR (p : Pt) (R : List Bs → Ad → List Ad) (ws : List Bs) (a : Ad) (i : Nat) : List Ad := if takeB p (ws.take (i + 1)) = true then R (ws.drop (i + 1)) (putP p (ws.take (i + 1)) a) else []
def readR : List Pt → List Bs → Ad → List Ad
  | [], [], a => [a]
  | [], _ :: _, _ => []
  | p :: ps, ws, a => (List.range (min 4 ws.length)).flatMap (stepR p (readR ps) ws a)
theorem flat_range_split (f : Nat → List Ad) (m : Nat) : ∀ n, (∀ i, m ≤ i → i < m + n → f i = []) → (List.range (m + n)).flatMap f = (List.range m).flatMap f
  | 0, _ => rfl
  | n + 1, h => by
    rw [show m + (n + 1) = (m + n) + 1 by omega, List.range_succ, List.flatMap_append, flat_range_split f m n fun i h1 h2 => h i h1 (by omega)]
    simp [h (m + n) (by omega) (by omega)]
theorem flat_congr (f g : Nat → List Ad) : ∀ n, (∀ i, i < n → f i = g i) → (List.range n).flatMap f = (List.range n).flatMap g
  | 0, _ => rfl
  | n + 1, h => by
    rw [List.range_succ, List.flatMap_append, List.flatMap_append, flat_congr f g n fun i hi => h i (by omega)]
    simp [h n (by omega)]
theorem readR_eq : ∀ (ps : List Pt) (ws : List Bs) (a : Ad), readR ps ws a = if ws.all fitB = true then readL ps ws a else []
  | [], [], a => rfl
  | [], _ :: _, a => by
    show ([] : List Ad) = if _ then [] else []
    split <;> rfl
  | p :: ps, ws, a => by
    show (List.range (min 4 ws.length)).flatMap (stepR p (readR ps) ws a) = _
    have hm := most_cases p
    obtain ⟨n, hn⟩ : ∃ n, min 4 ws.length = min (mostP p) ws.length + n := ⟨min 4 ws.length - min (mostP p) ws.length, by omega⟩
    rw [hn, flat_range_split _ _ _ fun i h1 h2 => ?_]
    · rw [readL_cons]
      by_cases hf : ws.all fitB = true
      · rw [if_pos hf]
        refine flat_congr _ _ _ fun i hi => ?_
        unfold stepR stepL takeB
        have f1 : (ws.take (i + 1)).all fitB = true := List.all_eq_true.2 fun w hw => List.all_eq_true.1 hf w (List.mem_of_mem_take hw)
        have f2 : (ws.drop (i + 1)).all fitB = true := List.all_eq_true.2 fun w hw => List.all_eq_true.1 hf w (List.mem_of_mem_drop hw)
        have hl : (ws.take (i + 1)).length = i + 1 := by rw [List.length_take]; omega
        rw [f1, hl, decide_eq_true (by omega : 1 ≤ i + 1), decide_eq_true (by omega : i + 1 ≤ mostP p), readR_eq, if_pos f2]
        rfl
      · rw [if_neg hf]
        refine flat_range_none _ _ fun i hi => ?_
        unfold stepR
        split
        · rename_i ht
          unfold takeB at ht
          simp only [Bool.and_eq_true] at ht
          rw [readR_eq, if_neg fun f2 => hf ?_]
          rw [← List.take_append_drop (i + 1) ws, List.all_append, ht.1.1.1, f2]
          rfl
        · rfl
    · unfold stepR
      rw [if_neg]
      intro ht
      unfold takeB at ht
      simp only [Bool.and_eq_true, decide_eq_true_eq] at ht
      have := ht.1.2
      rw [List.length_take] at this
      omega
theorem readF_snoc : ∀ (ls : List (List Pt)) (W : List (List Bs)) (l : List Pt) (w : List Bs) (a : Ad), ls.length = W.length → readF (ls ++ [l]) (W ++ [w]) a = (readF ls W a).flatMap (readL l w)
  | [], [], l, w, a, _ => by
    show (readL l w a).flatMap (readF [] []) = [a].flatMap (readL l w)
    have : (readF [] [] : Ad → List Ad) = fun a => [a] := rfl
    rw [this]
    simp
  | [], _ :: _, _, _, _, h => by simp at h
  | _ :: _, [], _, _, _, h => by simp at h
  | m :: ls, v :: W, l, w, a, h => by
    show (readL m v a).flatMap (readF (ls ++ [l]) (W ++ [w])) = ((readL m v a).flatMap (readF ls W)).flatMap (readL l w)
    rw [List.flatMap_assoc]
    congr 1
    funext b
    exact readF_snoc ls W l w b (by simpa using h)
/-- The readings of the first lines. -/
def allR (F : List (List Pt)) (W : List (List Bs)) (i : Nat) : List Ad := if allFitB (W.take i) = true then readF (F.take i) (W.take i) ad0 else []
theorem allR_succ {F : List (List Pt)} {W : List (List Bs)} {i : Nat} (h : i < F.length) (h2 : i < W.length) : allR F W (i + 1) = (allR F W i).flatMap (readR F[i] W[i]) := by
  unfold allR
  rw [List.take_succ_eq_append_getElem h, List.take_succ_eq_append_getElem h2]
  have hA : allFitB (W.take i ++ [W[i]]) = (allFitB (W.take i) && W[i].all fitB) := by unfold allFitB; rw [List.all_append]; simp
  rw [hA, readF_snoc _ _ _ _ _ (by rw [List.length_take, List.length_take]; omega)]
  have hr : readR F[i] W[i] = fun a => if W[i].all fitB = true then readL F[i] W[i] a else [] := funext fun a => readR_eq _ _ a
  rw [hr]
  by_cases h1 : allFitB (W.take i) = true
  · rw [h1]
    by_cases h3 : W[i].all fitB = true
    · rw [h3]; simp
    · have h3 : W[i].all fitB = false := by simpa using h3
      rw [h3]; simp
  · have h1 : allFitB (W.take i) = false := by simpa using h1
    rw [h1]; simp
theorem allR_few {F : List (List Pt)} (hg : goodK F.flatten) (hn : (kindsR F.flatten).Nodup) (W : List (List Bs)) (i : Nat) : (allR F W i).length ≤ 16 := by
  unfold allR
  split
  · have e : F.flatten = (F.take i).flatten ++ (F.drop i).flatten := by rw [← List.flatten_append, List.take_append_drop]
    rw [e] at hg hn
    exact readF_few (fun q hq => hg q (List.mem_append_left _ hq)) (nodup_left hn) _ _
  · exact Nat.zero_le _
/-! ### Fits -/
def sevB (s : Bs) : Bool := (wordsW s).all fitB && decide (1 ≤ (wordsW s).length) && decide ((wordsW s).length ≤ 4) && decide (Lib.join (wordsW s) [32] = s)
theorem sevB_eq (s : Bs) : sevB s = isWordsB s := by
  cases h : isWordsB s with
  | true =>
    obtain ⟨w1, w2, w3, w4, w5⟩ := words_of_split h
    unfold sevB
    rw [w1, w2, List.all_eq_true.2 w3]
    have := List.length_pos_iff.2 w4
    simp
    omega
  | false =>
    cases h2 : sevB s with
    | false => rfl
    | true =>
      unfold sevB at h2
      simp only [Bool.and_eq_true, decide_eq_true_eq] at h2
      obtain ⟨⟨⟨h3, h4⟩, h5⟩, h6⟩ := h2
      have := words_of_join (l := wordsW s) (fun e => by rw [e] at h4; simp at h4) h5 (List.all_eq_true.1 h3)
      rw [h6, h] at this
      exact this.symm
end Go.Proofs.YtbodeejogdckgaaGreatDoor
