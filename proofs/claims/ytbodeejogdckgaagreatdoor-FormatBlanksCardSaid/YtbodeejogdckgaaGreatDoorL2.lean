/-
  FormatBlanks.
-/
import Derived.Test.YtbodeejogdckgaaGreatDoorL1
set_option linter.unusedVariables false
set_option linter.unusedSimpArgs false
namespace Go.Proofs.YtbodeejogdckgaaGreatDoor
open Go.Av Go.Shelf Pl
theorem tmod_nat {a : Int} {n : Nat} (h0 : 0 ≤ a) (h : 0 < n) : ∃ m : Nat, m < n ∧ a.tmod (n : Int) = (m : Int) := by
  obtain ⟨k, rfl⟩ : ∃ k : Nat, a = k := ⟨a.toNat, by omega⟩
  exact ⟨k % n, Nat.mod_lt _ h, by rw [Int.tmod_eq_emod_of_nonneg (by omega)]; omega⟩
def blk (W : List Bs) (n : Nat) : Nat → Bs
  | 0 => []
  | i + 1 => (if i = n then blk W n i ++ [9, 32] else blk W n i) ++ W[i]?.getD [] ++ [32]
theorem blk_words {W : List Bs} (hW : ∀ w ∈ W, isW w) (hl : ∀ w ∈ W, w.length ≤ 200) (n : Nat) : ∀ i, i ≤ W.length → endB (blk W n i) ∧ wordsW (blk W n i) = W.take i ∧ (blk W n i).length ≤ 203 * i
  | 0, _ => ⟨.inl rfl, rfl, by simp [blk]⟩
  | i + 1, h => by
    obtain ⟨h1, h2, h3⟩ := blk_words hW hl n i (by omega)
    have hi : i < W.length := by omega
    have hw := hW W[i] (List.getElem_mem hi)
    have hwl := hl W[i] (List.getElem_mem hi)
    unfold blk
    rw [List.getElem?_eq_getElem hi, List.take_succ_eq_append_getElem hi, Option.getD_some]
    by_cases hn : i = n
    · rw [if_pos hn]
      have h4 := end_tab h1
      have h5 := end_word h4.1 hw
      exact ⟨h5.1, by rw [h5.2, h4.2, h2], by simp; omega⟩
    · rw [if_neg hn]
      have h5 := end_word h1 hw
      exact ⟨h5.1, by rw [h5.2, h2], by simp; omega⟩
def sumW (W : List Bs) : Nat := (W.map fun w => w.length + 1).sum
theorem wsGo_sum : ∀ (s cur : Bs), sumW (wsGo cur s) ≤ cur.length + s.length + 1
  | [], cur => by
    rw [wsGo]
    split
    · simp [sumW]
    · simp [sumW]
  | c :: s, cur => by
    rw [wsGo]
    split
    · have := wsGo_sum s []
      split
      · simp at this ⊢; omega
      · have e : sumW (cur :: wsGo [] s) = cur.length + 1 + sumW (wsGo [] s) := by simp [sumW]
        rw [e]
        simp at this ⊢
        omega
    · have := wsGo_sum s (cur ++ [c])
      simp at this ⊢
      omega
theorem blk_len {W : List Bs} (n : Nat) : ∀ i, i ≤ W.length → (blk W n i).length ≤ sumW (W.take i) + (if n < i then 2 else 0)
  | 0, _ => by simp [blk]
  | i + 1, h => by
    have ih := blk_len (W := W) n i (by omega)
    have hi : i < W.length := by omega
    have e : sumW (W.take (i + 1)) = sumW (W.take i) + W[i].length + 1 := by
      unfold sumW
      rw [List.take_succ_eq_append_getElem hi, List.map_append, List.sum_append]
      simp
      omega
    unfold blk
    rw [List.getElem?_eq_getElem hi, e, Option.getD_some]
    by_cases hn : i = n
    · rw [if_pos hn, if_pos (by omega)]
      rw [if_neg (by omega)] at ih
      simp; omega
    · rw [if_neg hn]
      simp
      split at ih <;> split <;> omega
theorem parse_same (f : Fm) {a b : List Bs} (h : a.map wordsW = b.map wordsW) : parseR f a = parseR f b := by
  have hc : countW a = countW b := by
    have e : ∀ l : List Bs, countW l = ((l.map wordsW).map List.length).sum := fun l => by unfold countW; rw [List.map_map]; rfl
    rw [e, e, h]
  have hl : a.length = b.length := by have := congrArg List.length h; simpa using this
  unfold parseR
  rw [h, hc, hl]
set_option maxRecDepth 100000 in
theorem blanks_law (f : Fm) (ls : List Bs) (which k : Int) (w0 : 0 ≤ which) (w1 : which ≤ 255) (k0 : 0 ≤ k) (k1 : k ≤ 255) : Ctr Tryz.prog 7 [f.v, strsA ls, .int .u8 which, .int .u8 k] (fun r => r = .bool true) := by
  refine Ctr.of_body Tryz.func7 rfl tys_ok (by kernel_rfl) ?_
  conv => whnf
  repeat (first | refine ACode.seq ?_ | (refine ACode.s_reg tys_ok ?_; conv => whnf) | refine ACode.s_block ?_ | refine ACode.s_scope ?_ | (refine ACode.s_cond ?_; conv => whnf) | (refine ACode.s_exit ?_; conv => whnf) | (refine ACode.s_ret ?_; conv => whnf) | (refine ACode.s_skip ?_; conv => whnf) | (refine ACode.s_label ?_; conv => whnf))
  refine ACall.of_spec (head_spec) rfl fun r hr => ?_
  subst hr
  conv => whnf
  repeat (first | refine ACode.seq ?_ | (refine ACode.s_reg tys_ok ?_; conv => whnf) | refine ACode.s_block ?_ | refine ACode.s_scope ?_ | (refine ACode.s_cond ?_; conv => whnf) | (refine ACode.s_exit ?_; conv => whnf) | (refine ACode.s_ret ?_; conv => whnf) | (refine ACode.s_skip ?_; conv => whnf) | (refine ACode.s_label ?_; conv => whnf))
  repeat' (first | (refine And.intro (fun _ => ?_) (fun _ => ?_) <;> conv => whnf) | (refine ACall.of_spec (few_spec f ls) rfl fun r hr => ?_; subst hr; conv => whnf) | refine ACode.seq ?_ | (refine ACode.s_reg tys_ok ?_; conv => whnf) | refine ACode.s_block ?_ | refine ACode.s_scope ?_ | (refine ACode.s_cond ?_; conv => whnf) | (refine ACode.s_exit ?_; conv => whnf) | (refine ACode.s_ret ?_; conv => whnf) | (refine ACode.s_skip ?_; conv => whnf) | (refine ACode.s_label ?_; conv => whnf))
  rename_i hfew h0
  have hfew : fewB f ls = true := by simpa using hfew
  obtain ⟨hs, hn8, hn200, hL10, hP10⟩ := few_small hfew
  have hsl : (strs ls).length = ls.length := by simp
  have hpos : 0 < ls.length := by have := of_decide_eq_false h0; omega
  refine ⟨by omega, ?_⟩
  conv => whnf
  repeat (first | refine ACode.seq ?_ | (refine ACode.s_reg tys_ok ?_; conv => whnf) | refine ACode.s_block ?_ | refine ACode.s_scope ?_ | (refine ACode.s_cond ?_; conv => whnf) | (refine ACode.s_exit ?_; conv => whnf) | (refine ACode.s_ret ?_; conv => whnf) | (refine ACode.s_skip ?_; conv => whnf) | (refine ACode.s_label ?_; conv => whnf))
  obtain ⟨m, hm, hme⟩ := tmod_nat (a := Wr .i64 which) (n := ls.length) (by rw [Wr64 _ (by omega) (by omega)]; exact w0) hpos
  rw [hsl, hme]
  refine ⟨by omega, _, strs_get ls m hm, ?_⟩
  conv => whnf
  repeat (first | refine ACode.seq ?_ | (refine ACode.s_reg tys_ok ?_; conv => whnf) | refine ACode.s_block ?_ | refine ACode.s_scope ?_ | (refine ACode.s_cond ?_; conv => whnf) | (refine ACode.s_exit ?_; conv => whnf) | (refine ACode.s_ret ?_; conv => whnf) | (refine ACode.s_skip ?_; conv => whnf) | (refine ACode.s_label ?_; conv => whnf))
  have hl := hn200 ls[m] (List.getElem_mem hm)
  refine ACall.of_spec (rwords_spec ls[m] (by omega)) rfl fun r hr => ?_
  subst hr
  conv => whnf
  repeat (first | refine ACode.seq ?_ | (refine ACode.s_reg tys_ok ?_; conv => whnf) | refine ACode.s_block ?_ | refine ACode.s_scope ?_ | (refine ACode.s_cond ?_; conv => whnf) | (refine ACode.s_exit ?_; conv => whnf) | (refine ACode.s_ret ?_; conv => whnf) | (refine ACode.s_skip ?_; conv => whnf) | (refine ACode.s_label ?_; conv => whnf))
  have hwc := wordsW_count ls[m]
  have hsum : sumW (wordsW ls[m]) ≤ 201 := by have := wsGo_sum ls[m] []; simp at this; unfold wordsW; omega
  have hwm : ∀ w ∈ wordsW ls[m], isW w := fun w hw => words_mem hw
  have hwl : ∀ w ∈ wordsW ls[m], w.length ≤ 200 := fun w hw => by have := wordsW_len ls[m] w hw; omega
  have hset : ∀ s : Bs, wordsW s = wordsW ls[m] → (ls.set m s).map wordsW = ls.map wordsW := fun s hs => by
    rw [List.map_set, hs, ← List.getElem_map wordsW (h := by simpa using hm), List.set_getElem_self]
  generalize hW : wordsW ls[m] = W at *
  have hWm : (strs W).length = W.length := by simp
  have hw0 : Wr .i64 (((strs W).length : Int) + 1) = ((W.length + 1 : Nat) : Int) := by rw [hWm, Wr64 _ (by omega) (by omega)]; rfl
  obtain ⟨n, hn, hne⟩ := tmod_nat (a := Wr .i64 k) (n := W.length + 1) (by rw [Wr64 _ (by omega) (by omega)]; exact k0) (by omega)
  rw [hw0, hne]
  refine ⟨by omega, ?_⟩
  conv => whnf
  repeat (first | refine ACode.seq ?_ | (refine ACode.s_reg tys_ok ?_; conv => whnf) | refine ACode.s_block ?_ | refine ACode.s_scope ?_ | (refine ACode.s_cond ?_; conv => whnf) | (refine ACode.s_exit ?_; conv => whnf) | (refine ACode.s_ret ?_; conv => whnf) | (refine ACode.s_skip ?_; conv => whnf) | (refine ACode.s_label ?_; conv => whnf))
  have hblk := blk_words hwm hwl n
  refine ACode.loopD (fun i : Nat => mk 96 [(1, strsA ls), (4, .ptr 0 0), (8, .lit false), (9, .bool true), (10, .int .i64 m), (11, strsA W), (12, .int .i64 n), (13, .str (blk W n i)), (14, .int .i64 i)]) (fun i => [.cells [.str f.name, .sl 1 (f.lines.map ptsA)]]) (fun i => i ≤ W.length) (fun i => W.length - i) (fun _ _ => ⟨rfl, rfl, trivial⟩) ⟨0, ?_⟩ (fun _ => rfl) fun i hi => ?_
  · conv => whnf
    repeat (refine And.intro ?_ ?_; (focus (first | rfl | (simp; done))); conv => whnf)
    exact Nat.zero_le _
  · repeat (first | refine ACode.seq ?_ | (refine ACode.s_reg tys_ok ?_; conv => whnf) | refine ACode.s_block ?_ | refine ACode.s_scope ?_ | (refine ACode.s_cond ?_; conv => whnf) | (refine ACode.s_exit ?_; conv => whnf) | (refine ACode.s_ret ?_; conv => whnf) | (refine ACode.s_skip ?_; conv => whnf) | (refine ACode.s_label ?_; conv => whnf))
    refine ⟨fun h => ?_, fun h => ?_⟩
    · have h : i < W.length := by have := of_decide_eq_true h; omega
      have hw1 : Wr .i64 ((i : Int) + 1) = ((i + 1 : Nat) : Int) := by rw [Wr64 _ (by omega) (by omega)]; rfl
      have hbl := (hblk i (by omega)).2.2
      have hwli := hwl W[i] (List.getElem_mem h)
      repeat (first | refine ACode.seq ?_ | (refine ACode.s_reg tys_ok ?_; conv => whnf) | refine ACode.s_block ?_ | refine ACode.s_scope ?_ | (refine ACode.s_cond ?_; conv => whnf) | (refine ACode.s_exit ?_; conv => whnf) | (refine ACode.s_ret ?_; conv => whnf) | (refine ACode.s_skip ?_; conv => whnf) | (refine ACode.s_label ?_; conv => whnf))
      refine ⟨fun hn1 => ?_, fun hn1 => ?_⟩
      · have hn1 : i = n := by have := of_decide_eq_true hn1; omega
        conv => whnf
        repeat (first | refine ACode.seq ?_ | (refine ACode.s_reg tys_ok ?_; conv => whnf) | refine ACode.s_block ?_ | refine ACode.s_scope ?_ | (refine ACode.s_cond ?_; conv => whnf) | (refine ACode.s_exit ?_; conv => whnf) | (refine ACode.s_ret ?_; conv => whnf) | (refine ACode.s_skip ?_; conv => whnf) | (refine ACode.s_label ?_; conv => whnf))
        refine ⟨by first | omega | (simp; omega), ?_⟩
        conv => whnf
        repeat (first | refine ACode.seq ?_ | (refine ACode.s_reg tys_ok ?_; conv => whnf) | refine ACode.s_block ?_ | refine ACode.s_scope ?_ | (refine ACode.s_cond ?_; conv => whnf) | (refine ACode.s_exit ?_; conv => whnf) | (refine ACode.s_ret ?_; conv => whnf) | (refine ACode.s_skip ?_; conv => whnf) | (refine ACode.s_label ?_; conv => whnf))
        refine ⟨by omega, _, strs_get W i h, ?_⟩
        conv => whnf
        repeat (first | refine ACode.seq ?_ | (refine ACode.s_reg tys_ok ?_; conv => whnf) | refine ACode.s_block ?_ | refine ACode.s_scope ?_ | (refine ACode.s_cond ?_; conv => whnf) | (refine ACode.s_exit ?_; conv => whnf) | (refine ACode.s_ret ?_; conv => whnf) | (refine ACode.s_skip ?_; conv => whnf) | (refine ACode.s_label ?_; conv => whnf))
        refine ⟨by first | omega | (simp; omega), ?_⟩
        conv => whnf
        repeat (first | refine ACode.seq ?_ | (refine ACode.s_reg tys_ok ?_; conv => whnf) | refine ACode.s_block ?_ | refine ACode.s_scope ?_ | (refine ACode.s_cond ?_; conv => whnf) | (refine ACode.s_exit ?_; conv => whnf) | (refine ACode.s_ret ?_; conv => whnf) | (refine ACode.s_skip ?_; conv => whnf) | (refine ACode.s_label ?_; conv => whnf))
        refine ⟨by first | omega | (simp; omega), ?_⟩
        conv => whnf
        repeat (first | refine ACode.seq ?_ | (refine ACode.s_reg tys_ok ?_; conv => whnf) | refine ACode.s_block ?_ | refine ACode.s_scope ?_ | (refine ACode.s_cond ?_; conv => whnf) | (refine ACode.s_exit ?_; conv => whnf) | (refine ACode.s_ret ?_; conv => whnf) | (refine ACode.s_skip ?_; conv => whnf) | (refine ACode.s_label ?_; conv => whnf))
        refine ⟨i + 1, ?_⟩
        conv => whnf
        repeat (refine And.intro ?_ ?_; (focus (first | rfl | (simp; done) | (first | exact hw1 | exact congrArg AV.str (by show _ = (if i = n then blk W n i ++ [9, 32] else blk W n i) ++ W[i]?.getD [] ++ [32]; rw [if_pos hn1, List.getElem?_eq_getElem h]; rfl); done))); conv => whnf)
        exact ⟨h, by omega⟩
      · have hn1 : ¬ i = n := by have := of_decide_eq_false hn1; omega
        conv => whnf
        repeat (first | refine ACode.seq ?_ | (refine ACode.s_reg tys_ok ?_; conv => whnf) | refine ACode.s_block ?_ | refine ACode.s_scope ?_ | (refine ACode.s_cond ?_; conv => whnf) | (refine ACode.s_exit ?_; conv => whnf) | (refine ACode.s_ret ?_; conv => whnf) | (refine ACode.s_skip ?_; conv => whnf) | (refine ACode.s_label ?_; conv => whnf))
        refine ⟨by omega, _, strs_get W i h, ?_⟩
        conv => whnf
        repeat (first | refine ACode.seq ?_ | (refine ACode.s_reg tys_ok ?_; conv => whnf) | refine ACode.s_block ?_ | refine ACode.s_scope ?_ | (refine ACode.s_cond ?_; conv => whnf) | (refine ACode.s_exit ?_; conv => whnf) | (refine ACode.s_ret ?_; conv => whnf) | (refine ACode.s_skip ?_; conv => whnf) | (refine ACode.s_label ?_; conv => whnf))
        refine ⟨by first | omega | (simp; omega), ?_⟩
        conv => whnf
        repeat (first | refine ACode.seq ?_ | (refine ACode.s_reg tys_ok ?_; conv => whnf) | refine ACode.s_block ?_ | refine ACode.s_scope ?_ | (refine ACode.s_cond ?_; conv => whnf) | (refine ACode.s_exit ?_; conv => whnf) | (refine ACode.s_ret ?_; conv => whnf) | (refine ACode.s_skip ?_; conv => whnf) | (refine ACode.s_label ?_; conv => whnf))
        refine ⟨by first | omega | (simp; omega), ?_⟩
        conv => whnf
        repeat (first | refine ACode.seq ?_ | (refine ACode.s_reg tys_ok ?_; conv => whnf) | refine ACode.s_block ?_ | refine ACode.s_scope ?_ | (refine ACode.s_cond ?_; conv => whnf) | (refine ACode.s_exit ?_; conv => whnf) | (refine ACode.s_ret ?_; conv => whnf) | (refine ACode.s_skip ?_; conv => whnf) | (refine ACode.s_label ?_; conv => whnf))
        refine ⟨i + 1, ?_⟩
        conv => whnf
        repeat (refine And.intro ?_ ?_; (focus (first | rfl | (simp; done) | (first | exact hw1 | exact congrArg AV.str (by show _ = (if i = n then blk W n i ++ [9, 32] else blk W n i) ++ W[i]?.getD [] ++ [32]; rw [if_neg hn1, List.getElem?_eq_getElem h]; rfl); done))); conv => whnf)
        exact ⟨h, by omega⟩
    · have h : i = W.length := by have := of_decide_eq_false h; omega
      rw [h]
      obtain ⟨b1, b2, b3⟩ := hblk W.length (Nat.le_refl _)
      rw [List.take_length] at b2
      have b6 := blk_len (W := W) n W.length (Nat.le_refl _)
      rw [List.take_length] at b6
      have b7 : (blk W n W.length).length ≤ 203 := by split at b6 <;> omega
      generalize blk W n W.length = S at *
      conv => whnf
      repeat (first | refine ACode.seq ?_ | (refine ACode.s_reg tys_ok ?_; conv => whnf) | refine ACode.s_block ?_ | refine ACode.s_scope ?_ | (refine ACode.s_cond ?_; conv => whnf) | (refine ACode.s_exit ?_; conv => whnf) | (refine ACode.s_ret ?_; conv => whnf) | (refine ACode.s_skip ?_; conv => whnf) | (refine ACode.s_label ?_; conv => whnf))
      refine ⟨⟨rfl, by simp; omega⟩, ?_⟩
      rw [List.nil_append]
      conv => whnf
      repeat (first | refine ACode.seq ?_ | (refine ACode.s_reg tys_ok ?_; conv => whnf) | refine ACode.s_block ?_ | refine ACode.s_scope ?_ | (refine ACode.s_cond ?_; conv => whnf) | (refine ACode.s_exit ?_; conv => whnf) | (refine ACode.s_ret ?_; conv => whnf) | (refine ACode.s_skip ?_; conv => whnf) | (refine ACode.s_label ?_; conv => whnf))
      refine ⟨by first | omega | (simp; omega), ?_⟩
      have b4 := end_more b1
      rw [b2] at b4
      have hsl2 : (S ++ (⟨#[32, 32]⟩ : ByteArray).data.toList).length ≤ 1000 := by simp; omega
      have b5 : wordsW (S ++ (⟨#[32, 32]⟩ : ByteArray).data.toList) = W := b4
      generalize S ++ (⟨#[32, 32]⟩ : ByteArray).data.toList = S2 at *
      conv => whnf
      repeat (first | refine ACode.seq ?_ | (refine ACode.s_reg tys_ok ?_; conv => whnf) | refine ACode.s_block ?_ | refine ACode.s_scope ?_ | (refine ACode.s_cond ?_; conv => whnf) | (refine ACode.s_exit ?_; conv => whnf) | (refine ACode.s_ret ?_; conv => whnf) | (refine ACode.s_skip ?_; conv => whnf) | (refine ACode.s_label ?_; conv => whnf))
      refine ⟨⟨by omega, by simp; omega⟩, ?_⟩
      conv => whnf
      repeat (first | refine ACode.seq ?_ | (refine ACode.s_reg tys_ok ?_; conv => whnf) | refine ACode.s_block ?_ | refine ACode.s_scope ?_ | (refine ACode.s_cond ?_; conv => whnf) | (refine ACode.s_exit ?_; conv => whnf) | (refine ACode.s_ret ?_; conv => whnf) | (refine ACode.s_skip ?_; conv => whnf) | (refine ACode.s_label ?_; conv => whnf))
      rw [Nat.zero_add, Int.toNat_natCast]
      refine ⟨_, strs_get ls m hm, ?_⟩
      conv => whnf
      rw [show (strs ls).set m (AV.str S2) = strs (ls.set m S2) from List.map_set.symm]
      conv => whnf
      repeat (first | refine ACode.seq ?_ | (refine ACode.s_reg tys_ok ?_; conv => whnf) | refine ACode.s_block ?_ | refine ACode.s_scope ?_ | (refine ACode.s_cond ?_; conv => whnf) | (refine ACode.s_exit ?_; conv => whnf) | (refine ACode.s_ret ?_; conv => whnf) | (refine ACode.s_skip ?_; conv => whnf) | (refine ACode.s_label ?_; conv => whnf))
      have hset2 := hset S2 b5
      have hlen2 : (ls.set m S2).length = ls.length := List.length_set
      have hl2 : ∀ l ∈ ls.set m S2, l.length ≤ 1000 := fun l hl => by
        rcases List.mem_or_eq_of_mem_set hl with hl | rfl
        · have := hn200 l hl; omega
        · omega
      have hR : parseR f (ls.set m S2) = parseR f ls := parse_same f hset2
      generalize ls.set m S2 = ls2 at *
      refine ACall.of_spec (parse_spec f ls hs (by omega) (fun l hl => by have := hn200 l hl; omega)) rfl fun r hr => ?_
      subst hr
      conv => whnf
      repeat (first | refine ACode.seq ?_ | (refine ACode.s_reg tys_ok ?_; conv => whnf) | refine ACode.s_block ?_ | refine ACode.s_scope ?_ | (refine ACode.s_cond ?_; conv => whnf) | (refine ACode.s_exit ?_; conv => whnf) | (refine ACode.s_ret ?_; conv => whnf) | (refine ACode.s_skip ?_; conv => whnf) | (refine ACode.s_label ?_; conv => whnf))
      have hsl3 : (strs ls).length = (strs ls2).length := by rw [strs_len, strs_len]; exact hlen2.symm
      rw [hsl3]
      refine ACall.freeze 1 ?_ (by kernel_rfl)
      conv => whnf
      refine ⟨strs_closed _, ?_⟩
      conv => whnf
      repeat (refine ⟨(by first | rfl | (simp; done) : (_ : Nat) = _), ?_⟩; conv => whnf)
      refine ACall.of_spec (parse_spec f ls2 hs (by omega) hl2) rfl fun r hr => ?_
      rw [hR] at hr
      subst hr
      have h16 : (parseR f ls).1.length ≤ 16 := parse_few f ls
      generalize parseR f ls = R1 at *
      conv => whnf
      repeat (first | refine ACode.seq ?_ | (refine ACode.s_reg tys_ok ?_; conv => whnf) | refine ACode.s_block ?_ | refine ACode.s_scope ?_ | (refine ACode.s_cond ?_; conv => whnf) | (refine ACode.s_exit ?_; conv => whnf) | (refine ACode.s_ret ?_; conv => whnf) | (refine ACode.s_skip ?_; conv => whnf) | (refine ACode.s_label ?_; conv => whnf))
      repeat' (first | (refine And.intro (fun _ => ?_) (fun _ => ?_) <;> conv => whnf) | (refine ACall.of_spec (same_spec R1.1 R1.1 (by omega) (by omega)) rfl fun r hr => ?_; subst hr; conv => whnf) | refine ACode.seq ?_ | (refine ACode.s_reg tys_ok ?_; conv => whnf) | refine ACode.s_block ?_ | refine ACode.s_scope ?_ | (refine ACode.s_cond ?_; conv => whnf) | (refine ACode.s_exit ?_; conv => whnf) | (refine ACode.s_ret ?_; conv => whnf) | (refine ACode.s_skip ?_; conv => whnf) | (refine ACode.s_label ?_; conv => whnf))
      all_goals first | exact congrArg AV.bool (decide_eq_true rfl) | (rename_i h5; simp at h5; done) | (exfalso; simp_all; done)
end Go.Proofs.YtbodeejogdckgaaGreatDoor
