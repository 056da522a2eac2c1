/-
  The reference: part, Words, joined, Number.
-/
import Derived.Test.YtbodeejogdckgaaGreatDoorG1
set_option linter.unusedVariables false
set_option linter.unusedSimpArgs false
namespace Go.Proofs.YtbodeejogdckgaaGreatDoor
open Go.Av Go.Shelf Pl
set_option maxRecDepth 100000 in
theorem rpart_spec (p : Pt) (ht : p.t.length ≤ 1000) : Ctr Tryz.prog 45 [p.v] (fun r => r = .bool (partB p)) := by
  refine Ctr.of_body Tryz.func45 rfl tys_ok (by kernel_rfl) ?_
  conv => whnf
  repeat (first | refine ACode.seq ?_ | (refine ACode.s_reg tys_ok ?_; conv => whnf) | refine ACode.s_block ?_ | refine ACode.s_scope ?_ | (refine ACode.s_cond ?_; conv => whnf) | (refine ACode.s_exit ?_; conv => whnf) | (refine ACode.s_ret ?_; conv => whnf) | (refine ACode.s_skip ?_; conv => whnf) | (refine ACode.s_label ?_; conv => whnf))
  repeat' (first | (refine And.intro (fun _ => ?_) (fun _ => ?_) <;> conv => whnf) | (refine ACall.of_spec (rfit_spec p.t (by omega)) rfl fun r hr => ?_; subst hr; conv => whnf) | (refine ACall.of_spec (rpattern_spec p.t (by omega)) rfl fun r hr => ?_; subst hr; conv => whnf) | refine ACode.seq ?_ | (refine ACode.s_reg tys_ok ?_; conv => whnf) | refine ACode.s_block ?_ | refine ACode.s_scope ?_ | (refine ACode.s_cond ?_; conv => whnf) | (refine ACode.s_exit ?_; conv => whnf) | (refine ACode.s_ret ?_; conv => whnf) | (refine ACode.s_skip ?_; conv => whnf) | (refine ACode.s_label ?_; conv => whnf))
  all_goals
    refine congrArg AV.bool ?_
    unfold partB
    try simp only [decide_eq_true_eq, decide_eq_false_iff_not] at *
    try simp only [*, if_true, if_false, reduceIte, or_self, or_false, false_or, true_or, or_true]
    try first | done | (rw [Bool.eq_iff_iff]; simp_all; done) | (rw [Bool.eq_iff_iff]; simp_all <;> omega) | trace_state
theorem strs_snoc (l : List Bs) (w : Bs) : strs l ++ [AV.str w] = strs (l ++ [w]) := by simp only [strs, List.map_append, List.map_cons, List.map_nil]
set_option maxRecDepth 100000 in
theorem rwords_spec (l : Bs) (hl : l.length ≤ 100000) : Ctr Tryz.prog 18 [.str l] (fun r => r = strsA (wordsW l)) := by
  refine Ctr.of_body Tryz.func18 rfl tys_ok (by kernel_rfl) ?_
  conv => whnf
  repeat (first | refine ACode.seq ?_ | (refine ACode.s_reg tys_ok ?_; conv => whnf) | refine ACode.s_block ?_ | refine ACode.s_scope ?_ | (refine ACode.s_cond ?_; conv => whnf) | (refine ACode.s_exit ?_; conv => whnf) | (refine ACode.s_ret ?_; conv => whnf) | (refine ACode.s_skip ?_; conv => whnf) | (refine ACode.s_label ?_; conv => whnf))
  refine ACode.loopD (fun x : Nat × List Bs × Bs => mk 43 [(0, .str l), (3, .own 0 1 0 x.2.1.length), (4, .str x.2.2), (5, .int .i64 x.1)]) (fun x => [.arr 9 1 (strs x.2.1)])
    (fun x => x.1 ≤ l.length + 1 ∧ x.2.1.length ≤ x.1 ∧ x.2.2.length ≤ x.1 ∧ (x.1 ≤ l.length → wordsW l = x.2.1 ++ wsGo x.2.2 (l.drop x.1)) ∧ (l.length < x.1 → wordsW l = x.2.1)) (fun x => l.length + 1 - x.1) (fun _ _ => ⟨rfl, strs_closed _, trivial⟩) ⟨(0, [], []), ?_⟩ (fun _ => rfl) ?_
  · conv => whnf
    repeat (refine And.intro ?_ ?_; (focus (first | rfl | (simp; done))); conv => whnf)
    exact ⟨fun _ => rfl, fun h => absurd h (Nat.not_lt_zero _)⟩
  · rintro ⟨i, out, word⟩ ⟨hi, ho, hw, h1, h2⟩
    dsimp only at hi ho hw h1 h2
    dsimp only
    have hw1 : Wr .i64 ((i : Int) + 1) = ((i + 1 : Nat) : Int) := by rw [Wr64 _ (by omega) (by omega)]; rfl
    repeat (first | refine ACode.seq ?_ | (refine ACode.s_reg tys_ok ?_; conv => whnf) | refine ACode.s_block ?_ | refine ACode.s_scope ?_ | (refine ACode.s_cond ?_; conv => whnf) | (refine ACode.s_exit ?_; conv => whnf) | (refine ACode.s_ret ?_; conv => whnf) | (refine ACode.s_skip ?_; conv => whnf) | (refine ACode.s_label ?_; conv => whnf))
    refine ⟨fun h => ?_, fun h => ?_⟩
    · have h : i ≤ l.length := by have := of_decide_eq_true h; omega
      have h1 := h1 h
      conv => whnf
      repeat (first | refine ACode.seq ?_ | (refine ACode.s_reg tys_ok ?_; conv => whnf) | refine ACode.s_block ?_ | refine ACode.s_scope ?_ | (refine ACode.s_cond ?_; conv => whnf) | (refine ACode.s_exit ?_; conv => whnf) | (refine ACode.s_ret ?_; conv => whnf) | (refine ACode.s_skip ?_; conv => whnf) | (refine ACode.s_label ?_; conv => whnf))
      refine ⟨fun h3 => ?_, fun h3 => ?_⟩
      · have h3 : i < l.length := by have := of_decide_eq_false h3; omega
        have hgl : l.getD (i : Int).toNat 0 = l[i] := by simp [List.getD, h3]
        have hdr : l.drop i = l[i] :: l.drop (i + 1) := List.drop_eq_getElem_cons h3
        rw [hdr] at h1
        conv => whnf
        repeat (first | refine ACode.seq ?_ | (refine ACode.s_reg tys_ok ?_; conv => whnf) | refine ACode.s_block ?_ | refine ACode.s_scope ?_ | (refine ACode.s_cond ?_; conv => whnf) | (refine ACode.s_exit ?_; conv => whnf) | (refine ACode.s_ret ?_; conv => whnf) | (refine ACode.s_skip ?_; conv => whnf) | (refine ACode.s_label ?_; conv => whnf))
        repeat' (first | (refine And.intro (fun _ => ?_) (fun _ => ?_) <;> conv => whnf) | (refine And.intro ⟨by omega, by omega⟩ ?_; (conv => whnf); first | rw [hgl]) | refine ACode.seq ?_ | (refine ACode.s_reg tys_ok ?_; conv => whnf) | refine ACode.s_block ?_ | refine ACode.s_scope ?_ | (refine ACode.s_cond ?_; conv => whnf) | (refine ACode.s_exit ?_; conv => whnf) | (refine ACode.s_ret ?_; conv => whnf) | (refine ACode.s_skip ?_; conv => whnf) | (refine ACode.s_label ?_; conv => whnf))
        · have hbl : blankB l[i] = true := by
            unfold blankB
            simp only [decide_eq_true_eq, decide_eq_false_iff_not] at *
            simp only [Bool.or_eq_true, decide_eq_true_eq]
            omega
          have hx : word ≠ [] := fun e => by rename_i hz; rw [e] at hz; simp at hz
          refine ⟨rfl, ?_⟩
          conv => whnf
          refine ⟨⟨by simp, by simp; omega⟩, ?_⟩
          conv => whnf
          repeat (first | refine ACode.seq ?_ | (refine ACode.s_reg tys_ok ?_; conv => whnf) | refine ACode.s_block ?_ | refine ACode.s_scope ?_ | (refine ACode.s_cond ?_; conv => whnf) | (refine ACode.s_exit ?_; conv => whnf) | (refine ACode.s_ret ?_; conv => whnf) | (refine ACode.s_skip ?_; conv => whnf) | (refine ACode.s_label ?_; conv => whnf))
          refine ⟨(i + 1, out ++ [word], []), ?_⟩
          conv => whnf
          repeat (refine And.intro ?_ ?_; (focus (first | rfl | (simp; done) | (first | exact hw1 | exact congrArg (AV.own 0 1 0) (by simp) | exact congrArg (HO.arr _ 1) (strs_snoc out word); done))); conv => whnf)
          dsimp only
          refine ⟨⟨by omega, by rw [List.length_append]; simp; omega, Nat.zero_le _, fun _ => ?_, fun h9 => ?_⟩, by omega⟩
          · rw [h1, wsGo, if_pos hbl, if_neg hx]; simp
          · omega
        · have hbl : blankB l[i] = true := by
            unfold blankB
            simp only [decide_eq_true_eq, decide_eq_false_iff_not] at *
            simp only [Bool.or_eq_true, decide_eq_true_eq]
            omega
          have hx : word = [] := by rename_i hz; simpa using hz
          refine ⟨(i + 1, out, []), ?_⟩
          conv => whnf
          repeat (refine And.intro ?_ ?_; (focus (first | rfl | (simp; done) | (first | exact hw1; done))); conv => whnf)
          dsimp only
          refine ⟨⟨by omega, by omega, Nat.zero_le _, fun _ => ?_, fun h9 => ?_⟩, by omega⟩
          · rw [h1, wsGo, if_pos hbl, if_pos hx]
          · omega
        · have hbl : blankB l[i] = false := by
            unfold blankB
            rename_i k1 k2
            simp only [decide_eq_true_eq, decide_eq_false_iff_not] at k1 k2
            rw [Bool.or_eq_false_iff]
            simp only [decide_eq_false_iff_not]
            omega
          have hone : List.drop ((i : Nat) : Int).toNat (List.take (((i + 1 : Nat) : Nat) : Int).toNat l) = [l[i]] := by
            simp only [Int.toNat_natCast]
            rw [List.take_succ_eq_append_getElem h3, List.drop_append_of_le_length (by rw [List.length_take]; omega), List.drop_eq_nil_of_le (by rw [List.length_take]; omega), List.nil_append]
          rw [hw1, hone]
          refine ⟨⟨by omega, by omega, by omega⟩, ?_⟩
          conv => whnf
          repeat (first | refine ACode.seq ?_ | (refine ACode.s_reg tys_ok ?_; conv => whnf) | refine ACode.s_block ?_ | refine ACode.s_scope ?_ | (refine ACode.s_cond ?_; conv => whnf) | (refine ACode.s_exit ?_; conv => whnf) | (refine ACode.s_ret ?_; conv => whnf) | (refine ACode.s_skip ?_; conv => whnf) | (refine ACode.s_label ?_; conv => whnf))
          refine ⟨by simp; omega, ?_⟩
          conv => whnf
          repeat (first | refine ACode.seq ?_ | (refine ACode.s_reg tys_ok ?_; conv => whnf) | refine ACode.s_block ?_ | refine ACode.s_scope ?_ | (refine ACode.s_cond ?_; conv => whnf) | (refine ACode.s_exit ?_; conv => whnf) | (refine ACode.s_ret ?_; conv => whnf) | (refine ACode.s_skip ?_; conv => whnf) | (refine ACode.s_label ?_; conv => whnf))
          refine ⟨(i + 1, out, word ++ [l[i]]), ?_⟩
          conv => whnf
          repeat (refine And.intro ?_ ?_; (focus (first | rfl | (simp; done) | (first | exact hw1; done))); conv => whnf)
          dsimp only
          refine ⟨⟨by omega, by omega, by rw [List.length_append]; simp; omega, fun _ => ?_, fun h9 => absurd h9 (by omega)⟩, by omega⟩
          rw [h1, wsGo, if_neg (by rw [hbl]; simp)]
        · have hbl : blankB l[i] = true := by
            unfold blankB
            simp only [decide_eq_true_eq, decide_eq_false_iff_not] at *
            simp only [Bool.or_eq_true, decide_eq_true_eq]
            omega
          have hx : word ≠ [] := fun e => by rename_i hz; rw [e] at hz; simp at hz
          refine ⟨rfl, ?_⟩
          conv => whnf
          refine ⟨⟨by simp, by simp; omega⟩, ?_⟩
          conv => whnf
          repeat (first | refine ACode.seq ?_ | (refine ACode.s_reg tys_ok ?_; conv => whnf) | refine ACode.s_block ?_ | refine ACode.s_scope ?_ | (refine ACode.s_cond ?_; conv => whnf) | (refine ACode.s_exit ?_; conv => whnf) | (refine ACode.s_ret ?_; conv => whnf) | (refine ACode.s_skip ?_; conv => whnf) | (refine ACode.s_label ?_; conv => whnf))
          refine ⟨(i + 1, out ++ [word], []), ?_⟩
          conv => whnf
          repeat (refine And.intro ?_ ?_; (focus (first | rfl | (simp; done) | (first | exact hw1 | exact congrArg (AV.own 0 1 0) (by simp) | exact congrArg (HO.arr _ 1) (strs_snoc out word); done))); conv => whnf)
          dsimp only
          refine ⟨⟨by omega, by rw [List.length_append]; simp; omega, Nat.zero_le _, fun _ => ?_, fun h9 => ?_⟩, by omega⟩
          · rw [h1, wsGo, if_pos hbl, if_neg hx]; simp
          · omega
        · have hbl : blankB l[i] = true := by
            unfold blankB
            simp only [decide_eq_true_eq, decide_eq_false_iff_not] at *
            simp only [Bool.or_eq_true, decide_eq_true_eq]
            omega
          have hx : word = [] := by rename_i hz; simpa using hz
          refine ⟨(i + 1, out, []), ?_⟩
          conv => whnf
          repeat (refine And.intro ?_ ?_; (focus (first | rfl | (simp; done) | (first | exact hw1; done))); conv => whnf)
          dsimp only
          refine ⟨⟨by omega, by omega, Nat.zero_le _, fun _ => ?_, fun h9 => ?_⟩, by omega⟩
          · rw [h1, wsGo, if_pos hbl, if_pos hx]
          · omega
      · have h3 : i = l.length := by have := of_decide_eq_true h3; omega
        subst h3
        rw [List.drop_length] at h1
        conv => whnf
        repeat (first | refine ACode.seq ?_ | (refine ACode.s_reg tys_ok ?_; conv => whnf) | refine ACode.s_block ?_ | refine ACode.s_scope ?_ | (refine ACode.s_cond ?_; conv => whnf) | (refine ACode.s_exit ?_; conv => whnf) | (refine ACode.s_ret ?_; conv => whnf) | (refine ACode.s_skip ?_; conv => whnf) | (refine ACode.s_label ?_; conv => whnf))
        repeat' (first | (refine And.intro (fun _ => ?_) (fun _ => ?_) <;> conv => whnf) | refine ACode.seq ?_ | (refine ACode.s_reg tys_ok ?_; conv => whnf) | refine ACode.s_block ?_ | refine ACode.s_scope ?_ | (refine ACode.s_cond ?_; conv => whnf) | (refine ACode.s_exit ?_; conv => whnf) | (refine ACode.s_ret ?_; conv => whnf) | (refine ACode.s_skip ?_; conv => whnf) | (refine ACode.s_label ?_; conv => whnf))
        · have hx : word ≠ [] := fun e => by rename_i hz; rw [e] at hz; simp at hz
          refine ⟨rfl, ?_⟩
          conv => whnf
          refine ⟨⟨by simp, by simp; omega⟩, ?_⟩
          conv => whnf
          repeat (first | refine ACode.seq ?_ | (refine ACode.s_reg tys_ok ?_; conv => whnf) | refine ACode.s_block ?_ | refine ACode.s_scope ?_ | (refine ACode.s_cond ?_; conv => whnf) | (refine ACode.s_exit ?_; conv => whnf) | (refine ACode.s_ret ?_; conv => whnf) | (refine ACode.s_skip ?_; conv => whnf) | (refine ACode.s_label ?_; conv => whnf))
          refine ⟨(l.length + 1, out ++ [word], []), ?_⟩
          conv => whnf
          repeat (refine And.intro ?_ ?_; (focus (first | rfl | (simp; done) | (first | exact hw1 | exact congrArg (AV.own 0 1 0) (by simp) | exact congrArg (HO.arr _ 1) (strs_snoc out word); done))); conv => whnf)
          dsimp only
          refine ⟨⟨by omega, by rw [List.length_append]; simp; omega, Nat.zero_le _, fun h9 => absurd h9 (by omega), fun h9 => ?_⟩, by omega⟩
          rw [h1, wsGo, if_neg hx]
        · have hx : word = [] := by rename_i hz; simpa using hz
          refine ⟨(l.length + 1, out, []), ?_⟩
          conv => whnf
          repeat (refine And.intro ?_ ?_; (focus (first | rfl | (simp; done) | (first | exact hw1; done))); conv => whnf)
          dsimp only
          refine ⟨⟨by omega, by omega, Nat.zero_le _, fun h9 => absurd h9 (by omega), fun h9 => ?_⟩, by omega⟩
          rw [h1, wsGo, if_pos hx, List.append_nil]
    · have h : l.length < i := by have := of_decide_eq_false h; omega
      have h2 := h2 h
      conv => whnf
      repeat (first | refine ACode.seq ?_ | (refine ACode.s_reg tys_ok ?_; conv => whnf) | refine ACode.s_block ?_ | refine ACode.s_scope ?_ | (refine ACode.s_cond ?_; conv => whnf) | (refine ACode.s_exit ?_; conv => whnf) | (refine ACode.s_ret ?_; conv => whnf) | (refine ACode.s_skip ?_; conv => whnf) | (refine ACode.s_label ?_; conv => whnf))
      refine ⟨⟨by simp, strs_closed _⟩, ?_⟩
      conv => whnf
      exact congrArg (fun x => AV.sl 1 (strs x)) h2.symm
theorem join_snoc : ∀ (a : List Bs) (x : Bs), a ≠ [] → Lib.join (a ++ [x]) [32] = Lib.join a [32] ++ [32] ++ x
  | [], _, h => absurd rfl h
  | y :: a, x, _ => by
    rw [List.cons_append, Lib.join_cons, Lib.join_cons]
    unfold Lib.joinTail
    simp
theorem join_take (l : List Bs) (k : Nat) (h : k < l.length) (h0 : 0 < k) : Lib.join (l.take (k + 1)) [32] = Lib.join (l.take k) [32] ++ (⟨#[32]⟩ : ByteArray).data.toList ++ l[k] := by
  rw [List.take_succ_eq_append_getElem h, join_snoc _ _ fun e => by
    have := congrArg List.length e
    rw [List.length_take, List.length_nil] at this
    omega]
theorem join_take0 (l : List Bs) (h : 0 < l.length) : Lib.join (l.take 1) [32] = Lib.join (l.take 0) [32] ++ l[0] := by
  cases l with
  | nil => simp at h
  | cons x l => simp [Lib.join, Lib.joinTail]
set_option maxRecDepth 100000 in
theorem rjoined_spec (l : List Bs) (hl : l.length ≤ 1000) (hw : ∀ w ∈ l, w.length ≤ 1000) : Ctr Tryz.prog 39 [strsA l] (fun r => r = .str (Lib.join l [32])) := by
  refine Ctr.of_body Tryz.func39 rfl tys_ok (by kernel_rfl) ?_
  conv => whnf
  repeat (first | refine ACode.seq ?_ | (refine ACode.s_reg tys_ok ?_; conv => whnf) | refine ACode.s_block ?_ | refine ACode.s_scope ?_ | (refine ACode.s_cond ?_; conv => whnf) | (refine ACode.s_exit ?_; conv => whnf) | (refine ACode.s_ret ?_; conv => whnf) | (refine ACode.s_skip ?_; conv => whnf) | (refine ACode.s_label ?_; conv => whnf))
  refine ACode.loopD (fun k : Nat => mk 22 [(0, strsA l), (3, .str (Lib.join (l.take k) [32])), (4, .int .i64 k)]) (fun k => []) (fun k => k ≤ l.length) (fun k => l.length - k) (fun _ _ => ⟨rfl, trivial⟩) ⟨0, ?_⟩ (fun _ => rfl) fun k hk => ?_
  · conv => whnf
    repeat (refine And.intro ?_ ?_; (focus (first | rfl | (simp; done))); conv => whnf)
    exact Nat.zero_le _
  · repeat (first | refine ACode.seq ?_ | (refine ACode.s_reg tys_ok ?_; conv => whnf) | refine ACode.s_block ?_ | refine ACode.s_scope ?_ | (refine ACode.s_cond ?_; conv => whnf) | (refine ACode.s_exit ?_; conv => whnf) | (refine ACode.s_ret ?_; conv => whnf) | (refine ACode.s_skip ?_; conv => whnf) | (refine ACode.s_label ?_; conv => whnf))
    refine ⟨fun h => ?_, fun h => ?_⟩
    · have h : k < l.length := by rw [strs_len] at h; simpa using h
      have hw1 : Wr .i64 ((k : Int) + 1) = ((k + 1 : Nat) : Int) := by rw [Wr64 _ (by omega) (by omega)]; rfl
      have hjl := join_len [32] 1000 (l.take k) fun x hx => hw x (List.mem_of_mem_take hx)
      have hlk := hw _ (List.getElem_mem h)
      have hjb : (Lib.join (l.take k) [32]).length ≤ 1000 * 1001 := by
        refine Nat.le_trans hjl ?_
        rw [List.length_take]
        exact Nat.mul_le_mul (by omega) (by simp)
      conv => whnf
      repeat (first | refine ACode.seq ?_ | (refine ACode.s_reg tys_ok ?_; conv => whnf) | refine ACode.s_block ?_ | refine ACode.s_scope ?_ | (refine ACode.s_cond ?_; conv => whnf) | (refine ACode.s_exit ?_; conv => whnf) | (refine ACode.s_ret ?_; conv => whnf) | (refine ACode.s_skip ?_; conv => whnf) | (refine ACode.s_label ?_; conv => whnf))
      refine ⟨fun h0 => ?_, fun h0 => ?_⟩
      · have h0 : 0 < k := by simpa using h0
        conv => whnf
        repeat (first | refine ACode.seq ?_ | (refine ACode.s_reg tys_ok ?_; conv => whnf) | refine ACode.s_block ?_ | refine ACode.s_scope ?_ | (refine ACode.s_cond ?_; conv => whnf) | (refine ACode.s_exit ?_; conv => whnf) | (refine ACode.s_ret ?_; conv => whnf) | (refine ACode.s_skip ?_; conv => whnf) | (refine ACode.s_label ?_; conv => whnf))
        refine ⟨by simp; omega, ?_⟩
        conv => whnf
        repeat (first | refine ACode.seq ?_ | (refine ACode.s_reg tys_ok ?_; conv => whnf) | refine ACode.s_block ?_ | refine ACode.s_scope ?_ | (refine ACode.s_cond ?_; conv => whnf) | (refine ACode.s_exit ?_; conv => whnf) | (refine ACode.s_ret ?_; conv => whnf) | (refine ACode.s_skip ?_; conv => whnf) | (refine ACode.s_label ?_; conv => whnf))
        refine ⟨by omega, _, strs_get l k h, ?_⟩
        conv => whnf
        repeat (first | refine ACode.seq ?_ | (refine ACode.s_reg tys_ok ?_; conv => whnf) | refine ACode.s_block ?_ | refine ACode.s_scope ?_ | (refine ACode.s_cond ?_; conv => whnf) | (refine ACode.s_exit ?_; conv => whnf) | (refine ACode.s_ret ?_; conv => whnf) | (refine ACode.s_skip ?_; conv => whnf) | (refine ACode.s_label ?_; conv => whnf))
        refine ⟨by simp; omega, ?_⟩
        conv => whnf
        repeat (first | refine ACode.seq ?_ | (refine ACode.s_reg tys_ok ?_; conv => whnf) | refine ACode.s_block ?_ | refine ACode.s_scope ?_ | (refine ACode.s_cond ?_; conv => whnf) | (refine ACode.s_exit ?_; conv => whnf) | (refine ACode.s_ret ?_; conv => whnf) | (refine ACode.s_skip ?_; conv => whnf) | (refine ACode.s_label ?_; conv => whnf))
        refine ⟨k + 1, ?_⟩
        conv => whnf
        repeat (refine And.intro ?_ ?_; (focus (first | rfl | (simp; done) | (first | exact hw1 | exact congrArg AV.str (join_take l k h h0).symm; done))); conv => whnf)
        exact ⟨by omega, by omega⟩
      · have h0 : k = 0 := by simpa using h0
        subst h0
        conv => whnf
        repeat (first | refine ACode.seq ?_ | (refine ACode.s_reg tys_ok ?_; conv => whnf) | refine ACode.s_block ?_ | refine ACode.s_scope ?_ | (refine ACode.s_cond ?_; conv => whnf) | (refine ACode.s_exit ?_; conv => whnf) | (refine ACode.s_ret ?_; conv => whnf) | (refine ACode.s_skip ?_; conv => whnf) | (refine ACode.s_label ?_; conv => whnf))
        refine ⟨by omega, _, strs_get l 0 h, ?_⟩
        conv => whnf
        repeat (first | refine ACode.seq ?_ | (refine ACode.s_reg tys_ok ?_; conv => whnf) | refine ACode.s_block ?_ | refine ACode.s_scope ?_ | (refine ACode.s_cond ?_; conv => whnf) | (refine ACode.s_exit ?_; conv => whnf) | (refine ACode.s_ret ?_; conv => whnf) | (refine ACode.s_skip ?_; conv => whnf) | (refine ACode.s_label ?_; conv => whnf))
        refine ⟨by simp [Lib.join]; omega, ?_⟩
        conv => whnf
        repeat (first | refine ACode.seq ?_ | (refine ACode.s_reg tys_ok ?_; conv => whnf) | refine ACode.s_block ?_ | refine ACode.s_scope ?_ | (refine ACode.s_cond ?_; conv => whnf) | (refine ACode.s_exit ?_; conv => whnf) | (refine ACode.s_ret ?_; conv => whnf) | (refine ACode.s_skip ?_; conv => whnf) | (refine ACode.s_label ?_; conv => whnf))
        refine ⟨1, ?_⟩
        conv => whnf
        repeat (refine And.intro ?_ ?_; (focus (first | rfl | (simp; done) | (first | exact congrArg AV.str (join_take0 l h).symm | exact Wr64 _ (by omega) (by omega); done))); conv => whnf)
        exact ⟨by omega, by omega⟩
    · have h : k = l.length := by rw [strs_len] at h; simp at h; omega
      rw [h, List.take_length]
      conv => whnf
      repeat (first | refine ACode.seq ?_ | (refine ACode.s_reg tys_ok ?_; conv => whnf) | refine ACode.s_block ?_ | refine ACode.s_scope ?_ | (refine ACode.s_cond ?_; conv => whnf) | (refine ACode.s_exit ?_; conv => whnf) | (refine ACode.s_ret ?_; conv => whnf) | (refine ACode.s_skip ?_; conv => whnf) | (refine ACode.s_label ?_; conv => whnf))
set_option maxRecDepth 100000 in
theorem rnumber_spec (w : Bs) (hw : w.length ≤ 100000) : Ctr Tryz.prog 78 [.str w] (fun r => r = .int .i64 (if numOK w then (valB w : Int) else 0)) := by
  refine Ctr.of_body Tryz.func78 rfl tys_ok (by kernel_rfl) ?_
  conv => whnf
  repeat (first | refine ACode.seq ?_ | (refine ACode.s_reg tys_ok ?_; conv => whnf) | refine ACode.s_block ?_ | refine ACode.s_scope ?_ | (refine ACode.s_cond ?_; conv => whnf) | (refine ACode.s_exit ?_; conv => whnf) | (refine ACode.s_ret ?_; conv => whnf) | (refine ACode.s_skip ?_; conv => whnf) | (refine ACode.s_label ?_; conv => whnf))
  have hbad : numOK w = false → AV.int IntKind.i64 0 = .int .i64 (if numOK w then (valB w : Int) else 0) := fun h => by rw [h]; rfl
  repeat' (first | (refine And.intro (fun _ => ?_) (fun _ => ?_) <;> conv => whnf) | refine ACode.seq ?_ | (refine ACode.s_reg tys_ok ?_; conv => whnf) | refine ACode.s_block ?_ | refine ACode.s_scope ?_ | (refine ACode.s_cond ?_; conv => whnf) | (refine ACode.s_exit ?_; conv => whnf) | (refine ACode.s_ret ?_; conv => whnf) | (refine ACode.s_skip ?_; conv => whnf) | (refine ACode.s_label ?_; conv => whnf))
  · rename_i h1 h2
    have h1 : 1 ≤ w.length := by simp at h1; omega
    have h2 : w.length ≤ 4 := by simp at h2; omega
    have hnum : numOK w = (!decide (w[0] = 48) && w.all digB) := by
      unfold numOK
      rw [decide_eq_true h1, decide_eq_true h2, Bool.and_true, Bool.true_and]
      cases w with
      | nil => simp at h1
      | cons c r => simp only [List.head?_cons, Option.some.injEq, List.getElem_cons_zero]
    have hg0 : w.getD (Int.toNat 0) 0 = w[0] := by simp [List.getD, show 0 < w.length by omega]
    refine ⟨⟨by omega, by omega⟩, ?_⟩
    rw [hg0]
    conv => whnf
    repeat (first | refine ACode.seq ?_ | (refine ACode.s_reg tys_ok ?_; conv => whnf) | refine ACode.s_block ?_ | refine ACode.s_scope ?_ | (refine ACode.s_cond ?_; conv => whnf) | (refine ACode.s_exit ?_; conv => whnf) | (refine ACode.s_ret ?_; conv => whnf) | (refine ACode.s_skip ?_; conv => whnf) | (refine ACode.s_label ?_; conv => whnf))
    refine ⟨fun h3 => ?_, fun h3 => ?_⟩
    · have h3 : w[0] = 48 := by
        have : w[0].toNat = 48 := by simp at h3; omega
        exact UInt8.toNat_inj.1 this
      conv => whnf
      repeat (first | refine ACode.seq ?_ | (refine ACode.s_reg tys_ok ?_; conv => whnf) | refine ACode.s_block ?_ | refine ACode.s_scope ?_ | (refine ACode.s_cond ?_; conv => whnf) | (refine ACode.s_exit ?_; conv => whnf) | (refine ACode.s_ret ?_; conv => whnf) | (refine ACode.s_skip ?_; conv => whnf) | (refine ACode.s_label ?_; conv => whnf))
      exact hbad (by rw [hnum, decide_eq_true h3]; simp)
    · have h3 : ¬ w[0] = 48 := fun e => by simp [e] at h3
      have hnum : numOK w = w.all digB := by rw [hnum, decide_eq_false h3]; simp
      conv => whnf
      repeat (first | refine ACode.seq ?_ | (refine ACode.s_reg tys_ok ?_; conv => whnf) | refine ACode.s_block ?_ | refine ACode.s_scope ?_ | (refine ACode.s_cond ?_; conv => whnf) | (refine ACode.s_exit ?_; conv => whnf) | (refine ACode.s_ret ?_; conv => whnf) | (refine ACode.s_skip ?_; conv => whnf) | (refine ACode.s_label ?_; conv => whnf))
      refine ACode.loopD (fun k : Nat => mk 38 [(0, .str w), (2, .int .i64 0), (3, .int .i64 (valB (w.take k))), (4, .int .i64 k)]) (fun _ => []) (fun k => k ≤ w.length ∧ (w.take k).all digB = true) (fun k => w.length - k) (fun _ _ => ⟨rfl, trivial⟩) ⟨0, ?_⟩ (fun _ => rfl) fun k hk => ?_
      · conv => whnf
        repeat (refine And.intro ?_ ?_; (focus (first | rfl | (simp; done))); conv => whnf)
        simp
      · obtain ⟨hk, ha⟩ := hk
        repeat (first | refine ACode.seq ?_ | (refine ACode.s_reg tys_ok ?_; conv => whnf) | refine ACode.s_block ?_ | refine ACode.s_scope ?_ | (refine ACode.s_cond ?_; conv => whnf) | (refine ACode.s_exit ?_; conv => whnf) | (refine ACode.s_ret ?_; conv => whnf) | (refine ACode.s_skip ?_; conv => whnf) | (refine ACode.s_label ?_; conv => whnf))
        refine ⟨fun h => ?_, fun h => ?_⟩
        · have h : k < w.length := by simpa using h
          have hw1 : Wr .i64 ((k : Int) + 1) = ((k + 1 : Nat) : Int) := by rw [Wr64 _ (by omega) (by omega)]; rfl
          have hgk : w.getD (k : Int).toNat 0 = w[k] := by simp [List.getD, h]
          have ht := all_take digB w k h
          have hff := all_false digB w k h
          conv => whnf
          repeat (first | refine ACode.seq ?_ | (refine ACode.s_reg tys_ok ?_; conv => whnf) | refine ACode.s_block ?_ | refine ACode.s_scope ?_ | (refine ACode.s_cond ?_; conv => whnf) | (refine ACode.s_exit ?_; conv => whnf) | (refine ACode.s_ret ?_; conv => whnf) | (refine ACode.s_skip ?_; conv => whnf) | (refine ACode.s_label ?_; conv => whnf))
          have hvl := (parse_small (w.take k) 4 0 (by rw [List.length_take]; omega) (by omega) (by omega) ha).2
          have hvs : valB (w.take (k + 1)) = 10 * valB (w.take k) + (w[k].toNat - 48) := by
            unfold valB
            rw [List.take_succ_eq_append_getElem h, List.foldl_append]; rfl
          repeat' (first | (refine And.intro (fun _ => ?_) (fun _ => ?_) <;> conv => whnf) | (refine And.intro ⟨by omega, by omega⟩ ?_; (conv => whnf); first | rw [hgk]) | (refine ACall.of_spec (rdigit_spec w[k]) rfl fun r hr => ?_; subst hr; conv => whnf) | refine ACode.seq ?_ | (refine ACode.s_reg tys_ok ?_; conv => whnf) | refine ACode.s_block ?_ | refine ACode.s_scope ?_ | (refine ACode.s_cond ?_; conv => whnf) | (refine ACode.s_exit ?_; conv => whnf) | (refine ACode.s_ret ?_; conv => whnf) | (refine ACode.s_skip ?_; conv => whnf) | (refine ACode.s_label ?_; conv => whnf))
          · rename_i h4
            exact hbad (by rw [hnum, hff (by simpa using h4)])
          · rename_i h4
            have h4 : digB w[k] = true := by simpa using h4
            have h5 := (digB_iff w[k]).1 h4
            have hvl : valB (w.take k) < 10 ^ 5 := hvl
            have hwr : Wr .i64 (Wr .i64 (10 * ((valB (w.take k) : Nat) : Int)) + Wr .i64 (Wr .u8 ((w[k].toNat : Int) - 48))) = ((valB (w.take (k + 1)) : Nat) : Int) := by
              have e8 : Wr .u8 ((w[k].toNat : Int) - 48) = ((w[k].toNat - 48 : Nat) : Int) := by unfold Wr; simp [IntKind.wrap, IntKind.bits, IntKind.signed]; omega
              have e9 : Wr .i64 ((w[k].toNat - 48 : Nat) : Int) = ((w[k].toNat - 48 : Nat) : Int) := Wr64 _ (by omega) (by omega)
              rw [hvs, e8, e9, Wr64 (10 * _) (by omega) (by omega), Wr64 _ (by omega) (by omega)]
              omega
            refine ⟨k + 1, ?_⟩
            conv => whnf
            repeat (refine And.intro ?_ ?_; (focus (first | rfl | (simp; done) | (first | exact hw1 | exact hwr; done))); conv => whnf)
            exact ⟨⟨by omega, by rw [ht, ha, h4]; rfl⟩, by omega⟩
        · have h : k = w.length := by simp at h; omega
          rw [h, List.take_length] at ha
          rw [h, List.take_length]
          rw [← hnum] at ha
          conv => whnf
          repeat (first | refine ACode.seq ?_ | (refine ACode.s_reg tys_ok ?_; conv => whnf) | refine ACode.s_block ?_ | refine ACode.s_scope ?_ | (refine ACode.s_cond ?_; conv => whnf) | (refine ACode.s_exit ?_; conv => whnf) | (refine ACode.s_ret ?_; conv => whnf) | (refine ACode.s_skip ?_; conv => whnf) | (refine ACode.s_label ?_; conv => whnf))
          rw [ha]
          rfl
  · rename_i h1 h2
    exact hbad (by unfold numOK; rw [decide_eq_false (p := w.length ≤ 4) (by simp at h2; omega)]; rfl)
  · rename_i h1
    exact hbad (by unfold numOK; rw [decide_eq_false (p := 1 ≤ w.length) (by simp at h1; omega)]; simp)
end Go.Proofs.YtbodeejogdckgaaGreatDoor
