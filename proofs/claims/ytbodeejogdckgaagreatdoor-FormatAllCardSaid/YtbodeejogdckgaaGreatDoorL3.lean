/-
  FormatAll.
-/
import Derived.Test.YtbodeejogdckgaaGreatDoorL1
set_option linter.unusedVariables false
set_option linter.unusedSimpArgs false
namespace Go.Proofs.YtbodeejogdckgaaGreatDoor
open Go.Av Go.Shelf Pl
def wcat (l : List Bs) : Bs := l.flatMap fun w => w ++ [32]
theorem wcat_snoc (l : List Bs) (w : Bs) : wcat (l ++ [w]) = wcat l ++ w ++ [32] := by unfold wcat; rw [List.flatMap_append]; simp
theorem wcat_end : ∀ (l : List Bs), endB (wcat l) := by
  intro l
  cases hl : l.reverse with
  | nil => have : l = [] := by simpa using hl
           rw [this]; exact .inl rfl
  | cons w r =>
    have : l = r.reverse ++ [w] := by rw [← List.reverse_reverse l, hl]; simp
    rw [this, wcat_snoc]
    exact .inr ⟨_, rfl⟩
theorem wcat_words : ∀ (l : List Bs), (∀ w ∈ l, wordsW w = [w]) → wordsW (wcat l) = l
  | [], _ => rfl
  | w :: l, h => by
    have e : wcat (w :: l) = w ++ 32 :: wcat l := by simp [wcat]
    rw [e, words_app _ _ _ (by decide), h w (by simp), wcat_words l fun x hx => h x (by simp [hx])]
    rfl
theorem wcat_len : ∀ (l : List Bs), (∀ w ∈ l, w.length ≤ 20) → (wcat l).length ≤ 21 * l.length
  | [], _ => by simp [wcat]
  | w :: l, h => by
    have e : wcat (w :: l) = w ++ 32 :: wcat l := by simp [wcat]
    have h1 := h w (by simp)
    have h2 := wcat_len l fun x hx => h x (by simp [hx])
    rw [e]
    simp
    omega
def waysI (ws : List Bs) (n : Nat) : Int := if ws.all fitB = true then (waysN ws.length n : Int) else 0
theorem waysN_le (l : Nat) : ∀ n, waysN l n ≤ n
  | 0 => Nat.le_refl _
  | n + 1 => by
    have := waysN_le l n
    unfold waysN
    split <;> omega
theorem parse_div (ws : List Bs) (hw : ws.length ≤ 12) (h : wordsW (wcat ws) = ws) : (parseR flF [wcat ws]).2 = 0 ∧ ((parseR flF [wcat ws]).1.length : Int) = waysI ws 4 := by
  have hv : validF flF = true := by decide +kernel
  have hc : countW [wcat ws] ≤ 40 := by unfold countW; simp [h]; omega
  unfold parseR
  rw [if_pos hv, if_pos hc]
  have hW : [wcat ws].map wordsW = [ws] := by simp [h]
  rw [hW]
  have hl : flF.lines = divF := rfl
  unfold waysI
  by_cases hf : ws.all fitB = true
  · have hA : allFitB [ws] = true := by unfold allFitB; simpa using hf
    rw [if_pos hf, if_pos ⟨rfl, hA⟩]
    refine ⟨rfl, ?_⟩
    rw [hl]
    exact congrArg Int.ofNat (read_div ws hw)
  · have hA : ¬ allFitB [ws] = true := by unfold allFitB; simpa using hf
    rw [if_neg hf, if_neg fun e => hA e.2]
    exact ⟨rfl, rfl⟩
set_option maxRecDepth 100000 in
theorem all_law (ws : List Bs) : Ctr Tryz.prog 9 [strsA ws] (fun r => r = .bool true) := by
  refine Ctr.of_body Tryz.func9 rfl tys_ok (by kernel_rfl) ?_
  conv => whnf
  repeat (first | refine ACode.seq ?_ | (refine ACode.s_reg tys_ok ?_; conv => whnf) | refine ACode.s_block ?_ | refine ACode.s_scope ?_ | (refine ACode.s_cond ?_; conv => whnf) | (refine ACode.s_exit ?_; conv => whnf) | (refine ACode.s_ret ?_; conv => whnf) | (refine ACode.s_skip ?_; conv => whnf) | (refine ACode.s_label ?_; conv => whnf))
  refine ACall.of_spec (head_spec) rfl fun r hr => ?_
  subst hr
  conv => whnf
  repeat (first | refine ACode.seq ?_ | (refine ACode.s_reg tys_ok ?_; conv => whnf) | refine ACode.s_block ?_ | refine ACode.s_scope ?_ | (refine ACode.s_cond ?_; conv => whnf) | (refine ACode.s_exit ?_; conv => whnf) | (refine ACode.s_ret ?_; conv => whnf) | (refine ACode.s_skip ?_; conv => whnf) | (refine ACode.s_label ?_; conv => whnf))
  have hsl : (strs ws).length = ws.length := by simp
  repeat' (first | (refine And.intro (fun _ => ?_) (fun _ => ?_) <;> conv => whnf) | refine ACode.seq ?_ | (refine ACode.s_reg tys_ok ?_; conv => whnf) | refine ACode.s_block ?_ | refine ACode.s_scope ?_ | (refine ACode.s_cond ?_; conv => whnf) | (refine ACode.s_exit ?_; conv => whnf) | (refine ACode.s_ret ?_; conv => whnf) | (refine ACode.s_skip ?_; conv => whnf) | (refine ACode.s_label ?_; conv => whnf))
  rename_i h0
  have hw12 : ws.length ≤ 12 := by have := of_decide_eq_false h0; omega
  refine ACode.loopD (fun i : Nat => mk 114 [(0, strsA ws), (2, .lit false), (3, .bool true), (4, .str (wcat (ws.take i))), (5, .bool ((ws.take i).all fitB)), (6, .int .i64 i)]) (fun i => []) (fun i => i ≤ ws.length ∧ ∀ w ∈ ws.take i, wordsW w = [w] ∧ w.length ≤ 20) (fun i => ws.length - i) (fun _ _ => ⟨rfl, trivial⟩) ⟨0, ?_⟩ (fun _ => rfl) fun i hi => ?_
  · conv => whnf
    repeat (refine And.intro ?_ ?_; (focus (first | rfl | (simp; done))); conv => whnf)
    intro w hw
    cases hw
  · obtain ⟨hi, ha⟩ := hi
    repeat (first | refine ACode.seq ?_ | (refine ACode.s_reg tys_ok ?_; conv => whnf) | refine ACode.s_block ?_ | refine ACode.s_scope ?_ | (refine ACode.s_cond ?_; conv => whnf) | (refine ACode.s_exit ?_; conv => whnf) | (refine ACode.s_ret ?_; conv => whnf) | (refine ACode.s_skip ?_; conv => whnf) | (refine ACode.s_label ?_; conv => whnf))
    refine ⟨fun h => ?_, fun h => ?_⟩
    · have h : i < ws.length := by have := of_decide_eq_true h; omega
      have hw1 : Wr .i64 ((i : Int) + 1) = ((i + 1 : Nat) : Int) := by rw [Wr64 _ (by omega) (by omega)]; rfl
      have hget := strs_get ws i h
      have htk : ws.take (i + 1) = ws.take i ++ [ws[i]] := List.take_succ_eq_append_getElem h
      generalize ws[i] = w at *
      repeat (first | refine ACode.seq ?_ | (refine ACode.s_reg tys_ok ?_; conv => whnf) | refine ACode.s_block ?_ | refine ACode.s_scope ?_ | (refine ACode.s_cond ?_; conv => whnf) | (refine ACode.s_exit ?_; conv => whnf) | (refine ACode.s_ret ?_; conv => whnf) | (refine ACode.s_skip ?_; conv => whnf) | (refine ACode.s_label ?_; conv => whnf))
      refine ACode.draw [] tys_ok (by kernel_rfl) (by kernel_rfl) ?_
      conv => whnf
      refine ⟨by omega, _, hget, ?_⟩
      conv => whnf
      refine ⟨fun g1 => ?_, fun g1 => ?_⟩
      · conv => whnf
        repeat (first | refine ACode.seq ?_ | (refine ACode.s_reg tys_ok ?_; conv => whnf) | refine ACode.s_block ?_ | refine ACode.s_scope ?_ | (refine ACode.s_cond ?_; conv => whnf) | (refine ACode.s_exit ?_; conv => whnf) | (refine ACode.s_ret ?_; conv => whnf) | (refine ACode.s_skip ?_; conv => whnf) | (refine ACode.s_label ?_; conv => whnf))
        repeat' (first | (refine And.intro (fun _ => ?_) (fun _ => ?_) <;> conv => whnf) | refine ACode.seq ?_ | (refine ACode.s_reg tys_ok ?_; conv => whnf) | refine ACode.s_block ?_ | refine ACode.s_scope ?_ | (refine ACode.s_cond ?_; conv => whnf) | (refine ACode.s_exit ?_; conv => whnf) | (refine ACode.s_ret ?_; conv => whnf) | (refine ACode.s_skip ?_; conv => whnf) | (refine ACode.s_label ?_; conv => whnf))
      · conv => whnf
        repeat (first | refine ACode.seq ?_ | (refine ACode.s_reg tys_ok ?_; conv => whnf) | refine ACode.s_block ?_ | refine ACode.s_scope ?_ | (refine ACode.s_cond ?_; conv => whnf) | (refine ACode.s_exit ?_; conv => whnf) | (refine ACode.s_ret ?_; conv => whnf) | (refine ACode.s_skip ?_; conv => whnf) | (refine ACode.s_label ?_; conv => whnf))
        refine ⟨by omega, _, hget, ?_⟩
        conv => whnf
        refine ⟨fun g2 => ?_, fun g2 => ?_⟩
        · conv => whnf
          repeat (first | refine ACode.seq ?_ | (refine ACode.s_reg tys_ok ?_; conv => whnf) | refine ACode.s_block ?_ | refine ACode.s_scope ?_ | (refine ACode.s_cond ?_; conv => whnf) | (refine ACode.s_exit ?_; conv => whnf) | (refine ACode.s_ret ?_; conv => whnf) | (refine ACode.s_skip ?_; conv => whnf) | (refine ACode.s_label ?_; conv => whnf))
          repeat' (first | (refine And.intro (fun _ => ?_) (fun _ => ?_) <;> conv => whnf) | refine ACode.seq ?_ | (refine ACode.s_reg tys_ok ?_; conv => whnf) | refine ACode.s_block ?_ | refine ACode.s_scope ?_ | (refine ACode.s_cond ?_; conv => whnf) | (refine ACode.s_exit ?_; conv => whnf) | (refine ACode.s_ret ?_; conv => whnf) | (refine ACode.s_skip ?_; conv => whnf) | (refine ACode.s_label ?_; conv => whnf))
        · have hw20 : w.length ≤ 20 := by have := of_decide_eq_false g2; omega
          conv => whnf
          repeat (first | refine ACode.seq ?_ | (refine ACode.s_reg tys_ok ?_; conv => whnf) | refine ACode.s_block ?_ | refine ACode.s_scope ?_ | (refine ACode.s_cond ?_; conv => whnf) | (refine ACode.s_exit ?_; conv => whnf) | (refine ACode.s_ret ?_; conv => whnf) | (refine ACode.s_skip ?_; conv => whnf) | (refine ACode.s_label ?_; conv => whnf))
          refine ⟨by omega, _, hget, ?_⟩
          conv => whnf
          refine ⟨_, ⟨rwords_spec w (by omega), rfl⟩, ?_⟩
          conv => whnf
          refine ⟨fun g3 => ?_, fun g3 => ?_⟩
          · conv => whnf
            repeat (first | refine ACode.seq ?_ | (refine ACode.s_reg tys_ok ?_; conv => whnf) | refine ACode.s_block ?_ | refine ACode.s_scope ?_ | (refine ACode.s_cond ?_; conv => whnf) | (refine ACode.s_exit ?_; conv => whnf) | (refine ACode.s_ret ?_; conv => whnf) | (refine ACode.s_skip ?_; conv => whnf) | (refine ACode.s_label ?_; conv => whnf))
            repeat' (first | (refine And.intro (fun _ => ?_) (fun _ => ?_) <;> conv => whnf) | refine ACode.seq ?_ | (refine ACode.s_reg tys_ok ?_; conv => whnf) | refine ACode.s_block ?_ | refine ACode.s_scope ?_ | (refine ACode.s_cond ?_; conv => whnf) | (refine ACode.s_exit ?_; conv => whnf) | (refine ACode.s_ret ?_; conv => whnf) | (refine ACode.s_skip ?_; conv => whnf) | (refine ACode.s_label ?_; conv => whnf))
          · obtain ⟨u, hu⟩ : ∃ u, wordsW w = [u] := by
              have g3 : (wordsW w).length = 1 := by simp at g3; omega
              exact List.length_eq_one_iff.1 g3
            have hu0 : (strs (wordsW w))[(0 : Int).toNat]? = some (AV.str u) := by rw [hu]; rfl
            conv => whnf
            repeat (first | refine ACode.seq ?_ | (refine ACode.s_reg tys_ok ?_; conv => whnf) | refine ACode.s_block ?_ | refine ACode.s_scope ?_ | (refine ACode.s_cond ?_; conv => whnf) | (refine ACode.s_exit ?_; conv => whnf) | (refine ACode.s_ret ?_; conv => whnf) | (refine ACode.s_skip ?_; conv => whnf) | (refine ACode.s_label ?_; conv => whnf))
            refine ⟨by omega, _, hget, ?_⟩
            conv => whnf
            refine ⟨_, ⟨rwords_spec w (by omega), rfl⟩, ?_⟩
            conv => whnf
            refine ⟨by omega, _, hu0, ?_⟩
            conv => whnf
            refine ⟨by omega, _, hget, ?_⟩
            conv => whnf
            refine ⟨fun g4 => ?_, fun g4 => ?_⟩
            · conv => whnf
              repeat (first | refine ACode.seq ?_ | (refine ACode.s_reg tys_ok ?_; conv => whnf) | refine ACode.s_block ?_ | refine ACode.s_scope ?_ | (refine ACode.s_cond ?_; conv => whnf) | (refine ACode.s_exit ?_; conv => whnf) | (refine ACode.s_ret ?_; conv => whnf) | (refine ACode.s_skip ?_; conv => whnf) | (refine ACode.s_label ?_; conv => whnf))
              repeat' (first | (refine And.intro (fun _ => ?_) (fun _ => ?_) <;> conv => whnf) | refine ACode.seq ?_ | (refine ACode.s_reg tys_ok ?_; conv => whnf) | refine ACode.s_block ?_ | refine ACode.s_scope ?_ | (refine ACode.s_cond ?_; conv => whnf) | (refine ACode.s_exit ?_; conv => whnf) | (refine ACode.s_ret ?_; conv => whnf) | (refine ACode.s_skip ?_; conv => whnf) | (refine ACode.s_label ?_; conv => whnf))
            · have g4 : u = w := by simpa using g4
              rw [g4] at hu
              have hle : (wcat (ws.take i)).length ≤ 252 := by
                have h5 := wcat_len (ws.take i) fun x hx => (ha x hx).2
                rw [List.length_take] at h5
                omega
              have hnx : ∀ x ∈ ws.take (i + 1), wordsW x = [x] ∧ x.length ≤ 20 := fun x hx => by
                rw [htk] at hx
                rcases List.mem_append.1 hx with hx | hx
                · exact ha x hx
                · rw [List.mem_singleton.1 hx]; exact ⟨hu, hw20⟩
              have hwc : wcat (ws.take (i + 1)) = wcat (ws.take i) ++ w ++ [32] := by rw [htk, wcat_snoc]
              have hft : (ws.take (i + 1)).all fitB = ((ws.take i).all fitB && fitB w) := by rw [htk, List.all_append]; simp
              conv => whnf
              repeat (first | refine ACode.seq ?_ | (refine ACode.s_reg tys_ok ?_; conv => whnf) | refine ACode.s_block ?_ | refine ACode.s_scope ?_ | (refine ACode.s_cond ?_; conv => whnf) | (refine ACode.s_exit ?_; conv => whnf) | (refine ACode.s_ret ?_; conv => whnf) | (refine ACode.s_skip ?_; conv => whnf) | (refine ACode.s_label ?_; conv => whnf))
              refine ⟨fun g5 => ?_, fun g5 => ?_⟩
              · conv => whnf
                repeat (first | refine ACode.seq ?_ | (refine ACode.s_reg tys_ok ?_; conv => whnf) | refine ACode.s_block ?_ | refine ACode.s_scope ?_ | (refine ACode.s_cond ?_; conv => whnf) | (refine ACode.s_exit ?_; conv => whnf) | (refine ACode.s_ret ?_; conv => whnf) | (refine ACode.s_skip ?_; conv => whnf) | (refine ACode.s_label ?_; conv => whnf))
                refine ⟨by omega, _, hget, ?_⟩
                conv => whnf
                repeat (first | refine ACode.seq ?_ | (refine ACode.s_reg tys_ok ?_; conv => whnf) | refine ACode.s_block ?_ | refine ACode.s_scope ?_ | (refine ACode.s_cond ?_; conv => whnf) | (refine ACode.s_exit ?_; conv => whnf) | (refine ACode.s_ret ?_; conv => whnf) | (refine ACode.s_skip ?_; conv => whnf) | (refine ACode.s_label ?_; conv => whnf))
                refine ACall.of_spec (rfit_spec w (by omega)) rfl fun r hr => ?_
                subst hr
                conv => whnf
                repeat (first | refine ACode.seq ?_ | (refine ACode.s_reg tys_ok ?_; conv => whnf) | refine ACode.s_block ?_ | refine ACode.s_scope ?_ | (refine ACode.s_cond ?_; conv => whnf) | (refine ACode.s_exit ?_; conv => whnf) | (refine ACode.s_ret ?_; conv => whnf) | (refine ACode.s_skip ?_; conv => whnf) | (refine ACode.s_label ?_; conv => whnf))
                refine ⟨by omega, _, hget, ?_⟩
                conv => whnf
                repeat (first | refine ACode.seq ?_ | (refine ACode.s_reg tys_ok ?_; conv => whnf) | refine ACode.s_block ?_ | refine ACode.s_scope ?_ | (refine ACode.s_cond ?_; conv => whnf) | (refine ACode.s_exit ?_; conv => whnf) | (refine ACode.s_ret ?_; conv => whnf) | (refine ACode.s_skip ?_; conv => whnf) | (refine ACode.s_label ?_; conv => whnf))
                refine ⟨by first | omega | (simp; omega), ?_⟩
                conv => whnf
                repeat (first | refine ACode.seq ?_ | (refine ACode.s_reg tys_ok ?_; conv => whnf) | refine ACode.s_block ?_ | refine ACode.s_scope ?_ | (refine ACode.s_cond ?_; conv => whnf) | (refine ACode.s_exit ?_; conv => whnf) | (refine ACode.s_ret ?_; conv => whnf) | (refine ACode.s_skip ?_; conv => whnf) | (refine ACode.s_label ?_; conv => whnf))
                refine ⟨by first | omega | (simp; omega), ?_⟩
                conv => whnf
                repeat (first | refine ACode.seq ?_ | (refine ACode.s_reg tys_ok ?_; conv => whnf) | refine ACode.s_block ?_ | refine ACode.s_scope ?_ | (refine ACode.s_cond ?_; conv => whnf) | (refine ACode.s_exit ?_; conv => whnf) | (refine ACode.s_ret ?_; conv => whnf) | (refine ACode.s_skip ?_; conv => whnf) | (refine ACode.s_label ?_; conv => whnf))
                refine ⟨i + 1, ?_⟩
                conv => whnf
                repeat (refine And.intro ?_ ?_; (focus (first | rfl | (simp; done) | (first | exact hw1 | exact congrArg AV.str hwc.symm | (simp [hft, g5]; done) | exact hwc.symm; done))); conv => whnf)
                exact ⟨⟨h, hnx⟩, by omega⟩
              · conv => whnf
                repeat (first | refine ACode.seq ?_ | (refine ACode.s_reg tys_ok ?_; conv => whnf) | refine ACode.s_block ?_ | refine ACode.s_scope ?_ | (refine ACode.s_cond ?_; conv => whnf) | (refine ACode.s_exit ?_; conv => whnf) | (refine ACode.s_ret ?_; conv => whnf) | (refine ACode.s_skip ?_; conv => whnf) | (refine ACode.s_label ?_; conv => whnf))
                refine ⟨by omega, _, hget, ?_⟩
                conv => whnf
                repeat (first | refine ACode.seq ?_ | (refine ACode.s_reg tys_ok ?_; conv => whnf) | refine ACode.s_block ?_ | refine ACode.s_scope ?_ | (refine ACode.s_cond ?_; conv => whnf) | (refine ACode.s_exit ?_; conv => whnf) | (refine ACode.s_ret ?_; conv => whnf) | (refine ACode.s_skip ?_; conv => whnf) | (refine ACode.s_label ?_; conv => whnf))
                refine ⟨by first | omega | (simp; omega), ?_⟩
                conv => whnf
                repeat (first | refine ACode.seq ?_ | (refine ACode.s_reg tys_ok ?_; conv => whnf) | refine ACode.s_block ?_ | refine ACode.s_scope ?_ | (refine ACode.s_cond ?_; conv => whnf) | (refine ACode.s_exit ?_; conv => whnf) | (refine ACode.s_ret ?_; conv => whnf) | (refine ACode.s_skip ?_; conv => whnf) | (refine ACode.s_label ?_; conv => whnf))
                refine ⟨by first | omega | (simp; omega), ?_⟩
                conv => whnf
                repeat (first | refine ACode.seq ?_ | (refine ACode.s_reg tys_ok ?_; conv => whnf) | refine ACode.s_block ?_ | refine ACode.s_scope ?_ | (refine ACode.s_cond ?_; conv => whnf) | (refine ACode.s_exit ?_; conv => whnf) | (refine ACode.s_ret ?_; conv => whnf) | (refine ACode.s_skip ?_; conv => whnf) | (refine ACode.s_label ?_; conv => whnf))
                refine ⟨i + 1, ?_⟩
                conv => whnf
                repeat (refine And.intro ?_ ?_; (focus (first | rfl | (simp; done) | (first | exact hw1 | exact congrArg AV.str hwc.symm | (simp [hft, g5]; done) | exact hwc.symm; done))); conv => whnf)
                exact ⟨⟨h, hnx⟩, by omega⟩
    · have h : i = ws.length := by have := of_decide_eq_false h; omega
      subst h
      rw [List.take_length] at ha ⊢
      repeat (first | refine ACode.seq ?_ | (refine ACode.s_reg tys_ok ?_; conv => whnf) | refine ACode.s_block ?_ | refine ACode.s_scope ?_ | (refine ACode.s_cond ?_; conv => whnf) | (refine ACode.s_exit ?_; conv => whnf) | (refine ACode.s_ret ?_; conv => whnf) | (refine ACode.s_skip ?_; conv => whnf) | (refine ACode.s_label ?_; conv => whnf))
      refine ACode.loopD (fun n : Nat => mk 114 [(0, strsA ws), (2, .lit false), (3, .bool true), (4, .str (wcat ws)), (5, .bool (ws.all fitB)), (7, .int .i64 (waysI ws n)), (8, .int .i64 (n + 1))]) (fun i => []) (fun n => n ≤ 4) (fun n => 4 - n) (fun _ _ => ⟨rfl, trivial⟩) ⟨0, ?_⟩ (fun _ => rfl) fun n hn => ?_
      · conv => whnf
        repeat (refine And.intro ?_ ?_; (focus (first | rfl | (simp; done) | ((unfold waysI; split <;> rfl); done))); conv => whnf)
        exact Nat.zero_le _
      · repeat (first | refine ACode.seq ?_ | (refine ACode.s_reg tys_ok ?_; conv => whnf) | refine ACode.s_block ?_ | refine ACode.s_scope ?_ | (refine ACode.s_cond ?_; conv => whnf) | (refine ACode.s_exit ?_; conv => whnf) | (refine ACode.s_ret ?_; conv => whnf) | (refine ACode.s_skip ?_; conv => whnf) | (refine ACode.s_label ?_; conv => whnf))
        refine ⟨fun h => ?_, fun h => ?_⟩
        · have h : n < 4 := by have := of_decide_eq_true h; omega
          have hw1 : Wr .i64 ((n : Int) + 1 + 1) = ((n + 1 : Nat) : Int) + 1 := by rw [Wr64 _ (by omega) (by omega)]; rfl
          have hwn := waysN_le ws.length n
          have hw2 : Wr .i64 (((strs ws).length : Int) - ((n : Int) + 1)) = (ws.length : Int) - (n + 1) := by rw [hsl, Wr64 _ (by omega) (by omega)]
          have hwI : 0 ≤ waysI ws n ∧ waysI ws n ≤ 4 := by unfold waysI; split <;> omega
          have hw3 : Wr .i64 (waysI ws n + 1) = waysI ws n + 1 := by rw [Wr64 _ (by omega) (by omega)]
          have hst : waysI ws (n + 1) = waysI ws n + if (1 + (n + 1) ≤ ws.length ∧ ws.length ≤ 4 + (n + 1)) ∧ ws.all fitB = true then 1 else 0 := by
            unfold waysI
            have : waysN ws.length (n + 1) = waysN ws.length n + if 1 + (n + 1) ≤ ws.length ∧ ws.length ≤ 4 + (n + 1) then 1 else 0 := rfl
            rw [this]
            by_cases hf : ws.all fitB = true
            · by_cases hc : 1 + (n + 1) ≤ ws.length ∧ ws.length ≤ 4 + (n + 1)
              · simp [hf, hc]
              · simp [hf, hc]
            · simp [hf]
          repeat (first | refine ACode.seq ?_ | (refine ACode.s_reg tys_ok ?_; conv => whnf) | refine ACode.s_block ?_ | refine ACode.s_scope ?_ | (refine ACode.s_cond ?_; conv => whnf) | (refine ACode.s_exit ?_; conv => whnf) | (refine ACode.s_ret ?_; conv => whnf) | (refine ACode.s_skip ?_; conv => whnf) | (refine ACode.s_label ?_; conv => whnf))
          rw [hw2]
          repeat' (first | (refine And.intro (fun _ => ?_) (fun _ => ?_) <;> conv => whnf) | refine ACode.seq ?_ | (refine ACode.s_reg tys_ok ?_; conv => whnf) | refine ACode.s_block ?_ | refine ACode.s_scope ?_ | (refine ACode.s_cond ?_; conv => whnf) | (refine ACode.s_exit ?_; conv => whnf) | (refine ACode.s_ret ?_; conv => whnf) | (refine ACode.s_skip ?_; conv => whnf) | (refine ACode.s_label ?_; conv => whnf))
          · rename_i g1 g2 g3
            rw [hw2] at g2
            have g1 := of_decide_eq_true g1
            have g2 := of_decide_eq_true g2
            rw [if_pos ⟨⟨by omega, by omega⟩, g3⟩] at hst
            refine ⟨n + 1, ?_⟩
            conv => whnf
            repeat (refine And.intro ?_ ?_; (focus (first | rfl | (simp; done) | (first | exact hw1 | (rw [hw3]; exact hst.symm); done))); conv => whnf)
            exact ⟨by omega, by omega⟩
          · rename_i g1 g2 g3
            rw [if_neg (by rw [g3]; simp), Int.add_zero] at hst
            refine ⟨n + 1, ?_⟩
            conv => whnf
            repeat (refine And.intro ?_ ?_; (focus (first | rfl | (simp; done) | (first | exact hw1 | exact hst.symm; done))); conv => whnf)
            exact ⟨by omega, by omega⟩
          · rename_i g1 g2
            rw [hw2] at g2
            have g2 := of_decide_eq_false g2
            rw [if_neg (by rintro ⟨⟨_, _⟩, _⟩; omega), Int.add_zero] at hst
            refine ⟨n + 1, ?_⟩
            conv => whnf
            repeat (refine And.intro ?_ ?_; (focus (first | rfl | (simp; done) | (first | exact hw1 | exact hst.symm; done))); conv => whnf)
            exact ⟨by omega, by omega⟩
          · rename_i g1
            have g1 := of_decide_eq_false g1
            rw [if_neg (by rintro ⟨⟨_, _⟩, _⟩; omega), Int.add_zero] at hst
            refine ⟨n + 1, ?_⟩
            conv => whnf
            repeat (refine And.intro ?_ ?_; (focus (first | rfl | (simp; done) | (first | exact hw1 | exact hst.symm; done))); conv => whnf)
            exact ⟨by omega, by omega⟩
        · have h : n = 4 := by have := of_decide_eq_false h; omega
          subst h
          have hwl := wcat_len ws fun x hx => (ha x hx).2
          have hww := wcat_words ws fun x hx => (ha x hx).1
          have hR := parse_div ws hw12 hww
          generalize wcat ws = line at *
          repeat (first | refine ACode.seq ?_ | (refine ACode.s_reg tys_ok ?_; conv => whnf) | refine ACode.s_block ?_ | refine ACode.s_scope ?_ | (refine ACode.s_cond ?_; conv => whnf) | (refine ACode.s_exit ?_; conv => whnf) | (refine ACode.s_ret ?_; conv => whnf) | (refine ACode.s_skip ?_; conv => whnf) | (refine ACode.s_label ?_; conv => whnf))
          refine ACall.of_spec (divided_spec) rfl fun r hr => ?_
          subst hr
          conv => whnf
          repeat (first | refine ACode.seq ?_ | (refine ACode.s_reg tys_ok ?_; conv => whnf) | refine ACode.s_block ?_ | refine ACode.s_scope ?_ | (refine ACode.s_cond ?_; conv => whnf) | (refine ACode.s_exit ?_; conv => whnf) | (refine ACode.s_ret ?_; conv => whnf) | (refine ACode.s_skip ?_; conv => whnf) | (refine ACode.s_label ?_; conv => whnf))
          refine ACall.freeze 0 ?_ (by kernel_rfl)
          conv => whnf
          refine ⟨(by simp [closed]), ?_⟩
          conv => whnf
          repeat (refine ⟨(by first | rfl | (simp; done) : (_ : Nat) = _), ?_⟩; conv => whnf)
          refine ACall.of_spec (parse_spec flF [line] smallFl (by simp) (by simp; omega)) rfl fun r hr => ?_
          subst hr
          generalize parseR flF [line] = R1 at *
          obtain ⟨h1, h2⟩ := hR
          conv => whnf
          repeat (first | refine ACode.seq ?_ | (refine ACode.s_reg tys_ok ?_; conv => whnf) | refine ACode.s_block ?_ | refine ACode.s_scope ?_ | (refine ACode.s_cond ?_; conv => whnf) | (refine ACode.s_exit ?_; conv => whnf) | (refine ACode.s_ret ?_; conv => whnf) | (refine ACode.s_skip ?_; conv => whnf) | (refine ACode.s_label ?_; conv => whnf))
          repeat' (first | (refine And.intro (fun _ => ?_) (fun _ => ?_) <;> conv => whnf) | refine ACode.seq ?_ | (refine ACode.s_reg tys_ok ?_; conv => whnf) | refine ACode.s_block ?_ | refine ACode.s_scope ?_ | (refine ACode.s_cond ?_; conv => whnf) | (refine ACode.s_exit ?_; conv => whnf) | (refine ACode.s_ret ?_; conv => whnf) | (refine ACode.s_skip ?_; conv => whnf) | (refine ACode.s_label ?_; conv => whnf))
          · exact congrArg AV.bool (decide_eq_true (by rw [List.length_map]; exact h2))
          · rename_i h5
            rw [h1] at h5
            cases h5
          · rename_i h5
            cases h5
end Go.Proofs.YtbodeejogdckgaaGreatDoor
