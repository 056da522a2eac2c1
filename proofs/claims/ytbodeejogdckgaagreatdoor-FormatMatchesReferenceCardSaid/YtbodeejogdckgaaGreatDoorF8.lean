/-
  Parse.
-/
import Derived.Test.YtbodeejogdckgaaGreatDoorF7
import Derived.Test.YtbodeejogdckgaaGreatDoorP5
set_option linter.unusedVariables false
set_option linter.unusedSimpArgs false
namespace Go.Proofs.YtbodeejogdckgaaGreatDoor
open Go.Av Go.Shelf Pl
/-- Parse in plain words. -/
def parseR (f : Fm) (ls : List Bs) : List Ad × Int :=
  if validF f = true then
    if countW ls ≤ 40 then
      if ls.length = f.lines.length ∧ allFitB (ls.map wordsW) = true then (readF f.lines (ls.map wordsW) ad0, 0) else ([], 0)
    else ([], 2)
  else ([], 1)
set_option maxRecDepth 100000 in
theorem parse_spec (f : Fm) (ls : List Bs) (hf : SmallF f) (hl : ls.length ≤ 1000) (hl2 : ∀ l ∈ ls, l.length ≤ 1000) : Ctr Tryz.prog 12 [f.v, strsA ls]
    (fun r => r = .tuple [.sl 5 ((parseR f ls).1.map Ad.v), .int .i64 (parseR f ls).2]) := by
  refine Ctr.of_body Tryz.func12 rfl tys_ok (by kernel_rfl) ?_
  conv => whnf
  repeat (first | refine ACode.seq ?_ | (refine ACode.s_reg tys_ok ?_; conv => whnf) | refine ACode.s_block ?_ | refine ACode.s_scope ?_ | (refine ACode.s_cond ?_; conv => whnf) | (refine ACode.s_exit ?_; conv => whnf) | (refine ACode.s_ret ?_; conv => whnf) | (refine ACode.s_skip ?_; conv => whnf) | (refine ACode.s_label ?_; conv => whnf))
  refine ACall.of_spec (valid_spec f hf.n hf.t hf.l hf.l2) rfl fun r hr => ?_
  subst hr
  conv => whnf
  repeat (first | refine ACode.seq ?_ | (refine ACode.s_reg tys_ok ?_; conv => whnf) | refine ACode.s_block ?_ | refine ACode.s_scope ?_ | (refine ACode.s_cond ?_; conv => whnf) | (refine ACode.s_exit ?_; conv => whnf) | (refine ACode.s_ret ?_; conv => whnf) | (refine ACode.s_skip ?_; conv => whnf) | (refine ACode.s_label ?_; conv => whnf))
  refine ⟨fun h1 => ?_, fun h1 => ?_⟩
  · have h1 : validF f = false := by simpa using h1
    have hR : parseR f ls = ([], 1) := by unfold parseR; rw [h1]; rfl
    rw [hR]
    conv => whnf
    repeat (first | refine ACode.seq ?_ | (refine ACode.s_reg tys_ok ?_; conv => whnf) | refine ACode.s_block ?_ | refine ACode.s_scope ?_ | (refine ACode.s_cond ?_; conv => whnf) | (refine ACode.s_exit ?_; conv => whnf) | (refine ACode.s_ret ?_; conv => whnf) | (refine ACode.s_skip ?_; conv => whnf) | (refine ACode.s_label ?_; conv => whnf))
    refine ⟨5, ?_⟩
    conv => whnf
    rfl
  · have h1 : validF f = true := by simpa using h1
    have hp := valid_parts h1
    have hsl : (strs ls).length = ls.length := strs_len ls
    have hml : (f.lines.map ptsA).length = f.lines.length := by simp
    conv => whnf
    repeat (first | refine ACode.seq ?_ | (refine ACode.s_reg tys_ok ?_; conv => whnf) | refine ACode.s_block ?_ | refine ACode.s_scope ?_ | (refine ACode.s_cond ?_; conv => whnf) | (refine ACode.s_exit ?_; conv => whnf) | (refine ACode.s_ret ?_; conv => whnf) | (refine ACode.s_skip ?_; conv => whnf) | (refine ACode.s_label ?_; conv => whnf))
    refine ⟨⟨by omega, by omega, by omega⟩, ?_⟩
    conv => whnf
    repeat (first | refine ACode.seq ?_ | (refine ACode.s_reg tys_ok ?_; conv => whnf) | refine ACode.s_block ?_ | refine ACode.s_scope ?_ | (refine ACode.s_cond ?_; conv => whnf) | (refine ACode.s_exit ?_; conv => whnf) | (refine ACode.s_ret ?_; conv => whnf) | (refine ACode.s_skip ?_; conv => whnf) | (refine ACode.s_label ?_; conv => whnf))
    refine ACode.loopD (fun i : Nat => mk 62 [(1, strsA ls), (2, .ptr 0 0), (4, .raw (Value.slice none 0 0)), (5, .int .i64 0), (6, .ptr 2 0), (7, .int .i64 (countW (ls.take i))), (19, strsA ls), (20, .int .i64 ls.length), (21, .int .i64 i)]) (fun i => [.cells [.str f.name, .sl 1 (f.lines.map ptsA)], .arr 25 1 (wordsA ls i), .cells [.own 1 1 0 ls.length]]) (fun i => i ≤ ls.length) (fun i => ls.length - i) (fun _ _ => ⟨rfl, rfl, wordsA_closed _ _, rfl, trivial⟩) ⟨0, ?_⟩ (fun _ => rfl) fun i hi => ?_
    · conv => whnf
      repeat (refine And.intro ?_ ?_; (focus (first | rfl | (simp; done) | (first | exact congrArg (AV.int .i64) (by omega) | exact congrArg (AV.own 1 1 0) (by simp) | (refine congrArg (HO.arr _ 1) ?_; simp [wordsA]; done) | (refine congrArg HO.cells ?_; simp; done); done))); conv => whnf)
      refine ⟨?_, Nat.zero_le _⟩
      have e1 : ((strs ls).length : Int).toNat = ls.length := by simp
      rw [e1]
      have e2 : wordsA ls 0 = List.replicate ls.length (.raw (Value.slice none 0 0)) := by simp [wordsA]
      rw [e2]
    · repeat (first | refine ACode.seq ?_ | (refine ACode.s_reg tys_ok ?_; conv => whnf) | refine ACode.s_block ?_ | refine ACode.s_scope ?_ | (refine ACode.s_cond ?_; conv => whnf) | (refine ACode.s_exit ?_; conv => whnf) | (refine ACode.s_ret ?_; conv => whnf) | (refine ACode.s_skip ?_; conv => whnf) | (refine ACode.s_label ?_; conv => whnf))
      refine ⟨fun h => ?_, fun h => ?_⟩
      · have h : i < ls.length := by simp at h; omega
        have hw1 : Wr .i64 ((i : Int) + 1) = ((i + 1 : Nat) : Int) := by rw [Wr64 _ (by omega) (by omega)]; rfl
        conv => whnf
        repeat (first | refine ACode.seq ?_ | (refine ACode.s_reg tys_ok ?_; conv => whnf) | refine ACode.s_block ?_ | refine ACode.s_scope ?_ | (refine ACode.s_cond ?_; conv => whnf) | (refine ACode.s_exit ?_; conv => whnf) | (refine ACode.s_ret ?_; conv => whnf) | (refine ACode.s_skip ?_; conv => whnf) | (refine ACode.s_label ?_; conv => whnf))
        refine ⟨by omega, _, strs_get ls i h, ?_⟩
        conv => whnf
        repeat (first | refine ACode.seq ?_ | (refine ACode.s_reg tys_ok ?_; conv => whnf) | refine ACode.s_block ?_ | refine ACode.s_scope ?_ | (refine ACode.s_cond ?_; conv => whnf) | (refine ACode.s_exit ?_; conv => whnf) | (refine ACode.s_ret ?_; conv => whnf) | (refine ACode.s_skip ?_; conv => whnf) | (refine ACode.s_label ?_; conv => whnf))
        have hwl := wordsA_len ls i hi
        have hli := hl2 _ (List.getElem_mem h)
        refine ACode.draw [5] tys_ok (by kernel_rfl) (by kernel_rfl) ?_
        conv => whnf
        refine ⟨_, ⟨words_spec ls[i] (by omega), rfl⟩, ?_⟩
        conv => whnf
        refine ⟨⟨by omega, by omega⟩, ?_⟩
        conv => whnf
        repeat (first | refine ACode.seq ?_ | (refine ACode.s_reg tys_ok ?_; conv => whnf) | refine ACode.s_block ?_ | refine ACode.s_scope ?_ | (refine ACode.s_cond ?_; conv => whnf) | (refine ACode.s_exit ?_; conv => whnf) | (refine ACode.s_ret ?_; conv => whnf) | (refine ACode.s_skip ?_; conv => whnf) | (refine ACode.s_label ?_; conv => whnf))
        refine ⟨_, wordsA_old ls i h, ?_⟩
        conv => whnf
        rw [wordsA_set0 ls i h]
        conv => whnf
        repeat (first | refine ACode.seq ?_ | (refine ACode.s_reg tys_ok ?_; conv => whnf) | refine ACode.s_block ?_ | refine ACode.s_scope ?_ | (refine ACode.s_cond ?_; conv => whnf) | (refine ACode.s_exit ?_; conv => whnf) | (refine ACode.s_ret ?_; conv => whnf) | (refine ACode.s_skip ?_; conv => whnf) | (refine ACode.s_label ?_; conv => whnf))
        refine ⟨⟨by omega, by omega⟩, ?_⟩
        conv => whnf
        repeat (first | refine ACode.seq ?_ | (refine ACode.s_reg tys_ok ?_; conv => whnf) | refine ACode.s_block ?_ | refine ACode.s_scope ?_ | (refine ACode.s_cond ?_; conv => whnf) | (refine ACode.s_exit ?_; conv => whnf) | (refine ACode.s_ret ?_; conv => whnf) | (refine ACode.s_skip ?_; conv => whnf) | (refine ACode.s_label ?_; conv => whnf))
        refine ⟨_, wordsA_get0 ls i h, ?_⟩
        conv => whnf
        repeat (first | refine ACode.seq ?_ | (refine ACode.s_reg tys_ok ?_; conv => whnf) | refine ACode.s_block ?_ | refine ACode.s_scope ?_ | (refine ACode.s_cond ?_; conv => whnf) | (refine ACode.s_exit ?_; conv => whnf) | (refine ACode.s_ret ?_; conv => whnf) | (refine ACode.s_skip ?_; conv => whnf) | (refine ACode.s_label ?_; conv => whnf))
        refine ⟨i + 1, ?_⟩
        have hct := countW_take ls i h
        have hcl := countW_le ls hl2
        have hcl2 : countW (ls.take i) ≤ 1000 * 1001 := by
          refine Nat.le_trans (countW_le _ fun l hl => hl2 l (List.mem_of_mem_take hl)) ?_
          rw [List.length_take]
          exact Nat.mul_le_mul_right _ (by omega)
        have hwc := wordsW_count ls[i]
        have hw2 : Wr .i64 (((countW (ls.take i) : Nat) : Int) + (((strs (wordsW ls[i])).length : Nat) : Int)) = ((countW (ls.take (i + 1)) : Nat) : Int) := by
          rw [hct, strs_len, Wr64 _ (by omega) (by omega)]; rfl
        conv => whnf
        repeat (refine And.intro ?_ ?_; (focus (first | rfl | (simp; done) | (first | exact hw1 | exact hw2; done))); conv => whnf)
        exact ⟨by omega, by omega⟩
      · have h : i = ls.length := by simp at h; omega
        subst h
        rw [List.take_length]
        have hcl := countW_le ls hl2
        have hwA : wordsA ls ls.length = (ls.map wordsW).map strsA := by unfold wordsA; simp
        rw [hwA]
        conv => whnf
        repeat (first | refine ACode.seq ?_ | (refine ACode.s_reg tys_ok ?_; conv => whnf) | refine ACode.s_block ?_ | refine ACode.s_scope ?_ | (refine ACode.s_cond ?_; conv => whnf) | (refine ACode.s_exit ?_; conv => whnf) | (refine ACode.s_ret ?_; conv => whnf) | (refine ACode.s_skip ?_; conv => whnf) | (refine ACode.s_label ?_; conv => whnf))
        refine ⟨fun h2 => ?_, fun h2 => ?_⟩
        · have h2 : ¬ countW ls ≤ 40 := by simp at h2; omega
          have hR : parseR f ls = ([], 2) := by unfold parseR; rw [h1, if_pos rfl, if_neg h2]
          rw [hR]
          conv => whnf
          repeat (first | refine ACode.seq ?_ | (refine ACode.s_reg tys_ok ?_; conv => whnf) | refine ACode.s_block ?_ | refine ACode.s_scope ?_ | (refine ACode.s_cond ?_; conv => whnf) | (refine ACode.s_exit ?_; conv => whnf) | (refine ACode.s_ret ?_; conv => whnf) | (refine ACode.s_skip ?_; conv => whnf) | (refine ACode.s_label ?_; conv => whnf))
          refine ⟨5, ?_⟩
          conv => whnf
          rfl
        · have h2 : countW ls ≤ 40 := by simp at h2; omega
          conv => whnf
          have hLl : ((ls.map wordsW).map strsA).length = ls.length := by simp
          refine ACode.freeze 1 ?_
          conv => whnf
          refine ⟨(fun x hx => by obtain ⟨y, _, rfl⟩ := List.mem_map.1 hx; rfl), ?_⟩
          conv => whnf
          repeat (refine ⟨(by first | rfl | (simp; done) : (_ : Nat) = _), ?_⟩; conv => whnf)
          have hff : ∀ l ∈ ls.map wordsW, l.length ≤ 1000 ∧ ∀ w ∈ l, w.length ≤ 1000 := fun l hl => by
            obtain ⟨x, hx, rfl⟩ := List.mem_map.1 hl
            have hm : (wordsW x).length ∈ ls.map fun l => (wordsW l).length := List.mem_map.2 ⟨x, hx, rfl⟩
            have h3 := le_sum_nat hm
            unfold countW at h2
            exact ⟨by omega, fun w hw => by have := wordsW_len x w hw; have := hl2 x hx; omega⟩
          have hR0 : ¬ (ls.length = f.lines.length ∧ allFitB (ls.map wordsW) = true) → parseR f ls = ([], 0) := fun h => by unfold parseR; rw [h1, if_pos rfl, if_pos h2, if_neg h]
          repeat' (first | (refine And.intro (fun _ => ?_) (fun _ => ?_) <;> conv => whnf) | (refine ACall.of_spec (allFit_spec (ls.map wordsW) (by simp; omega) (fun l hl => (hff l hl).1) (fun l hl => (hff l hl).2)) rfl fun r hr => ?_; subst hr; conv => whnf) | (refine ACall.of_spec (parts_spec) rfl fun r hr => ?_; subst hr; conv => whnf) | refine ACode.seq ?_ | (refine ACode.s_reg tys_ok ?_; conv => whnf) | refine ACode.s_block ?_ | refine ACode.s_scope ?_ | (refine ACode.s_cond ?_; conv => whnf) | (refine ACode.s_exit ?_; conv => whnf) | (refine ACode.s_ret ?_; conv => whnf) | (refine ACode.s_skip ?_; conv => whnf) | (refine ACode.s_label ?_; conv => whnf))
          · rename_i h3 h4
            rw [hR0 fun h => by rw [h.2] at h4; simp at h4]
            refine ⟨5, ?_⟩
            conv => whnf
            rfl
          · rename_i h3 h4
            have h3 : ls.length = f.lines.length := by simp at h3; omega
            have h4 : allFitB (ls.map wordsW) = true := by simpa using h4
            have hR : parseR f ls = (readF f.lines (ls.map wordsW) ad0, 0) := by unfold parseR; rw [h1, if_pos rfl, if_pos h2, if_pos ⟨h3, h4⟩]
            rw [hR]
            have hok := validF_eq f
            rw [h1] at hok
            have hok : okP f.lines.flatten = true := by
              have := hok.symm
              simp only [Bool.and_eq_true] at this
              exact this.2
            unfold okP at hok
            simp only [Bool.and_eq_true, decide_eq_true_eq] at hok
            have hgk : goodK f.lines.flatten := fun q hq => part_kind (List.all_eq_true.1 hok.1 q hq)
            have hdv : DivOK f (ls.map wordsW) := ⟨hf, hp, by simp [h3], fun l hl x hx => List.all_eq_true.1 (List.all_eq_true.1 h4 l hl) x hx, fun l hl => (hff l hl).1⟩
            have hnx := fromD_next (F := f.lines) (W := ls.map wordsW) (by simp [h3]) 0 (Nat.zero_le _) ad0
            rw [List.drop_zero, List.drop_zero] at hnx
            have hfew := readF_few hgk hok.2 (ls.map wordsW) ad0
            refine ACall.nilCell 3 5 27 5 rfl rfl ?_
            refine ACall.of_h (divide_spec f (ls.map wordsW) hdv (remN f.lines 0 - 0) 0 0 0 ad0 [] rfl (Nat.zero_le _) (fun _ => ⟨Nat.zero_le _, Nat.zero_le _⟩) (by rw [hnx, List.length_nil]; omega)) rfl ⟨rfl, rfl, rfl, rfl, rfl, rfl, rfl, rfl, rfl, rfl, rfl, rfl, rfl, ads_closed _, trivial⟩ ?_ (fun _ _ h => h.elim)
            rintro r H1 ⟨rfl, c, hc, rfl⟩
            rw [hnx, List.nil_append]
            conv => whnf
            repeat (first | refine ACode.seq ?_ | (refine ACode.s_reg tys_ok ?_; conv => whnf) | refine ACode.s_block ?_ | refine ACode.s_scope ?_ | (refine ACode.s_cond ?_; conv => whnf) | (refine ACode.s_exit ?_; conv => whnf) | (refine ACode.s_ret ?_; conv => whnf) | (refine ACode.s_skip ?_; conv => whnf) | (refine ACode.s_label ?_; conv => whnf))
            refine ⟨⟨by simp, ads_closed _⟩, ?_⟩
            conv => whnf
          · rename_i h3
            rw [hR0 fun h => by rw [strs_len, hml, h.1] at h3; simp at h3]
            refine ⟨5, ?_⟩
            conv => whnf
            rfl
end Go.Proofs.YtbodeejogdckgaaGreatDoor
