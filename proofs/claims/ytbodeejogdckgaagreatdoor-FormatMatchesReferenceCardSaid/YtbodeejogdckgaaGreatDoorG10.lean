/-
 The reference: Parse.
-/
import Derived.Test.YtbodeejogdckgaaGreatDoorG9
set_option linter.unusedVariables false
set_option linter.unusedSimpArgs false
namespace Go.Proofs.YtbodeejogdckgaaGreatDoor
open Go.Av Go.Shelf Pl
set_option maxRecDepth 100000 in
theorem rparse_spec (f : Fm) (ls : List Bs) (hf : SmallF f) (hl : ls.length ≤ 1000) (hl2 : ∀ l ∈ ls, l.length ≤ 900) : Ctr Tryz.prog 13 [f.v, strsA ls]
  (fun r => r = .tuple [.sl 5 ((parseR f ls).1.map Ad.v), .int .i64 (parseR f ls).2]) := by
 refine Ctr.of_body Tryz.func13 rfl tys_ok (by kernel_rfl) ?_
 conv => whnf
 repeat (first | refine ACode.seq ?_ | (refine ACode.s_reg tys_ok ?_; conv => whnf) | refine ACode.s_block ?_ | refine ACode.s_scope ?_ | (refine ACode.s_cond ?_; conv => whnf) | (refine ACode.s_exit ?_; conv => whnf) | (refine ACode.s_ret ?_; conv => whnf) | (refine ACode.s_skip ?_; conv => whnf) | (refine ACode.s_label ?_; conv => whnf))
 refine ACall.of_spec (rvalid_spec f hf) rfl fun r hr => ?_
 subst hr
 conv => whnf
 repeat (first | refine ACode.seq ?_ | (refine ACode.s_reg tys_ok ?_; conv => whnf) | refine ACode.s_block ?_ | refine ACode.s_scope ?_ | (refine ACode.s_cond ?_; conv => whnf) | (refine ACode.s_exit ?_; conv => whnf) | (refine ACode.s_ret ?_; conv => whnf) | (refine ACode.s_skip ?_; conv => whnf) | (refine ACode.s_label ?_; conv => whnf))
 refine ⟨fun h1 => ?_, fun h1 => ?_⟩
 ·have h1 : validF f = false := by simpa using h1
  have hR : parseR f ls = ([], 1) := by unfold parseR; rw [h1]; rfl
  rw [hR]
  conv => whnf
  repeat (first | refine ACode.seq ?_ | (refine ACode.s_reg tys_ok ?_; conv => whnf) | refine ACode.s_block ?_ | refine ACode.s_scope ?_ | (refine ACode.s_cond ?_; conv => whnf) | (refine ACode.s_exit ?_; conv => whnf) | (refine ACode.s_ret ?_; conv => whnf) | (refine ACode.s_skip ?_; conv => whnf) | (refine ACode.s_label ?_; conv => whnf))
  refine ⟨5, ?_⟩
  conv => whnf
  rfl
 ·have h1 : validF f = true := by simpa using h1
  have hp := valid_parts h1
  have hg := valid_good h1
  have hsl : (strs ls).length = ls.length := strs_len ls
  have hml : (f.lines.map ptsA).length = f.lines.length := by simp
  conv => whnf
  repeat (first | refine ACode.seq ?_ | (refine ACode.s_reg tys_ok ?_; conv => whnf) | refine ACode.s_block ?_ | refine ACode.s_scope ?_ | (refine ACode.s_cond ?_; conv => whnf) | (refine ACode.s_exit ?_; conv => whnf) | (refine ACode.s_ret ?_; conv => whnf) | (refine ACode.s_skip ?_; conv => whnf) | (refine ACode.s_label ?_; conv => whnf))
  refine ACode.loopD (fun i : Nat => mk 74 [(1, strsA ls), (2, .ptr 0 0), (4, .raw (Value.slice none 0 0)), (5, .int .i64 0), (6, .int .i64 (countW (ls.take i))), (7, .int .i64 i)]) (fun i => [.cells [.str f.name, .sl 1 (f.lines.map ptsA)]]) (fun i => i ≤ ls.length) (fun i => ls.length - i) (fun _ _ => ⟨rfl, rfl, trivial⟩) ⟨0, ?_⟩ (fun _ => rfl) fun i hi => ?_
  ·conv => whnf
   repeat (refine And.intro ?_ ?_; (focus (first | rfl | (simp; done))); conv => whnf)
   exact Nat.zero_le _
  ·repeat (first | refine ACode.seq ?_ | (refine ACode.s_reg tys_ok ?_; conv => whnf) | refine ACode.s_block ?_ | refine ACode.s_scope ?_ | (refine ACode.s_cond ?_; conv => whnf) | (refine ACode.s_exit ?_; conv => whnf) | (refine ACode.s_ret ?_; conv => whnf) | (refine ACode.s_skip ?_; conv => whnf) | (refine ACode.s_label ?_; conv => whnf))
   refine ⟨fun h => ?_, fun h => ?_⟩
   ·have h : i < ls.length := by simp at h; omega
    have hw1 : Wr .i64 ((i : Int) + 1) = ((i + 1 : Nat) : Int) := by rw [Wr64 _ (by omega) (by omega)]; rfl
    conv => whnf
    repeat (first | refine ACode.seq ?_ | (refine ACode.s_reg tys_ok ?_; conv => whnf) | refine ACode.s_block ?_ | refine ACode.s_scope ?_ | (refine ACode.s_cond ?_; conv => whnf) | (refine ACode.s_exit ?_; conv => whnf) | (refine ACode.s_ret ?_; conv => whnf) | (refine ACode.s_skip ?_; conv => whnf) | (refine ACode.s_label ?_; conv => whnf))
    refine ⟨by omega, _, strs_get ls i h, ?_⟩
    have hli := hl2 _ (List.getElem_mem h)
    conv => whnf
    repeat (first | refine ACode.seq ?_ | (refine ACode.s_reg tys_ok ?_; conv => whnf) | refine ACode.s_block ?_ | refine ACode.s_scope ?_ | (refine ACode.s_cond ?_; conv => whnf) | (refine ACode.s_exit ?_; conv => whnf) | (refine ACode.s_ret ?_; conv => whnf) | (refine ACode.s_skip ?_; conv => whnf) | (refine ACode.s_label ?_; conv => whnf))
    refine ACall.of_spec (rwords_spec ls[i] (by omega)) rfl fun r hr => ?_
    subst hr
    conv => whnf
    repeat (first | refine ACode.seq ?_ | (refine ACode.s_reg tys_ok ?_; conv => whnf) | refine ACode.s_block ?_ | refine ACode.s_scope ?_ | (refine ACode.s_cond ?_; conv => whnf) | (refine ACode.s_exit ?_; conv => whnf) | (refine ACode.s_ret ?_; conv => whnf) | (refine ACode.s_skip ?_; conv => whnf) | (refine ACode.s_label ?_; conv => whnf))
    refine ⟨i + 1, ?_⟩
    have hct := countW_take ls i h
    have hcl2 : countW (ls.take i) ≤ 1000 * 1001 := by
     refine Nat.le_trans (countW_le _ fun l hl => by have := hl2 l (List.mem_of_mem_take hl); omega) ?_
     rw [List.length_take]
     exact Nat.mul_le_mul_right _ (by omega)
    have hwc := wordsW_count ls[i]
    have hw2 : Wr .i64 (((countW (ls.take i) : Nat) : Int) + (((strs (wordsW ls[i])).length : Nat) : Int)) = ((countW (ls.take (i + 1)) : Nat) : Int) := by
     rw [hct, strs_len, Wr64 _ (by omega) (by omega)]; rfl
    conv => whnf
    repeat (refine And.intro ?_ ?_; (focus (first | rfl | (simp; done) | (first | exact hw1 | exact hw2; done))); conv => whnf)
    exact ⟨by omega, by omega⟩
   ·have h : i = ls.length := by simp at h; omega
    rw [h, List.take_length]
    conv => whnf
    repeat (first | refine ACode.seq ?_ | (refine ACode.s_reg tys_ok ?_; conv => whnf) | refine ACode.s_block ?_ | refine ACode.s_scope ?_ | (refine ACode.s_cond ?_; conv => whnf) | (refine ACode.s_exit ?_; conv => whnf) | (refine ACode.s_ret ?_; conv => whnf) | (refine ACode.s_skip ?_; conv => whnf) | (refine ACode.s_label ?_; conv => whnf))
    refine ⟨fun h2 => ?_, fun h2 => ?_⟩
    ·have h2 : ¬ countW ls ≤ 40 := by simp at h2; omega
     have hR : parseR f ls = ([], 2) := by unfold parseR; rw [h1, if_pos rfl, if_neg h2]
     rw [hR]
     conv => whnf
     repeat (first | refine ACode.seq ?_ | (refine ACode.s_reg tys_ok ?_; conv => whnf) | refine ACode.s_block ?_ | refine ACode.s_scope ?_ | (refine ACode.s_cond ?_; conv => whnf) | (refine ACode.s_exit ?_; conv => whnf) | (refine ACode.s_ret ?_; conv => whnf) | (refine ACode.s_skip ?_; conv => whnf) | (refine ACode.s_label ?_; conv => whnf))
     refine ⟨5, ?_⟩
     conv => whnf
     rfl
    ·have h2 : countW ls ≤ 40 := by simp at h2; omega
     conv => whnf
     repeat (first | refine ACode.seq ?_ | (refine ACode.s_reg tys_ok ?_; conv => whnf) | refine ACode.s_block ?_ | refine ACode.s_scope ?_ | (refine ACode.s_cond ?_; conv => whnf) | (refine ACode.s_exit ?_; conv => whnf) | (refine ACode.s_ret ?_; conv => whnf) | (refine ACode.s_skip ?_; conv => whnf) | (refine ACode.s_label ?_; conv => whnf))
     refine ⟨fun h3 => ?_, fun h3 => ?_⟩
     ·have h3 : ¬ ls.length = f.lines.length := by simp at h3; omega
      have hR : parseR f ls = ([], 0) := by unfold parseR; rw [h1, if_pos rfl, if_pos h2, if_neg fun e => h3 e.1]
      rw [hR]
      conv => whnf
      repeat (first | refine ACode.seq ?_ | (refine ACode.s_reg tys_ok ?_; conv => whnf) | refine ACode.s_block ?_ | refine ACode.s_scope ?_ | (refine ACode.s_cond ?_; conv => whnf) | (refine ACode.s_exit ?_; conv => whnf) | (refine ACode.s_ret ?_; conv => whnf) | (refine ACode.s_skip ?_; conv => whnf) | (refine ACode.s_label ?_; conv => whnf))
      refine ⟨5, ?_⟩
      conv => whnf
      rfl
     ·have h3 : ls.length = f.lines.length := by simp at h3; omega
      have hA : parseR f ls = (allR f.lines (ls.map wordsW) f.lines.length, 0) := by
       unfold parseR allR
       rw [h1, if_pos rfl, if_pos h2, List.take_length, List.take_of_length_le (by simp; omega)]
       by_cases hq : allFitB (ls.map wordsW) = true
       ·rw [if_pos ⟨h3, hq⟩, if_pos hq]
       ·rw [if_neg fun e => hq e.2, if_neg hq]
      rw [hA]
      conv => whnf
      repeat (first | refine ACode.seq ?_ | (refine ACode.s_reg tys_ok ?_; conv => whnf) | refine ACode.s_block ?_ | refine ACode.s_scope ?_ | (refine ACode.s_cond ?_; conv => whnf) | (refine ACode.s_exit ?_; conv => whnf) | (refine ACode.s_ret ?_; conv => whnf) | (refine ACode.s_skip ?_; conv => whnf) | (refine ACode.s_label ?_; conv => whnf))
      refine ACode.freeze 1 ?_
      conv => whnf
      refine ⟨(by simp [closed, closeds]), ?_⟩
      conv => whnf
      repeat (refine ⟨(by first | rfl | (simp; done) : (_ : Nat) = _), ?_⟩; conv => whnf)
      have hkp : ∀ l ∈ f.lines, l.length ≤ 8 := fun l hl => by
       rw [validF_has] at h1
       simp only [Bool.and_eq_true] at h1
       have := List.all_eq_true.1 h1.1.2 l hl
       unfold lenOK at this
       simp only [Bool.and_eq_true, decide_eq_true_eq] at this
       exact this.2
      have hA0 : allR f.lines (ls.map wordsW) 0 = [ad0] := rfl
      have hfew := fun i => allR_few hg.1 hg.2.1 (ls.map wordsW) i
      refine ACode.loopD (fun i : Nat => mk 74 [(1, strsA ls), (2, .ptr 0 0), (4, .raw (Value.slice none 0 0)), (5, .int .i64 0), (8, .sl 5 ((allR f.lines (ls.map wordsW) i).map Ad.v)), (9, .int .i64 i)]) (fun i => [.cells [.str f.name, .sl 1 (f.lines.map ptsA)], .dead]) (fun i => i ≤ ls.length) (fun i => ls.length - i) (fun _ _ => ⟨rfl, rfl, trivial⟩) ⟨0, ?_⟩ (fun _ => rfl) fun i hi => ?_
      ·conv => whnf
       repeat (refine And.intro ?_ ?_; (focus (first | rfl | (simp; done))); conv => whnf)
       exact Nat.zero_le _
      ·repeat (first | refine ACode.seq ?_ | (refine ACode.s_reg tys_ok ?_; conv => whnf) | refine ACode.s_block ?_ | refine ACode.s_scope ?_ | (refine ACode.s_cond ?_; conv => whnf) | (refine ACode.s_exit ?_; conv => whnf) | (refine ACode.s_ret ?_; conv => whnf) | (refine ACode.s_skip ?_; conv => whnf) | (refine ACode.s_label ?_; conv => whnf))
       refine ⟨fun h4 => ?_, fun h4 => ?_⟩
       ·have h4 : i < ls.length := by simp at h4; omega
        have hw1 : Wr .i64 ((i : Int) + 1) = ((i + 1 : Nat) : Int) := by rw [Wr64 _ (by omega) (by omega)]; rfl
        have hg4 : i < f.lines.length := by omega
        have hW : i < (ls.map wordsW).length := by simpa using h4
        have hWi : (ls.map wordsW)[i] = wordsW ls[i] := by simp
        have hsucc := allR_succ (F := f.lines) (W := ls.map wordsW) hg4 hW
        rw [hWi] at hsucc
        have hAi := hfew i
        have hget := lines_get f i hg4
        have hgs := strs_get ls i h4
        have hli := hl2 _ (List.getElem_mem h4)
        have hpL := hp _ (List.getElem_mem hg4)
        have hkL := hkp _ (List.getElem_mem hg4)
        have hwc := wordsW_count ls[i]
        have hwl := wordsW_len ls[i]
        have hrw := rwords_spec ls[i] (by omega)
        rw [← h3] at *
        generalize hAe : allR f.lines (ls.map wordsW) i = A at *
        generalize f.lines[i] = L at *
        generalize wordsW ls[i] = w at *
        generalize ls[i] = s at *
        have hb8 : ∀ a, (readR L w a).length ≤ 4 ^ 8 := fun a => Nat.le_trans (readR_len L w a) (Nat.pow_le_pow_right (by omega) hkL)
        have hbd : ∀ k, ((A.take k).flatMap (readR L w)).length ≤ 16 * 4 ^ 8 := fun k => by
         refine Nat.le_trans (flatMap_bound _ (4 ^ 8) hb8 _) ?_
         rw [List.length_take]
         exact Nat.mul_le_mul_right _ (by omega)
        have hAl : (A.map Ad.v).length = A.length := by simp
        conv => whnf
        repeat (first | refine ACode.seq ?_ | (refine ACode.s_reg tys_ok ?_; conv => whnf) | refine ACode.s_block ?_ | refine ACode.s_scope ?_ | (refine ACode.s_cond ?_; conv => whnf) | (refine ACode.s_exit ?_; conv => whnf) | (refine ACode.s_ret ?_; conv => whnf) | (refine ACode.s_skip ?_; conv => whnf) | (refine ACode.s_label ?_; conv => whnf))
        refine ACode.loopD (fun k : Nat => mk 74 [(1, strsA ls), (2, .ptr 0 0), (4, .raw (Value.slice none 0 0)), (5, .int .i64 0), (8, .sl 5 (A.map Ad.v)), (9, .int .i64 i), (10, .own 2 5 0 ((A.take k).flatMap (readR L w)).length), (11, .int .i64 k)]) (fun k => [.cells [.str f.name, .sl 1 (f.lines.map ptsA)], .dead, .arr 27 5 (((A.take k).flatMap (readR L w)).map Ad.v)]) (fun k => k ≤ A.length) (fun k => A.length - k) (fun _ _ => ⟨rfl, rfl, ads_closed _, trivial⟩) ⟨0, ?_⟩ (fun _ => rfl) fun k hk => ?_
        ·conv => whnf
         repeat (refine And.intro ?_ ?_; (focus (first | rfl | (simp; done))); conv => whnf)
         exact Nat.zero_le _
        ·repeat (first | refine ACode.seq ?_ | (refine ACode.s_reg tys_ok ?_; conv => whnf) | refine ACode.s_block ?_ | refine ACode.s_scope ?_ | (refine ACode.s_cond ?_; conv => whnf) | (refine ACode.s_exit ?_; conv => whnf) | (refine ACode.s_ret ?_; conv => whnf) | (refine ACode.s_skip ?_; conv => whnf) | (refine ACode.s_label ?_; conv => whnf))
         refine ⟨fun h5 => ?_, fun h5 => ?_⟩
         ·have h5 : k < A.length := by simp at h5; omega
          have hw2 : Wr .i64 ((k : Int) + 1) = ((k + 1 : Nat) : Int) := by rw [Wr64 _ (by omega) (by omega)]; rfl
          have htk : A.take (k + 1) = A.take k ++ [A[k]] := List.take_succ_eq_append_getElem h5
          have hgk : (A.map Ad.v)[k]? = some A[k].v := by simp [h5]
          have hbk := hbd k
          have hsn : (A.take (k + 1)).flatMap (readR L w) = (A.take k).flatMap (readR L w) ++ readR L w A[k] := by rw [htk, List.flatMap_append]; simp
          have hb1 := hb8 A[k]
          conv => whnf
          repeat (first | refine ACode.seq ?_ | (refine ACode.s_reg tys_ok ?_; conv => whnf) | refine ACode.s_block ?_ | refine ACode.s_scope ?_ | (refine ACode.s_cond ?_; conv => whnf) | (refine ACode.s_exit ?_; conv => whnf) | (refine ACode.s_ret ?_; conv => whnf) | (refine ACode.s_skip ?_; conv => whnf) | (refine ACode.s_label ?_; conv => whnf))
          refine ACode.draw [16] tys_ok (by kernel_rfl) (by kernel_rfl) ?_
          conv => whnf
          refine ⟨by omega, _, hgk, ?_⟩
          conv => whnf
          refine ⟨by omega, _, hget, ?_⟩
          conv => whnf
          refine ⟨by omega, _, hgs, ?_⟩
          conv => whnf
          refine ⟨_, ⟨hrw, rfl⟩, ?_⟩
          conv => whnf
          refine ⟨_, ⟨rread_spec L w A[k] hpL hkL (by omega) (fun x hx => by have := hwl x hx; omega), rfl⟩, ?_⟩
          conv => whnf
          refine ⟨⟨by rw [List.length_map], by rw [List.length_append, List.length_map, List.length_map]; omega⟩, ?_⟩
          rw [← List.map_append, ← hsn]
          conv => whnf
          repeat (first | refine ACode.seq ?_ | (refine ACode.s_reg tys_ok ?_; conv => whnf) | refine ACode.s_block ?_ | refine ACode.s_scope ?_ | (refine ACode.s_cond ?_; conv => whnf) | (refine ACode.s_exit ?_; conv => whnf) | (refine ACode.s_ret ?_; conv => whnf) | (refine ACode.s_skip ?_; conv => whnf) | (refine ACode.s_label ?_; conv => whnf))
          refine ⟨k + 1, ?_⟩
          conv => whnf
          repeat (refine And.intro ?_ ?_; (focus (first | rfl | (simp; done) | (first | exact hw2 | exact congrArg (AV.own 2 5 0) (List.length_map ..); done))); conv => whnf)
          exact ⟨by omega, by omega⟩
         ·have h5 : k = A.length := by simp at h5; omega
          rw [h5, List.take_length]
          conv => whnf
          refine ACode.s_exit ?_
          conv => whnf
          refine ACode.freeze 2 ?_
          conv => whnf
          refine ⟨(ads_closed _), ?_⟩
          conv => whnf
          repeat (refine ⟨(by first | rfl | (simp; done) : (_ : Nat) = _), ?_⟩; conv => whnf)
          repeat (first | refine ACode.seq ?_ | (refine ACode.s_reg tys_ok ?_; conv => whnf) | refine ACode.s_block ?_ | refine ACode.s_scope ?_ | (refine ACode.s_cond ?_; conv => whnf) | (refine ACode.s_exit ?_; conv => whnf) | (refine ACode.s_ret ?_; conv => whnf) | (refine ACode.s_skip ?_; conv => whnf) | (refine ACode.s_label ?_; conv => whnf))
          refine ⟨i + 1, ?_⟩
          rw [hsucc]
          conv => whnf
          repeat (refine And.intro ?_ ?_; (focus (first | rfl | (simp; done) | (first | exact hw1; done))); conv => whnf)
          exact ⟨h4, by omega⟩
       ·have h4 : i = ls.length := by simp at h4; omega
        rw [h4, h3]
        have hfl := hfew f.lines.length
        generalize allR f.lines (ls.map wordsW) f.lines.length = A at *
        have hAl : (A.map Ad.v).length = A.length := by simp
        conv => whnf
        repeat (first | refine ACode.seq ?_ | (refine ACode.s_reg tys_ok ?_; conv => whnf) | refine ACode.s_block ?_ | refine ACode.s_scope ?_ | (refine ACode.s_cond ?_; conv => whnf) | (refine ACode.s_exit ?_; conv => whnf) | (refine ACode.s_ret ?_; conv => whnf) | (refine ACode.s_skip ?_; conv => whnf) | (refine ACode.s_label ?_; conv => whnf))
        refine And.intro (fun h => absurd h (by (simp; omega))) (fun h => ?_)
        conv => whnf
        conv => whnf
        repeat (first | refine ACode.seq ?_ | (refine ACode.s_reg tys_ok ?_; conv => whnf) | refine ACode.s_block ?_ | refine ACode.s_scope ?_ | (refine ACode.s_cond ?_; conv => whnf) | (refine ACode.s_exit ?_; conv => whnf) | (refine ACode.s_ret ?_; conv => whnf) | (refine ACode.s_skip ?_; conv => whnf) | (refine ACode.s_label ?_; conv => whnf))
end Go.Proofs.YtbodeejogdckgaaGreatDoor
