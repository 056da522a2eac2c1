/-
 FormatMatchesReference.
-/
import Derived.Test.YtbodeejogdckgaaGreatDoorG5
import Derived.Test.YtbodeejogdckgaaGreatDoorG10
set_option linter.unusedVariables false
set_option linter.unusedSimpArgs false
namespace Go.Proofs.YtbodeejogdckgaaGreatDoor
open Go.Av Go.Shelf Pl
theorem few_small8 {f : Fm} {ls : List Bs} (h : fewB f ls = true) : SmallF f ∧ ls.length ≤ 8 ∧ (∀ l ∈ ls, l.length ≤ 200) ∧ f.lines.length ≤ 10 ∧ (∀ l ∈ f.lines, l.length ≤ 10) := by
 unfold fewB at h
 simp only [Bool.and_eq_true, decide_eq_true_eq, List.all_eq_true] at h
 obtain ⟨⟨⟨⟨⟨h1, h2⟩, h3⟩, h4⟩, h5⟩, h6⟩ := h
 refine ⟨⟨by omega, by omega, fun l hl => by have := h4 l hl; omega, fun l hl p hp => by have := h5 p (List.mem_flatten.2 ⟨l, hl, hp⟩); omega⟩, h1, h6, h2, h4⟩
theorem parse_few8 (f : Fm) (ls : List Bs) : (parseR f ls).1.length ≤ 16 := by
 unfold parseR
 split
 ·rename_i hv
  split
  ·split
   ·exact readF_few (valid_good hv).1 (valid_good hv).2.1 _ _
   ·exact Nat.zero_le _
  ·exact Nat.zero_le _
 ·exact Nat.zero_le _
set_option maxRecDepth 100000 in
theorem matches_law (f : Fm) (ls : List Bs) (x : Ad) (h1 : x.st.length ≤ 140737488351232) (h2 : x.to.length ≤ 140737488351232) (h3 : x.pe.length ≤ 140737488351232) (h4 : x.co.length ≤ 140737488351232) :
  Ctr Tryz.prog 3 [f.v, strsA ls, x.v] (fun r => r = .bool true) := by
 refine Ctr.of_body Tryz.func3 rfl tys_ok (by kernel_rfl) ?_
 conv => whnf
 repeat (first | refine ACode.seq ?_ | (refine ACode.s_reg tys_ok ?_; conv => whnf) | refine ACode.s_block ?_ | refine ACode.s_scope ?_ | (refine ACode.s_cond ?_; conv => whnf) | (refine ACode.s_exit ?_; conv => whnf) | (refine ACode.s_ret ?_; conv => whnf) | (refine ACode.s_skip ?_; conv => whnf) | (refine ACode.s_label ?_; conv => whnf))
 refine ACall.of_spec (head_spec) rfl fun r hr => ?_
 subst hr
 conv => whnf
 repeat (first | refine ACode.seq ?_ | (refine ACode.s_reg tys_ok ?_; conv => whnf) | refine ACode.s_block ?_ | refine ACode.s_scope ?_ | (refine ACode.s_cond ?_; conv => whnf) | (refine ACode.s_exit ?_; conv => whnf) | (refine ACode.s_ret ?_; conv => whnf) | (refine ACode.s_skip ?_; conv => whnf) | (refine ACode.s_label ?_; conv => whnf))
 repeat' (first | (refine And.intro (fun _ => ?_) (fun _ => ?_) <;> conv => whnf) | (refine ACall.of_spec (few_spec f ls) rfl fun r hr => ?_; subst hr; conv => whnf) | refine ACode.seq ?_ | (refine ACode.s_reg tys_ok ?_; conv => whnf) | refine ACode.s_block ?_ | refine ACode.s_scope ?_ | (refine ACode.s_cond ?_; conv => whnf) | (refine ACode.s_exit ?_; conv => whnf) | (refine ACode.s_ret ?_; conv => whnf) | (refine ACode.s_skip ?_; conv => whnf) | (refine ACode.s_label ?_; conv => whnf))
 rename_i hfew h400
 have hfew : fewB f ls = true := by simpa using hfew
 obtain ⟨hs, hn8, hn200, hL10, hP10⟩ := few_small8 hfew
 rw [Wr64 ((x.st.length : Int) + x.to.length) (by omega) (by omega), Wr64 ((x.st.length : Int) + x.to.length + x.pe.length) (by omega) (by omega), Wr64 ((x.st.length : Int) + x.to.length + x.pe.length + x.co.length) (by omega) (by omega)] at h400
 have hsz : x.st.length ≤ 400 ∧ x.to.length ≤ 400 ∧ x.pe.length ≤ 400 ∧ x.co.length ≤ 400 := by
  have := of_decide_eq_false h400
  omega
 obtain ⟨s1, s2, s3, s4⟩ := hsz
 have hsl : (strs ls).length = ls.length := by simp
 have h16 := parse_few8 f ls
 have hpl : (printR f x).1.length ≤ 10 := by
  unfold printR
  split
  ·simp [printF]; omega
  ·exact Nat.zero_le _
 refine ACall.of_spec (parse_spec f ls hs (by omega) (fun l hl => by have := hn200 l hl; omega)) rfl fun r hr => ?_
 subst hr
 conv => whnf
 repeat (first | refine ACode.seq ?_ | (refine ACode.s_reg tys_ok ?_; conv => whnf) | refine ACode.s_block ?_ | refine ACode.s_scope ?_ | (refine ACode.s_cond ?_; conv => whnf) | (refine ACode.s_exit ?_; conv => whnf) | (refine ACode.s_ret ?_; conv => whnf) | (refine ACode.s_skip ?_; conv => whnf) | (refine ACode.s_label ?_; conv => whnf))
 refine ACall.of_spec (rparse_spec f ls hs (by omega) (fun l hl => by have := hn200 l hl; omega)) rfl fun r hr => ?_
 subst hr
 conv => whnf
 repeat (first | refine ACode.seq ?_ | (refine ACode.s_reg tys_ok ?_; conv => whnf) | refine ACode.s_block ?_ | refine ACode.s_scope ?_ | (refine ACode.s_cond ?_; conv => whnf) | (refine ACode.s_exit ?_; conv => whnf) | (refine ACode.s_ret ?_; conv => whnf) | (refine ACode.s_skip ?_; conv => whnf) | (refine ACode.s_label ?_; conv => whnf))
 refine ACall.of_spec (print_spec f x hs (by omega)) rfl fun r hr => ?_
 subst hr
 conv => whnf
 repeat (first | refine ACode.seq ?_ | (refine ACode.s_reg tys_ok ?_; conv => whnf) | refine ACode.s_block ?_ | refine ACode.s_scope ?_ | (refine ACode.s_cond ?_; conv => whnf) | (refine ACode.s_exit ?_; conv => whnf) | (refine ACode.s_ret ?_; conv => whnf) | (refine ACode.s_skip ?_; conv => whnf) | (refine ACode.s_label ?_; conv => whnf))
 refine ACall.of_spec (rprint_spec f x hs ⟨by omega, by omega, by omega, by omega⟩) rfl fun r hr => ?_
 subst hr
 conv => whnf
 repeat (first | refine ACode.seq ?_ | (refine ACode.s_reg tys_ok ?_; conv => whnf) | refine ACode.s_block ?_ | refine ACode.s_scope ?_ | (refine ACode.s_cond ?_; conv => whnf) | (refine ACode.s_exit ?_; conv => whnf) | (refine ACode.s_ret ?_; conv => whnf) | (refine ACode.s_skip ?_; conv => whnf) | (refine ACode.s_label ?_; conv => whnf))
 generalize parseR f ls = R at *
 generalize printR f x = Q at *
 refine ACode.loopD (fun k : Nat => mk 117 [(1, strsA ls), (3, .ptr 0 0), (6, .lit false), (7, .bool true), (8, .sl 5 (R.1.map Ad.v)), (9, .int .i64 R.2), (10, .sl 5 (R.1.map Ad.v)), (11, .int .i64 R.2), (12, strsA Q.1), (13, .int .i64 Q.2), (14, strsA Q.1), (15, .int .i64 Q.2), (16, .bool true), (17, .int .i64 k)]) (fun _ => [.cells [.str f.name, .sl 1 (f.lines.map ptsA)], .cells (adA x)]) (fun k => k ≤ ls.length) (fun k => ls.length - k) (fun _ _ => ⟨rfl, rfl, rfl, trivial⟩) ⟨0, ?_⟩ (fun _ => rfl) fun k hk => ?_
 ·conv => whnf
  repeat (refine And.intro ?_ ?_; (focus (first | rfl | (simp; done))); conv => whnf)
  exact Nat.zero_le _
 ·repeat (first | refine ACode.seq ?_ | (refine ACode.s_reg tys_ok ?_; conv => whnf) | refine ACode.s_block ?_ | refine ACode.s_scope ?_ | (refine ACode.s_cond ?_; conv => whnf) | (refine ACode.s_exit ?_; conv => whnf) | (refine ACode.s_ret ?_; conv => whnf) | (refine ACode.s_skip ?_; conv => whnf) | (refine ACode.s_label ?_; conv => whnf))
  refine ⟨fun h => ?_, fun h => ?_⟩
  ·have h : k < ls.length := by have := of_decide_eq_true h; omega
   have hw1 : Wr .i64 ((k : Int) + 1) = ((k + 1 : Nat) : Int) := by rw [Wr64 _ (by omega) (by omega)]; rfl
   have hli := hn200 ls[k] (List.getElem_mem h)
   have hwc := wordsW_count ls[k]
   conv => whnf
   repeat (first | refine ACode.seq ?_ | (refine ACode.s_reg tys_ok ?_; conv => whnf) | refine ACode.s_block ?_ | refine ACode.s_scope ?_ | (refine ACode.s_cond ?_; conv => whnf) | (refine ACode.s_exit ?_; conv => whnf) | (refine ACode.s_ret ?_; conv => whnf) | (refine ACode.s_skip ?_; conv => whnf) | (refine ACode.s_label ?_; conv => whnf))
   refine ACode.draw [] tys_ok (by kernel_rfl) (by kernel_rfl) ?_
   conv => whnf
   refine ⟨fun _ => ?_, fun h => by cases h⟩
   conv => whnf
   refine ⟨by omega, _, strs_get ls k h, ?_⟩
   conv => whnf
   refine ⟨_, ⟨words_spec ls[k] (by omega), rfl⟩, ?_⟩
   conv => whnf
   refine ⟨by omega, _, strs_get ls k h, ?_⟩
   conv => whnf
   refine ⟨_, ⟨rwords_spec ls[k] (by omega), rfl⟩, ?_⟩
   conv => whnf
   refine ⟨_, ⟨strings_spec (wordsW ls[k]) (wordsW ls[k]) (by omega) (by omega), rfl⟩, ?_⟩
   conv => whnf
   refine ⟨fun _ => ?_, fun h => by simp at h⟩
   conv => whnf
   repeat (first | refine ACode.seq ?_ | (refine ACode.s_reg tys_ok ?_; conv => whnf) | refine ACode.s_block ?_ | refine ACode.s_scope ?_ | (refine ACode.s_cond ?_; conv => whnf) | (refine ACode.s_exit ?_; conv => whnf) | (refine ACode.s_ret ?_; conv => whnf) | (refine ACode.s_skip ?_; conv => whnf) | (refine ACode.s_label ?_; conv => whnf))
   refine ⟨k + 1, ?_⟩
   conv => whnf
   repeat (refine And.intro ?_ ?_; (focus (first | rfl | (simp; done) | (first | exact hw1; done))); conv => whnf)
   exact ⟨by omega, by omega⟩
  ·conv => whnf
   repeat (first | refine ACode.seq ?_ | (refine ACode.s_reg tys_ok ?_; conv => whnf) | refine ACode.s_block ?_ | refine ACode.s_scope ?_ | (refine ACode.s_cond ?_; conv => whnf) | (refine ACode.s_exit ?_; conv => whnf) | (refine ACode.s_ret ?_; conv => whnf) | (refine ACode.s_skip ?_; conv => whnf) | (refine ACode.s_label ?_; conv => whnf))
   refine ACode.draw [] tys_ok (by kernel_rfl) (by kernel_rfl) ?_
   conv => whnf
   refine ⟨fun _ => ?_, fun h => by cases h⟩
   conv => whnf
   refine ⟨fun _ => ?_, fun h => by simp at h⟩
   conv => whnf
   refine ⟨_, ⟨same_spec R.1 R.1 (by omega) (by omega), rfl⟩, ?_⟩
   conv => whnf
   refine ⟨fun _ => ?_, fun h => by simp at h⟩
   conv => whnf
   refine ⟨fun _ => ?_, fun h => by simp at h⟩
   conv => whnf
   refine ⟨_, ⟨strings_spec Q.1 Q.1 (by omega) (by omega), rfl⟩, ?_⟩
   conv => whnf
   refine ⟨fun _ => ?_, fun h => by simp at h⟩
   conv => whnf
   refine ⟨fun _ => ?_, fun h => by cases h⟩
   conv => whnf
   refine ⟨_, ⟨valid_spec f hs.n hs.t hs.l hs.l2, rfl⟩, ?_⟩
   conv => whnf
   refine ⟨fun q1 => ?_, fun q1 => ?_⟩
   ·conv => whnf
    refine ⟨_, ⟨rvalid_spec f hs, rfl⟩, ?_⟩
    conv => whnf
    refine ⟨fun q2 => ?_, fun q2 => absurd (q1.symm.trans q2) (by simp)⟩
    conv => whnf
    refine ⟨fun _ => ?_, fun h => by simp at h⟩
    conv => whnf
    repeat (first | refine ACode.seq ?_ | (refine ACode.s_reg tys_ok ?_; conv => whnf) | refine ACode.s_block ?_ | refine ACode.s_scope ?_ | (refine ACode.s_cond ?_; conv => whnf) | (refine ACode.s_exit ?_; conv => whnf) | (refine ACode.s_ret ?_; conv => whnf) | (refine ACode.s_skip ?_; conv => whnf) | (refine ACode.s_label ?_; conv => whnf))
   ·conv => whnf
    refine ⟨_, ⟨rvalid_spec f hs, rfl⟩, ?_⟩
    conv => whnf
    refine ⟨fun q2 => absurd (q1.symm.trans q2) (by simp), fun q2 => ?_⟩
    conv => whnf
    refine ⟨fun _ => ?_, fun h => by simp at h⟩
    conv => whnf
    repeat (first | refine ACode.seq ?_ | (refine ACode.s_reg tys_ok ?_; conv => whnf) | refine ACode.s_block ?_ | refine ACode.s_scope ?_ | (refine ACode.s_cond ?_; conv => whnf) | (refine ACode.s_exit ?_; conv => whnf) | (refine ACode.s_ret ?_; conv => whnf) | (refine ACode.s_skip ?_; conv => whnf) | (refine ACode.s_label ?_; conv => whnf))
end Go.Proofs.YtbodeejogdckgaaGreatDoor
