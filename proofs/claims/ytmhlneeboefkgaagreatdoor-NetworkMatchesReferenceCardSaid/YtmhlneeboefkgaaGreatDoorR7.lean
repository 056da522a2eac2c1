import Derived.Test.YtmhlneeboefkgaaGreatDoorR6a
import Derived.Test.YtmhlneeboefkgaaGreatDoorPa
set_option linter.unusedVariables false
set_option linter.unusedSimpArgs false
namespace Go.Proofs.YtmhlneeboefkgaaGreatDoor
open Go.Av Go.Av.Net Pl
theorem symsR_eq (s : Bs) : inB symsR s = symB s := rfl
theorem inner_step (s : Bs) (k : Nat) (h : k < s.length - 1) : ((s.take (s.length - 1)).drop k).all inner = (inner (s.getD k 0) && ((s.take (s.length - 1)).drop (k + 1)).all inner) := by
 have hk : k < (s.take (s.length - 1)).length := by simp; omega
 rw [all_step _ _ k hk]
 congr 2
 simp [List.getD, show k < s.length by omega]
set_option maxRecDepth 20000 in
theorem quoted_spec (s : Bs) (hs : s.length ≤ 8000) : Ctr Tryz.prog 86 [.str s] (fun r => r = .bool (quotB s)) := by
 refine Ctr.lits ?_
 have hg : s.getD (0 : Int).toNat 0 = s.headD 0 := by cases s <;> rfl
 have hq : quotB s = (decide (2 ≤ s.length) && decide (s.length ≤ 202) && decide ((s.headD 0).toNat = 34) && decide ((s.getD (s.length - 1) 0).toNat = 34) && ((s.take (s.length - 1)).drop 1).all inner) := rfl
 have fin : ¬ (2 ≤ s.length ∧ s.length ≤ 202 ∧ (s.headD 0).toNat = 34 ∧ (s.getD (s.length - 1) 0).toNat = 34) → (AV.bool false = .lit (quotB s) ∨ AV.bool false = .bool (quotB s)) ∧ (AV.lit false = .lit (quotB s) ∨ AV.lit false = .bool (quotB s)) := fun h => by
  have : quotB s = false := by
   rw [Bool.eq_false_iff]; intro q; rw [hq] at q
   simp only [Bool.and_eq_true, decide_eq_true_eq] at q
   exact h ⟨q.1.1.1.1, q.1.1.1.2, q.1.1.2, q.1.2⟩
  rw [this]; exact ⟨.inr rfl, .inl rfl⟩
 refine Ctr.of_body Tryz.func86 rfl tys_ok (by kernel_rfl) ?_
 conv => whnf
 repeat (first | refine ACode.seq ?_ | (refine ACode.s_reg tys_ok ?_; conv => whnf) | refine ACode.s_block ?_ | refine ACode.s_scope ?_ | (refine ACode.s_cond ?_; conv => whnf) | (refine ACode.s_exit ?_; conv => whnf) | (refine ACode.s_ret ?_; conv => whnf) | (refine ACode.s_skip ?_; conv => whnf) | (refine ACode.s_label ?_; conv => whnf))
 refine ⟨fun h1 => ?_, fun h1 => ?_⟩
 ·have h1 : 2 ≤ s.length := by simp at h1; omega
  conv => whnf
  repeat (first | refine ACode.seq ?_ | (refine ACode.s_reg tys_ok ?_; conv => whnf) | refine ACode.s_block ?_ | refine ACode.s_scope ?_ | (refine ACode.s_cond ?_; conv => whnf) | (refine ACode.s_exit ?_; conv => whnf) | (refine ACode.s_ret ?_; conv => whnf) | (refine ACode.s_skip ?_; conv => whnf) | (refine ACode.s_label ?_; conv => whnf))
  refine ⟨fun h2 => ?_, fun h2 => ?_⟩
  ·have h2 : s.length ≤ 202 := by simp at h2; omega
   have ew : Wr IntKind.i64 ((s.length : Int) - 1) = ((s.length - 1 : Nat) : Int) := by rw [Wr64 _ (by omega) (by omega)]; omega
   conv => whnf
   repeat (first | refine ACode.seq ?_ | (refine ACode.s_reg tys_ok ?_; conv => whnf) | refine ACode.s_block ?_ | refine ACode.s_scope ?_ | (refine ACode.s_cond ?_; conv => whnf) | (refine ACode.s_exit ?_; conv => whnf) | (refine ACode.s_ret ?_; conv => whnf) | (refine ACode.s_skip ?_; conv => whnf) | (refine ACode.s_label ?_; conv => whnf))
   refine ⟨⟨by omega, by omega⟩, ?_⟩
   conv => whnf
   rw [hg]
   generalize s.headD 0 = c at *
   refine ⟨fun h3 => ?_, fun h3 => ?_⟩
   ·have h3 : c.toNat = 34 := by simp at h3; omega
    conv => whnf
    repeat (first | refine ACode.seq ?_ | (refine ACode.s_reg tys_ok ?_; conv => whnf) | refine ACode.s_block ?_ | refine ACode.s_scope ?_ | (refine ACode.s_cond ?_; conv => whnf) | (refine ACode.s_exit ?_; conv => whnf) | (refine ACode.s_ret ?_; conv => whnf) | (refine ACode.s_skip ?_; conv => whnf) | (refine ACode.s_label ?_; conv => whnf))
    rw [ew]
    refine ⟨⟨by omega, by omega⟩, ?_⟩
    conv => whnf
    rw [Int.toNat_natCast]
    generalize hd : s.getD (s.length - 1) 0 = d at *
    repeat (first | refine ACode.seq ?_ | (refine ACode.s_reg tys_ok ?_; conv => whnf) | refine ACode.s_block ?_ | refine ACode.s_scope ?_ | (refine ACode.s_cond ?_; conv => whnf) | (refine ACode.s_exit ?_; conv => whnf) | (refine ACode.s_ret ?_; conv => whnf) | (refine ACode.s_skip ?_; conv => whnf) | (refine ACode.s_label ?_; conv => whnf))
    refine ⟨fun h4 => ?_, fun h4 => ?_⟩
    ·have h4 : ¬ d.toNat = 34 := by simp at h4; omega
     conv => whnf
     repeat (first | refine ACode.seq ?_ | (refine ACode.s_reg tys_ok ?_; conv => whnf) | refine ACode.s_block ?_ | refine ACode.s_scope ?_ | (refine ACode.s_cond ?_; conv => whnf) | (refine ACode.s_exit ?_; conv => whnf) | (refine ACode.s_ret ?_; conv => whnf) | (refine ACode.s_skip ?_; conv => whnf) | (refine ACode.s_label ?_; conv => whnf))
     have := fin (fun q => h4 q.2.2.2)
     first | exact this.1 | exact this.2
    ·have h4 : d.toNat = 34 := by simp at h4; omega
     have hq : quotB s = ((s.take (s.length - 1)).drop 1).all inner := by rw [hq, decide_eq_true h1, decide_eq_true h2, decide_eq_true h3, decide_eq_true h4]; rfl
     conv => whnf
     repeat (first | refine ACode.seq ?_ | (refine ACode.s_reg tys_ok ?_; conv => whnf) | refine ACode.s_block ?_ | refine ACode.s_scope ?_ | (refine ACode.s_cond ?_; conv => whnf) | (refine ACode.s_exit ?_; conv => whnf) | (refine ACode.s_ret ?_; conv => whnf) | (refine ACode.s_skip ?_; conv => whnf) | (refine ACode.s_label ?_; conv => whnf))
     refine ACode.loopD (fun k : Nat => mk 48 [(0, .str s), (3, .int .i64 k)]) (fun _ => []) (fun k => 1 ≤ k ∧ k ≤ s.length - 1 ∧ quotB s = ((s.take (s.length - 1)).drop k).all inner) (fun k => s.length - k) (fun k hk => ⟨rfl, trivial⟩) ⟨1, ?_⟩ (fun _ => rfl) fun k hk => ?_
     ·conv => whnf
      repeat (refine And.intro ?_ ?_; (focus (first | rfl | (simp; done))); conv => whnf)
      exact ⟨by omega, hq⟩
     ·obtain ⟨hk1, hk, he⟩ := hk
      repeat (first | refine ACode.seq ?_ | (refine ACode.s_reg tys_ok ?_; conv => whnf) | refine ACode.s_block ?_ | refine ACode.s_scope ?_ | (refine ACode.s_cond ?_; conv => whnf) | (refine ACode.s_exit ?_; conv => whnf) | (refine ACode.s_ret ?_; conv => whnf) | (refine ACode.s_skip ?_; conv => whnf) | (refine ACode.s_label ?_; conv => whnf))
      rw [ew]
      refine ⟨fun hlt => ?_, fun hge => ?_⟩
      ·have hlt : k < s.length - 1 := by simp at hlt; omega
       rw [inner_step s k hlt] at he
       repeat (first | refine ACode.seq ?_ | (refine ACode.s_reg tys_ok ?_; conv => whnf) | refine ACode.s_block ?_ | refine ACode.s_scope ?_ | (refine ACode.s_cond ?_; conv => whnf) | (refine ACode.s_exit ?_; conv => whnf) | (refine ACode.s_ret ?_; conv => whnf) | (refine ACode.s_skip ?_; conv => whnf) | (refine ACode.s_label ?_; conv => whnf))
       repeat' (first | (refine And.intro (fun _ => ?_) (fun _ => ?_) <;> conv => whnf) | (refine And.intro ⟨by omega, by omega⟩ ?_; (conv => whnf); rw [Int.toNat_natCast]) | refine ACode.seq ?_ | (refine ACode.s_reg tys_ok ?_; conv => whnf) | refine ACode.s_block ?_ | refine ACode.s_scope ?_ | (refine ACode.s_cond ?_; conv => whnf) | (refine ACode.s_exit ?_; conv => whnf) | (refine ACode.s_ret ?_; conv => whnf) | (refine ACode.s_skip ?_; conv => whnf) | (refine ACode.s_label ?_; conv => whnf))
       all_goals first
        | (have hn : inner (s.getD k 0) = false := by simp_all [inner] <;> omega
           rw [hn] at he
           rw [he]; first | exact .inl rfl | exact .inr rfl)
        | (refine ⟨k + 1, ?_⟩
           conv => whnf
           repeat (refine And.intro ?_ ?_; (focus (first | rfl | (simp; done) | (rw [Wr64 _ (by omega) (by omega)]; omega; done))); conv => whnf)
           have hn : inner (s.getD k 0) = true := by simp_all [inner] <;> omega
           rw [hn] at he
           exact ⟨⟨by omega, by omega, he⟩, by omega⟩)
      ·have hge : k = s.length - 1 := by simp at hge; omega
       subst hge
       repeat (first | refine ACode.seq ?_ | (refine ACode.s_reg tys_ok ?_; conv => whnf) | refine ACode.s_block ?_ | refine ACode.s_scope ?_ | (refine ACode.s_cond ?_; conv => whnf) | (refine ACode.s_exit ?_; conv => whnf) | (refine ACode.s_ret ?_; conv => whnf) | (refine ACode.s_skip ?_; conv => whnf) | (refine ACode.s_label ?_; conv => whnf))
       rw [he, List.drop_eq_nil_of_le (by simp)]
       exact .inr rfl
   ·have h3 : ¬ c.toNat = 34 := by simp at h3; omega
    conv => whnf
    repeat (first | refine ACode.seq ?_ | (refine ACode.s_reg tys_ok ?_; conv => whnf) | refine ACode.s_block ?_ | refine ACode.s_scope ?_ | (refine ACode.s_cond ?_; conv => whnf) | (refine ACode.s_exit ?_; conv => whnf) | (refine ACode.s_ret ?_; conv => whnf) | (refine ACode.s_skip ?_; conv => whnf) | (refine ACode.s_label ?_; conv => whnf))
    have := fin (fun q => h3 q.2.2.1)
    first | exact this.1 | exact this.2
  ·have h2 : ¬ s.length ≤ 202 := by simp at h2; omega
   conv => whnf
   repeat (first | refine ACode.seq ?_ | (refine ACode.s_reg tys_ok ?_; conv => whnf) | refine ACode.s_block ?_ | refine ACode.s_scope ?_ | (refine ACode.s_cond ?_; conv => whnf) | (refine ACode.s_exit ?_; conv => whnf) | (refine ACode.s_ret ?_; conv => whnf) | (refine ACode.s_skip ?_; conv => whnf) | (refine ACode.s_label ?_; conv => whnf))
   have := fin (fun q => h2 q.2.1)
   first | exact this.1 | exact this.2
 ·have h1 : ¬ 2 ≤ s.length := by simp at h1; omega
  conv => whnf
  repeat (first | refine ACode.seq ?_ | (refine ACode.s_reg tys_ok ?_; conv => whnf) | refine ACode.s_block ?_ | refine ACode.s_scope ?_ | (refine ACode.s_cond ?_; conv => whnf) | (refine ACode.s_exit ?_; conv => whnf) | (refine ACode.s_ret ?_; conv => whnf) | (refine ACode.s_skip ?_; conv => whnf) | (refine ACode.s_label ?_; conv => whnf))
  have := fin (fun q => h1 q.1)
  first | exact this.1 | exact this.2
theorem all_take {α : Type} (p : α → Bool) (s : List α) (k : Nat) (h : k < s.length) : (s.take (k + 1)).all p = ((s.take k).all p && p s[k]) := by
 rw [List.take_succ_eq_append_getElem h, List.all_append]; simp only [List.all_cons, List.all_nil, Bool.and_true]
set_option maxRecDepth 20000 in
theorem rrun_spec (s : Bs) (hs : s.length ≤ 8000) : Ctr Tryz.prog 87 [.str s] (fun r => r = .int .i64 (runK s)) := by
 have hg : s.getD (0 : Int).toNat 0 = s.headD 0 := by cases s <;> rfl
 refine Ctr.of_body Tryz.func87 rfl tys_ok (by kernel_rfl) ?_
 conv => whnf
 repeat (first | refine ACode.seq ?_ | (refine ACode.s_reg tys_ok ?_; conv => whnf) | refine ACode.s_block ?_ | refine ACode.s_scope ?_ | (refine ACode.s_cond ?_; conv => whnf) | (refine ACode.s_exit ?_; conv => whnf) | (refine ACode.s_ret ?_; conv => whnf) | (refine ACode.s_skip ?_; conv => whnf) | (refine ACode.s_label ?_; conv => whnf))
 refine ACode.loopD (fun k : Nat => mk 44 [(0, .str s), (3, .bool ((s.take k).all digB)), (4, .int .i64 k)]) (fun _ => []) (fun k => k ≤ s.length ∧ (s.take k).all wordB = true) (fun k => s.length - k) (fun k hk => ⟨rfl, trivial⟩) ⟨0, ?_⟩ (fun _ => rfl) fun k hk => ?_
 ·conv => whnf
  repeat (refine And.intro ?_ ?_; (focus (first | rfl | (simp; done))); conv => whnf)
  simp
 ·obtain ⟨hk, he⟩ := hk
  repeat (first | refine ACode.seq ?_ | (refine ACode.s_reg tys_ok ?_; conv => whnf) | refine ACode.s_block ?_ | refine ACode.s_scope ?_ | (refine ACode.s_cond ?_; conv => whnf) | (refine ACode.s_exit ?_; conv => whnf) | (refine ACode.s_ret ?_; conv => whnf) | (refine ACode.s_skip ?_; conv => whnf) | (refine ACode.s_label ?_; conv => whnf))
  refine ⟨fun hlt => ?_, fun hge => ?_⟩
  ·have hlt : k < s.length := by simp at hlt; omega
   have hd := all_take digB s k hlt
   have hw := all_take wordB s k hlt
   repeat (first | refine ACode.seq ?_ | (refine ACode.s_reg tys_ok ?_; conv => whnf) | refine ACode.s_block ?_ | refine ACode.s_scope ?_ | (refine ACode.s_cond ?_; conv => whnf) | (refine ACode.s_exit ?_; conv => whnf) | (refine ACode.s_ret ?_; conv => whnf) | (refine ACode.s_skip ?_; conv => whnf) | (refine ACode.s_label ?_; conv => whnf))
   refine ⟨⟨by omega, by omega⟩, ?_⟩
   conv => whnf
   rw [getD_byte s k hlt]
   refine ACall.of_spec (rWord_spec s[k]) rfl fun r hr => ?_
   subst hr
   conv => whnf
   repeat (first | refine ACode.seq ?_ | (refine ACode.s_reg tys_ok ?_; conv => whnf) | refine ACode.s_block ?_ | refine ACode.s_scope ?_ | (refine ACode.s_cond ?_; conv => whnf) | (refine ACode.s_exit ?_; conv => whnf) | (refine ACode.s_ret ?_; conv => whnf) | (refine ACode.s_skip ?_; conv => whnf) | (refine ACode.s_label ?_; conv => whnf))
   refine ⟨fun h => ?_, fun h => ?_⟩
   ·have h : wordB s[k] = false := by simpa using h
    conv => whnf
    repeat (first | refine ACode.seq ?_ | (refine ACode.s_reg tys_ok ?_; conv => whnf) | refine ACode.s_block ?_ | refine ACode.s_scope ?_ | (refine ACode.s_cond ?_; conv => whnf) | (refine ACode.s_exit ?_; conv => whnf) | (refine ACode.s_ret ?_; conv => whnf) | (refine ACode.s_skip ?_; conv => whnf) | (refine ACode.s_label ?_; conv => whnf))
    have : s.all wordB = false := by
     rw [Bool.eq_false_iff]; intro q
     have := List.all_eq_true.1 q s[k] (List.getElem_mem hlt)
     rw [h] at this; cases this
    unfold runK
    rw [this]
    rfl
   ·have h : wordB s[k] = true := by simpa using h
    conv => whnf
    repeat (first | refine ACode.seq ?_ | (refine ACode.s_reg tys_ok ?_; conv => whnf) | refine ACode.s_block ?_ | refine ACode.s_scope ?_ | (refine ACode.s_cond ?_; conv => whnf) | (refine ACode.s_exit ?_; conv => whnf) | (refine ACode.s_ret ?_; conv => whnf) | (refine ACode.s_skip ?_; conv => whnf) | (refine ACode.s_label ?_; conv => whnf))
    refine ⟨fun h2 => ?_, fun h2 => ?_⟩
    ·have h2 : (s.take k).all digB = true := by simpa using h2
     rw [h2, Bool.true_and] at hd
     conv => whnf
     repeat (first | refine ACode.seq ?_ | (refine ACode.s_reg tys_ok ?_; conv => whnf) | refine ACode.s_block ?_ | refine ACode.s_scope ?_ | (refine ACode.s_cond ?_; conv => whnf) | (refine ACode.s_exit ?_; conv => whnf) | (refine ACode.s_ret ?_; conv => whnf) | (refine ACode.s_skip ?_; conv => whnf) | (refine ACode.s_label ?_; conv => whnf))
     refine ⟨⟨by omega, by omega⟩, ?_⟩
     conv => whnf
     rw [getD_byte s k hlt]
     refine ACall.of_spec (rDigit_spec s[k]) rfl fun r hr => ?_
     subst hr
     conv => whnf
     repeat (first | refine ACode.seq ?_ | (refine ACode.s_reg tys_ok ?_; conv => whnf) | refine ACode.s_block ?_ | refine ACode.s_scope ?_ | (refine ACode.s_cond ?_; conv => whnf) | (refine ACode.s_exit ?_; conv => whnf) | (refine ACode.s_ret ?_; conv => whnf) | (refine ACode.s_skip ?_; conv => whnf) | (refine ACode.s_label ?_; conv => whnf))
     refine ⟨k + 1, ?_⟩
     conv => whnf
     repeat (refine And.intro ?_ ?_; (focus (first | rfl | (simp; done) | (first | (rw [Wr64 _ (by omega) (by omega)]; omega) | exact hd.symm; done))); conv => whnf)
     exact ⟨⟨by omega, by rw [hw, he, h]; rfl⟩, by omega⟩
    ·have h2 : (s.take k).all digB = false := by simpa using h2
     rw [h2, Bool.false_and] at hd
     conv => whnf
     repeat (first | refine ACode.seq ?_ | (refine ACode.s_reg tys_ok ?_; conv => whnf) | refine ACode.s_block ?_ | refine ACode.s_scope ?_ | (refine ACode.s_cond ?_; conv => whnf) | (refine ACode.s_exit ?_; conv => whnf) | (refine ACode.s_ret ?_; conv => whnf) | (refine ACode.s_skip ?_; conv => whnf) | (refine ACode.s_label ?_; conv => whnf))
     refine ⟨k + 1, ?_⟩
     conv => whnf
     repeat (refine And.intro ?_ ?_; (focus (first | rfl | (simp; done) | (first | (rw [Wr64 _ (by omega) (by omega)]; omega) | exact hd.symm; done))); conv => whnf)
     exact ⟨⟨by omega, by rw [hw, he, h]; rfl⟩, by omega⟩
  ·have hge : k = s.length := by simp at hge; omega
   subst hge
   rw [List.take_length] at *
   have hr : runK s = bif decide (s.length = 0) || decide ((s.headD 0).toNat = 95) then 0 else bif s.all digB && decide (s.length ≤ 8) then 2 else bif !s.all digB && decide (s.length ≤ 20) then 1 else 0 := by unfold runK; rw [he]; rfl
   rw [hr]
   clear hr
   generalize s.all digB = D at *
   generalize s.headD 0 = c at *
   repeat (first | refine ACode.seq ?_ | (refine ACode.s_reg tys_ok ?_; conv => whnf) | refine ACode.s_block ?_ | refine ACode.s_scope ?_ | (refine ACode.s_cond ?_; conv => whnf) | (refine ACode.s_exit ?_; conv => whnf) | (refine ACode.s_ret ?_; conv => whnf) | (refine ACode.s_skip ?_; conv => whnf) | (refine ACode.s_label ?_; conv => whnf))
   refine ⟨fun h1 => ?_, fun h1 => ?_⟩
   ·have h1 : ¬ s.length = 0 := by simpa using h1
    rw [decide_eq_false h1, Bool.false_or]
    conv => whnf
    repeat (first | refine ACode.seq ?_ | (refine ACode.s_reg tys_ok ?_; conv => whnf) | refine ACode.s_block ?_ | refine ACode.s_scope ?_ | (refine ACode.s_cond ?_; conv => whnf) | (refine ACode.s_exit ?_; conv => whnf) | (refine ACode.s_ret ?_; conv => whnf) | (refine ACode.s_skip ?_; conv => whnf) | (refine ACode.s_label ?_; conv => whnf))
    refine ⟨⟨by omega, by omega⟩, ?_⟩
    conv => whnf
    rw [hg]
    repeat' (first | (refine And.intro (fun _ => ?_) (fun _ => ?_) <;> conv => whnf) | refine ACode.seq ?_ | (refine ACode.s_reg tys_ok ?_; conv => whnf) | refine ACode.s_block ?_ | refine ACode.s_scope ?_ | (refine ACode.s_cond ?_; conv => whnf) | (refine ACode.s_exit ?_; conv => whnf) | (refine ACode.s_ret ?_; conv => whnf) | (refine ACode.s_skip ?_; conv => whnf) | (refine ACode.s_label ?_; conv => whnf))
    all_goals (refine congrArg (AV.int IntKind.i64) ?_)
    all_goals (cases D <;> by_cases q1 : c.toNat = 95 <;> by_cases q2 : s.length ≤ 8 <;> by_cases q3 : s.length ≤ 20 <;> simp only [q1, q2, q3, decide_true, decide_false, Bool.true_and, Bool.false_and, Bool.not_true, Bool.not_false, cond_true, cond_false] <;> first | done | (exfalso; simp_all; done) | (exfalso; simp_all; omega))
   ·have h1 : s.length = 0 := by simpa using h1
    rw [decide_eq_true h1, Bool.true_or, cond_true]
    conv => whnf
    repeat (first | refine ACode.seq ?_ | (refine ACode.s_reg tys_ok ?_; conv => whnf) | refine ACode.s_block ?_ | refine ACode.s_scope ?_ | (refine ACode.s_cond ?_; conv => whnf) | (refine ACode.s_exit ?_; conv => whnf) | (refine ACode.s_ret ?_; conv => whnf) | (refine ACode.s_skip ?_; conv => whnf) | (refine ACode.s_label ?_; conv => whnf))
set_option maxRecDepth 20000 in
theorem rkind_spec (s : Bs) (hs : s.length ≤ 8000) : Ctr Tryz.prog 73 [.str s] (fun r => r = .tuple [.int .i64 (kindR s).1, .str (kindR s).2]) := by
 refine Ctr.of_body Tryz.func73 rfl tys_ok (by kernel_rfl) ?_
 conv => whnf
 repeat (first | refine ACode.seq ?_ | (refine ACode.s_reg tys_ok ?_; conv => whnf) | refine ACode.s_block ?_ | refine ACode.s_scope ?_ | (refine ACode.s_cond ?_; conv => whnf) | (refine ACode.s_exit ?_; conv => whnf) | (refine ACode.s_ret ?_; conv => whnf) | (refine ACode.s_skip ?_; conv => whnf) | (refine ACode.s_label ?_; conv => whnf))
 refine ACall.of_spec (rsymbol_spec s) rfl fun r hr => ?_
 subst hr
 conv => whnf
 repeat (first | refine ACode.seq ?_ | (refine ACode.s_reg tys_ok ?_; conv => whnf) | refine ACode.s_block ?_ | refine ACode.s_scope ?_ | (refine ACode.s_cond ?_; conv => whnf) | (refine ACode.s_exit ?_; conv => whnf) | (refine ACode.s_ret ?_; conv => whnf) | (refine ACode.s_skip ?_; conv => whnf) | (refine ACode.s_label ?_; conv => whnf))
 rw [symsR_eq]
 have hk : kindR s = bif symB s then (3, s) else bif quotB s then (4, (s.take (s.length - 1)).drop 1) else bif decide (runK s = 0) then (0, []) else (runK s, s) := rfl
 refine ⟨fun h1 => ?_, fun h1 => ?_⟩
 ·rw [hk, h1]
  conv => whnf
  repeat (first | refine ACode.seq ?_ | (refine ACode.s_reg tys_ok ?_; conv => whnf) | refine ACode.s_block ?_ | refine ACode.s_scope ?_ | (refine ACode.s_cond ?_; conv => whnf) | (refine ACode.s_exit ?_; conv => whnf) | (refine ACode.s_ret ?_; conv => whnf) | (refine ACode.s_skip ?_; conv => whnf) | (refine ACode.s_label ?_; conv => whnf))
  rfl
 ·rw [h1] at hk
  simp only [cond_false] at hk
  conv => whnf
  repeat (first | refine ACode.seq ?_ | (refine ACode.s_reg tys_ok ?_; conv => whnf) | refine ACode.s_block ?_ | refine ACode.s_scope ?_ | (refine ACode.s_cond ?_; conv => whnf) | (refine ACode.s_exit ?_; conv => whnf) | (refine ACode.s_ret ?_; conv => whnf) | (refine ACode.s_skip ?_; conv => whnf) | (refine ACode.s_label ?_; conv => whnf))
  refine ACall.of_spec (quoted_spec s hs) rfl fun r hr => ?_
  subst hr
  conv => whnf
  repeat (first | refine ACode.seq ?_ | (refine ACode.s_reg tys_ok ?_; conv => whnf) | refine ACode.s_block ?_ | refine ACode.s_scope ?_ | (refine ACode.s_cond ?_; conv => whnf) | (refine ACode.s_exit ?_; conv => whnf) | (refine ACode.s_ret ?_; conv => whnf) | (refine ACode.s_skip ?_; conv => whnf) | (refine ACode.s_label ?_; conv => whnf))
  refine ⟨fun h2 => ?_, fun h2 => ?_⟩
  ·rw [hk, h2]
   conv => whnf
   repeat (first | refine ACode.seq ?_ | (refine ACode.s_reg tys_ok ?_; conv => whnf) | refine ACode.s_block ?_ | refine ACode.s_scope ?_ | (refine ACode.s_cond ?_; conv => whnf) | (refine ACode.s_exit ?_; conv => whnf) | (refine ACode.s_ret ?_; conv => whnf) | (refine ACode.s_skip ?_; conv => whnf) | (refine ACode.s_label ?_; conv => whnf))
   refine ACode.draw [] tys_ok (by kernel_rfl) (by kernel_rfl) ?_
   (conv => whnf)
   have hl : 2 ≤ s.length := by
    have h2 := h2
    unfold quotB at h2
    simp only [Bool.and_eq_true, decide_eq_true_eq] at h2
    exact h2.1.1.1.1
   have ew : Wr IntKind.i64 ((s.length : Int) - 1) = ((s.length - 1 : Nat) : Int) := by rw [Wr64 _ (by omega) (by omega)]; omega
   rw [ew]
   refine ⟨⟨by omega, by omega, by omega⟩, ?_⟩
   conv => whnf
   rw [Int.toNat_natCast]
   repeat (first | refine ACode.seq ?_ | (refine ACode.s_reg tys_ok ?_; conv => whnf) | refine ACode.s_block ?_ | refine ACode.s_scope ?_ | (refine ACode.s_cond ?_; conv => whnf) | (refine ACode.s_exit ?_; conv => whnf) | (refine ACode.s_ret ?_; conv => whnf) | (refine ACode.s_skip ?_; conv => whnf) | (refine ACode.s_label ?_; conv => whnf))
   rfl
  ·rw [h2] at hk
   simp only [cond_false] at hk
   conv => whnf
   repeat (first | refine ACode.seq ?_ | (refine ACode.s_reg tys_ok ?_; conv => whnf) | refine ACode.s_block ?_ | refine ACode.s_scope ?_ | (refine ACode.s_cond ?_; conv => whnf) | (refine ACode.s_exit ?_; conv => whnf) | (refine ACode.s_ret ?_; conv => whnf) | (refine ACode.s_skip ?_; conv => whnf) | (refine ACode.s_label ?_; conv => whnf))
   refine ACall.of_spec (rrun_spec s hs) rfl fun r hr => ?_
   subst hr
   conv => whnf
   repeat (first | refine ACode.seq ?_ | (refine ACode.s_reg tys_ok ?_; conv => whnf) | refine ACode.s_block ?_ | refine ACode.s_scope ?_ | (refine ACode.s_cond ?_; conv => whnf) | (refine ACode.s_exit ?_; conv => whnf) | (refine ACode.s_ret ?_; conv => whnf) | (refine ACode.s_skip ?_; conv => whnf) | (refine ACode.s_label ?_; conv => whnf))
   refine ⟨fun h3 => ?_, fun h3 => ?_⟩
   ·rw [hk, h3]
    conv => whnf
    repeat (first | refine ACode.seq ?_ | (refine ACode.s_reg tys_ok ?_; conv => whnf) | refine ACode.s_block ?_ | refine ACode.s_scope ?_ | (refine ACode.s_cond ?_; conv => whnf) | (refine ACode.s_exit ?_; conv => whnf) | (refine ACode.s_ret ?_; conv => whnf) | (refine ACode.s_skip ?_; conv => whnf) | (refine ACode.s_label ?_; conv => whnf))
    rfl
   ·rw [hk, h3]
    conv => whnf
    repeat (first | refine ACode.seq ?_ | (refine ACode.s_reg tys_ok ?_; conv => whnf) | refine ACode.s_block ?_ | refine ACode.s_scope ?_ | (refine ACode.s_cond ?_; conv => whnf) | (refine ACode.s_exit ?_; conv => whnf) | (refine ACode.s_ret ?_; conv => whnf) | (refine ACode.s_skip ?_; conv => whnf) | (refine ACode.s_label ?_; conv => whnf))
    rfl
theorem gap_tstep (s : Bs) (k : Nat) (hk : k < s.length) : gap true (s.drop k) = bif decide (s[k].toNat = 10) then gap false (s.drop (k + 1)) + 1 else gap true (s.drop (k + 1)) + 1 := by
 rw [List.drop_eq_getElem_cons hk]; rfl
set_option maxRecDepth 20000 in
theorem rgap_spec (s : Bs) (hs : s.length ≤ 8000) (p : Nat) (hp : p ≤ s.length) : Ctr Tryz.prog 52 [.str s, .int .i64 p] (fun r => r = .int .i64 (gap false (s.drop p))) := by
 have e0 : gap false (s.drop s.length) = 0 := by simp [gap]
 have e1 : gap true (s.drop s.length) = 0 := by simp [gap]
 have fin : ∀ k : Nat, p ≤ k → k ≤ s.length → p + gap false (s.drop p) = k → AV.int IntKind.i64 (Wr IntKind.i64 ((k : Int) - p)) = AV.int IntKind.i64 (gap false (s.drop p)) := fun k h1 h2 h3 => by
  rw [Wr64 _ (by omega) (by omega)]
  refine congrArg (AV.int IntKind.i64) ?_
  omega
 refine Ctr.of_body Tryz.func52 rfl tys_ok (by kernel_rfl) ?_
 conv => whnf
 repeat (first | refine ACode.seq ?_ | (refine ACode.s_reg tys_ok ?_; conv => whnf) | refine ACode.s_block ?_ | refine ACode.s_scope ?_ | (refine ACode.s_cond ?_; conv => whnf) | (refine ACode.s_exit ?_; conv => whnf) | (refine ACode.s_ret ?_; conv => whnf) | (refine ACode.s_skip ?_; conv => whnf) | (refine ACode.s_label ?_; conv => whnf))
 refine ACode.loopD (fun k : Nat => mk 54 [(0, .str s), (1, .int .i64 p), (5, .int .i64 k)]) (fun _ => []) (fun k => p ≤ k ∧ k ≤ s.length ∧ p + gap false (s.drop p) = k + gap false (s.drop k)) (fun k => s.length - k) (fun k hk => ⟨rfl, trivial⟩) ⟨p, ?_⟩ (fun _ => rfl) fun k hk => ?_
 ·conv => whnf
  repeat (refine And.intro ?_ ?_; (focus (first | rfl | (simp; done))); conv => whnf)
  exact ⟨hp, rfl⟩
 ·obtain ⟨hk0, hk, he⟩ := hk
  repeat (first | refine ACode.seq ?_ | (refine ACode.s_reg tys_ok ?_; conv => whnf) | refine ACode.s_block ?_ | refine ACode.s_scope ?_ | (refine ACode.s_cond ?_; conv => whnf) | (refine ACode.s_exit ?_; conv => whnf) | (refine ACode.s_ret ?_; conv => whnf) | (refine ACode.s_skip ?_; conv => whnf) | (refine ACode.s_label ?_; conv => whnf))
  refine ⟨fun hlt => ?_, fun hge => ?_⟩
  ·have hlt : k < s.length := by simp at hlt; omega
   have hst := gap_step s k hlt
   repeat (first | refine ACode.seq ?_ | (refine ACode.s_reg tys_ok ?_; conv => whnf) | refine ACode.s_block ?_ | refine ACode.s_scope ?_ | (refine ACode.s_cond ?_; conv => whnf) | (refine ACode.s_exit ?_; conv => whnf) | (refine ACode.s_ret ?_; conv => whnf) | (refine ACode.s_skip ?_; conv => whnf) | (refine ACode.s_label ?_; conv => whnf))
   repeat' (first | (refine And.intro (fun _ => ?_) (fun _ => ?_) <;> conv => whnf) | (refine And.intro ⟨by omega, by omega⟩ ?_; (conv => whnf); rw [getD_byte s k hlt]) | refine ACode.seq ?_ | (refine ACode.s_reg tys_ok ?_; conv => whnf) | refine ACode.s_block ?_ | refine ACode.s_scope ?_ | (refine ACode.s_cond ?_; conv => whnf) | (refine ACode.s_exit ?_; conv => whnf) | (refine ACode.s_ret ?_; conv => whnf) | (refine ACode.s_skip ?_; conv => whnf) | (refine ACode.s_label ?_; conv => whnf))
   all_goals first
    | (exfalso; simp_all; done)
    | (refine ⟨k + 1, ?_⟩
       conv => whnf
       repeat (refine And.intro ?_ ?_; (focus (first | rfl | (simp; done) | ((rw [Wr64 _ (by omega) (by omega)]; omega); done))); conv => whnf)
       have hn : blankB s[k] = true := by simp_all [blankB] <;> omega
       rw [hn, cond_true] at hst
       exact ⟨⟨by omega, by omega, by omega⟩, by omega⟩)
    | (have hn : blankB s[k] = false := by simp_all [blankB] <;> omega
       have h37 : ¬ s[k].toNat = 37 := by rename_i x; simp at x; omega
       rw [hn, decide_eq_false h37] at hst
       simp only [cond_false] at hst
       exact fin _ hk0 hk (by omega))
    | (have hn : blankB s[k] = false := by simp_all [blankB] <;> omega
       have h37 : s[k].toNat = 37 := by rename_i x; simp at x; omega
       rw [hn, decide_eq_true h37] at hst
       simp only [cond_false, cond_true] at hst
       have hts := gap_tstep s k hlt
       rw [decide_eq_false (by omega), cond_false] at hts
       refine ACode.loopD (fun j : Nat => mk 54 [(0, .str s), (1, .int .i64 p), (5, .int .i64 j)]) (fun _ => []) (fun j => k ≤ j ∧ j ≤ s.length ∧ p + gap false (s.drop p) = j + gap true (s.drop j)) (fun j => s.length - j) (fun k hk => ⟨rfl, trivial⟩) ⟨k, ?_⟩ (fun _ => rfl) fun j hj => ?_
       · (conv => whnf)
         repeat (refine And.intro ?_ ?_; (focus (first | rfl | (simp; done))); conv => whnf)
         exact ⟨hk, by omega⟩
       · obtain ⟨hj0, hj, hje⟩ := hj
         repeat (first | refine ACode.seq ?_ | (refine ACode.s_reg tys_ok ?_; conv => whnf) | refine ACode.s_block ?_ | refine ACode.s_scope ?_ | (refine ACode.s_cond ?_; conv => whnf) | (refine ACode.s_exit ?_; conv => whnf) | (refine ACode.s_ret ?_; conv => whnf) | (refine ACode.s_skip ?_; conv => whnf) | (refine ACode.s_label ?_; conv => whnf))
         refine ⟨fun hl2 => ?_, fun hl2 => ?_⟩
         · have hl2 : j < s.length := by simp at hl2; omega
           have hst2 := gap_step s j hl2
           have hts2 := gap_tstep s j hl2
           repeat (first | refine ACode.seq ?_ | (refine ACode.s_reg tys_ok ?_; conv => whnf) | refine ACode.s_block ?_ | refine ACode.s_scope ?_ | (refine ACode.s_cond ?_; conv => whnf) | (refine ACode.s_exit ?_; conv => whnf) | (refine ACode.s_ret ?_; conv => whnf) | (refine ACode.s_skip ?_; conv => whnf) | (refine ACode.s_label ?_; conv => whnf))
           repeat' (first | (refine And.intro (fun _ => ?_) (fun _ => ?_) <;> conv => whnf) | (refine And.intro ⟨by omega, by omega⟩ ?_; (conv => whnf); rw [getD_byte s j hl2]) | refine ACode.seq ?_ | (refine ACode.s_reg tys_ok ?_; conv => whnf) | refine ACode.s_block ?_ | refine ACode.s_scope ?_ | (refine ACode.s_cond ?_; conv => whnf) | (refine ACode.s_exit ?_; conv => whnf) | (refine ACode.s_ret ?_; conv => whnf) | (refine ACode.s_skip ?_; conv => whnf) | (refine ACode.s_label ?_; conv => whnf))
           · rename_i x
             have h10 : ¬ s[j].toNat = 10 := by simp at x; omega
             rw [decide_eq_false h10, cond_false] at hts2
             refine ⟨j + 1, ?_⟩
             (conv => whnf)
             repeat (refine And.intro ?_ ?_; (focus (first | rfl | (simp; done) | (rw [Wr64 _ (by omega) (by omega)]; omega; done))); conv => whnf)
             exact ⟨⟨by omega, by omega, by omega⟩, by omega⟩
           · rename_i x
             have h10 : s[j].toNat = 10 := by simp at x; omega
             rw [decide_eq_true h10, cond_true] at hts2
             have hb : blankB s[j] = true := by simp [blankB, h10]
             rw [hb, cond_true] at hst2
             have hne : k ≠ j := fun e => by subst e; omega
             refine ⟨j, ?_⟩
             (conv => whnf)
             repeat (refine And.intro ?_ ?_; (focus (first | rfl | (simp; done) | (rw [Wr64 _ (by omega) (by omega)]; omega; done))); conv => whnf)
             exact ⟨⟨by omega, by omega, by omega⟩, by omega⟩
         · have hl2 : j = s.length := by simp at hl2; omega
           subst hl2
           repeat (first | refine ACode.seq ?_ | (refine ACode.s_reg tys_ok ?_; conv => whnf) | refine ACode.s_block ?_ | refine ACode.s_scope ?_ | (refine ACode.s_cond ?_; conv => whnf) | (refine ACode.s_exit ?_; conv => whnf) | (refine ACode.s_ret ?_; conv => whnf) | (refine ACode.s_skip ?_; conv => whnf) | (refine ACode.s_label ?_; conv => whnf))
           refine ⟨s.length, ?_⟩
           (conv => whnf)
           repeat (refine And.intro ?_ ?_; (focus (first | rfl | (simp; done) | (rw [Wr64 _ (by omega) (by omega)]; omega; done))); conv => whnf)
           exact ⟨⟨by omega, by omega, by omega⟩, by omega⟩)
  ·have hge : k = s.length := by simp at hge; omega
   subst hge
   repeat (first | refine ACode.seq ?_ | (refine ACode.s_reg tys_ok ?_; conv => whnf) | refine ACode.s_block ?_ | refine ACode.s_scope ?_ | (refine ACode.s_cond ?_; conv => whnf) | (refine ACode.s_exit ?_; conv => whnf) | (refine ACode.s_ret ?_; conv => whnf) | (refine ACode.s_skip ?_; conv => whnf) | (refine ACode.s_label ?_; conv => whnf))
   exact fin _ hk0 hk (by omega)
set_option maxRecDepth 20000 in
theorem rnext_spec (s : Bs) (hs : s.length ≤ 8000) : Ctr Tryz.prog 53 [.str s] (fun r => r = match tokP s with | some (n, k, t) => .tuple [.agg [.int .i64 k, .str t, .int .i64 0], .int .i64 n] | none => .tuple [.agg [.int .i64 0, .str [], .int .i64 0], .int .i64 0]) := by
 refine Ctr.of_body Tryz.func53 rfl tys_ok (by kernel_rfl) ?_
 conv => whnf
 repeat (first | refine ACode.seq ?_ | (refine ACode.s_reg tys_ok ?_; conv => whnf) | refine ACode.s_block ?_ | refine ACode.s_scope ?_ | (refine ACode.s_cond ?_; conv => whnf) | (refine ACode.s_exit ?_; conv => whnf) | (refine ACode.s_ret ?_; conv => whnf) | (refine ACode.s_skip ?_; conv => whnf) | (refine ACode.s_label ?_; conv => whnf))
 refine ACode.loopD (fun n : Nat => mk 48 [(0, .str s), (2, .ptr 0 0), (4, .int .i64 n)]) (fun _ => [.cells [.int .i64 0, .str [], .int .i64 0]]) (fun n => n ≤ s.length ∧ n ≤ 202 ∧ ∀ m, n < m → m ≤ s.length → m ≤ 202 → okR s m = false) (fun n => n) (fun n hn => ⟨rfl, rfl, trivial⟩) ⟨min s.length 202, ?_⟩ (fun _ => rfl) fun n hn => ?_
 ·conv => whnf
  repeat (refine And.intro ?_ ?_; (focus (first | rfl | (simp; done) | (omega; done))); conv => whnf)
  exact fun m h1 h2 h3 => by omega
 ·obtain ⟨h1, h2, h3⟩ := hn
  repeat (first | refine ACode.seq ?_ | (refine ACode.s_reg tys_ok ?_; conv => whnf) | refine ACode.s_block ?_ | refine ACode.s_scope ?_ | (refine ACode.s_cond ?_; conv => whnf) | (refine ACode.s_exit ?_; conv => whnf) | (refine ACode.s_ret ?_; conv => whnf) | (refine ACode.s_skip ?_; conv => whnf) | (refine ACode.s_label ?_; conv => whnf))
  refine ⟨fun hpos => ?_, fun hz => ?_⟩
  ·have hpos : 0 < n := by simpa using hpos
   repeat (first | refine ACode.seq ?_ | (refine ACode.s_reg tys_ok ?_; conv => whnf) | refine ACode.s_block ?_ | refine ACode.s_scope ?_ | (refine ACode.s_cond ?_; conv => whnf) | (refine ACode.s_exit ?_; conv => whnf) | (refine ACode.s_ret ?_; conv => whnf) | (refine ACode.s_skip ?_; conv => whnf) | (refine ACode.s_label ?_; conv => whnf))
   refine ⟨⟨by omega, by omega, by omega⟩, ?_⟩
   conv => whnf
   have e1 : List.drop (Int.toNat 0) (List.take ((n : Int)).toNat s) = s.take n := by simp
   rw [e1]
   refine ACall.of_spec (rkind_spec (s.take n) (by simp; omega)) rfl fun r hr => ?_
   subst hr
   conv => whnf
   repeat (first | refine ACode.seq ?_ | (refine ACode.s_reg tys_ok ?_; conv => whnf) | refine ACode.s_block ?_ | refine ACode.s_scope ?_ | (refine ACode.s_cond ?_; conv => whnf) | (refine ACode.s_exit ?_; conv => whnf) | (refine ACode.s_ret ?_; conv => whnf) | (refine ACode.s_skip ?_; conv => whnf) | (refine ACode.s_label ?_; conv => whnf))
   have hok : okR s n = (!decide ((kindR (s.take n)).1 = 0) && !((decide ((kindR (s.take n)).1 = 1) || decide ((kindR (s.take n)).1 = 2)) && decide (n < s.length) && wordB (s.getD n 0))) := rfl
   have hgood := fun h => next_eq hpos h1 h h3
   generalize kindR (s.take n) = kt at *
   obtain ⟨k, t⟩ := kt
   simp only at hok hgood
   repeat (first | refine ACode.seq ?_ | (refine ACode.s_reg tys_ok ?_; conv => whnf) | refine ACode.s_block ?_ | refine ACode.s_scope ?_ | (refine ACode.s_cond ?_; conv => whnf) | (refine ACode.s_exit ?_; conv => whnf) | (refine ACode.s_ret ?_; conv => whnf) | (refine ACode.s_skip ?_; conv => whnf) | (refine ACode.s_label ?_; conv => whnf))
   have hcont : okR s n = false → ∀ m, n - 1 < m → m ≤ s.length → m ≤ 202 → okR s m = false := fun q m q1 q2 q3 => by
    by_cases c : m = n
    ·rw [c]; exact q
    ·exact h3 m (by omega) q2 q3
   by_cases hlt : n < s.length
   all_goals
    simp only
    repeat' (first | (refine And.intro (fun _ => ?_) (fun _ => ?_) <;> conv => whnf) | (refine And.intro ⟨by omega, by omega⟩ ?_; (conv => whnf); rw [Int.toNat_natCast]) | (refine ACall.of_spec (rWord_spec (s.getD n 0)) rfl fun r hr => ?_; subst hr; conv => whnf) | refine ACode.seq ?_ | (refine ACode.s_reg tys_ok ?_; conv => whnf) | refine ACode.s_block ?_ | refine ACode.s_scope ?_ | (refine ACode.s_cond ?_; conv => whnf) | (refine ACode.s_exit ?_; conv => whnf) | (refine ACode.s_ret ?_; conv => whnf) | (refine ACode.s_skip ?_; conv => whnf) | (refine ACode.s_label ?_; conv => whnf))
   all_goals first
    | (refine ⟨n - 1, ?_⟩
       conv => whnf
       repeat (refine And.intro ?_ ?_; (focus (first | rfl | (simp; done) | ((rw [Wr64 _ (by omega) (by omega)]; omega); done))); conv => whnf)
       have hv : okR s n = false := by rw [hok]; simp_all
       exact ⟨⟨by omega, by omega, hcont hv⟩, by omega⟩)
    | (have hv : okR s n = true := by rw [hok]; (first | (simp_all; done) | (simp_all; omega))
       rw [hgood hv]; done)
    | (exfalso; rename_i x; simp at x; omega)
  ·have hz : n = 0 := by simp at hz; omega
   subst hz
   have := next_none (s := s) (fun m h4 h5 h6 => h3 m h4 h5 h6)
   rw [this]
   repeat (first | refine ACode.seq ?_ | (refine ACode.s_reg tys_ok ?_; conv => whnf) | refine ACode.s_block ?_ | refine ACode.s_scope ?_ | (refine ACode.s_cond ?_; conv => whnf) | (refine ACode.s_exit ?_; conv => whnf) | (refine ACode.s_ret ?_; conv => whnf) | (refine ACode.s_skip ?_; conv => whnf) | (refine ACode.s_label ?_; conv => whnf))
set_option maxRecDepth 20000 in
theorem rLex_spec (s : Bs) (hs : s.length ≤ 9223372036854775807) : Ctr Tryz.prog 18 [.str s] (fun r => r = resLx (lexP s)) := by
 refine Ctr.of_body Tryz.func18 rfl tys_ok (by kernel_rfl) ?_
 conv => whnf
 repeat (first | refine ACode.seq ?_ | (refine ACode.s_reg tys_ok ?_; conv => whnf) | refine ACode.s_block ?_ | refine ACode.s_scope ?_ | (refine ACode.s_cond ?_; conv => whnf) | (refine ACode.s_exit ?_; conv => whnf) | (refine ACode.s_ret ?_; conv => whnf) | (refine ACode.s_skip ?_; conv => whnf) | (refine ACode.s_label ?_; conv => whnf))
 refine ⟨fun h => ?_, fun h => ?_⟩
 ·have h : 8000 < s.length := by simp at h; omega
  conv => whnf
  repeat (first | refine ACode.seq ?_ | (refine ACode.s_reg tys_ok ?_; conv => whnf) | refine ACode.s_block ?_ | refine ACode.s_scope ?_ | (refine ACode.s_cond ?_; conv => whnf) | (refine ACode.s_exit ?_; conv => whnf) | (refine ACode.s_ret ?_; conv => whnf) | (refine ACode.s_skip ?_; conv => whnf) | (refine ACode.s_label ?_; conv => whnf))
  refine ⟨3, ?_⟩
  (conv => whnf)
  unfold lexP
  rw [decide_eq_true h]
  rfl
 ·have h : ¬ 8000 < s.length := by simp at h; omega
  conv => whnf
  repeat (first | refine ACode.seq ?_ | (refine ACode.s_reg tys_ok ?_; conv => whnf) | refine ACode.s_block ?_ | refine ACode.s_scope ?_ | (refine ACode.s_cond ?_; conv => whnf) | (refine ACode.s_exit ?_; conv => whnf) | (refine ACode.s_ret ?_; conv => whnf) | (refine ACode.s_skip ?_; conv => whnf) | (refine ACode.s_label ?_; conv => whnf))
  refine ACall.of_spec (rgap_spec s (by omega) 0 (by omega)) rfl fun r hr => ?_
  subst hr
  conv => whnf
  repeat (first | refine ACode.seq ?_ | (refine ACode.s_reg tys_ok ?_; conv => whnf) | refine ACode.s_block ?_ | refine ACode.s_scope ?_ | (refine ACode.s_cond ?_; conv => whnf) | (refine ACode.s_exit ?_; conv => whnf) | (refine ACode.s_ret ?_; conv => whnf) | (refine ACode.s_skip ?_; conv => whnf) | (refine ACode.s_label ?_; conv => whnf))
  refine ACode.nilArr 5 76 3 rfl ?_
  refine ACode.loopD (fun i : Nat × List Tok => mk 47 [(0, .str s), (5, .own 0 3 0 i.2.length), (6, .int .i64 ((i.1 + gap false (s.drop i.1) : Nat) : Int))]) (fun i => [.arr 76 3 (toksA i.2)])
   (fun i => i.1 ≤ s.length ∧ i.2.length ≤ 3000 ∧ ∃ f, s.length < i.1 + f ∧ lexP s = Lx.app i.2 (lexGo s f i.1 i.2.length)) (fun i => s.length - i.1) (fun i hi => ⟨rfl, ?_⟩) ⟨(0, []), ?_⟩ (fun _ => rfl) fun i hi => ?_
  ·(conv => whnf)
   exact ⟨closed_toks _, trivial⟩
  ·conv => whnf
   repeat (refine And.intro ?_ ?_; (focus (first | rfl | (simp; done))); conv => whnf)
   refine ⟨s.length + 1, by simp only; omega, ?_⟩
   unfold lexP
   rw [decide_eq_false h, cond_false]
   simp only [List.length_nil]
   cases lexGo s (s.length + 1) 0 0 <;> simp [Lx.app]
  ·obtain ⟨p, l⟩ := i
   obtain ⟨hp, hl, f, hf, he⟩ := hi
   simp only at hp hl hf he ⊢
   obtain ⟨f, rfl⟩ : ∃ f', f = f' + 1 := ⟨f - 1, by omega⟩
   unfold lexGo at he
   have hg := gap_le false (s.drop p)
   simp only [List.length_drop] at hg
   have hpq : p ≤ p + gap false (s.drop p) := Nat.le_add_right _ _
   have hqs : p + gap false (s.drop p) ≤ s.length := by omega
   generalize p + gap false (s.drop p) = q at *
   repeat (first | refine ACode.seq ?_ | (refine ACode.s_reg tys_ok ?_; conv => whnf) | refine ACode.s_block ?_ | refine ACode.s_scope ?_ | (refine ACode.s_cond ?_; conv => whnf) | (refine ACode.s_exit ?_; conv => whnf) | (refine ACode.s_ret ?_; conv => whnf) | (refine ACode.s_skip ?_; conv => whnf) | (refine ACode.s_label ?_; conv => whnf))
   refine ⟨fun h1 => ?_, fun h1 => ?_⟩
   ·have h1 : q < s.length := by simpa using h1
    rw [decide_eq_false (by omega), cond_false] at he
    repeat (first | refine ACode.seq ?_ | (refine ACode.s_reg tys_ok ?_; conv => whnf) | refine ACode.s_block ?_ | refine ACode.s_scope ?_ | (refine ACode.s_cond ?_; conv => whnf) | (refine ACode.s_exit ?_; conv => whnf) | (refine ACode.s_ret ?_; conv => whnf) | (refine ACode.s_skip ?_; conv => whnf) | (refine ACode.s_label ?_; conv => whnf))
    refine ⟨fun h2 => ?_, fun h2 => ?_⟩
    ·have h2 : l.length = 3000 := by simp at h2; omega
     rw [decide_eq_true h2, cond_true] at he
     conv => whnf
     repeat (first | refine ACode.seq ?_ | (refine ACode.s_reg tys_ok ?_; conv => whnf) | refine ACode.s_block ?_ | refine ACode.s_scope ?_ | (refine ACode.s_cond ?_; conv => whnf) | (refine ACode.s_exit ?_; conv => whnf) | (refine ACode.s_ret ?_; conv => whnf) | (refine ACode.s_skip ?_; conv => whnf) | (refine ACode.s_label ?_; conv => whnf))
     refine ⟨3, ?_⟩
     (conv => whnf)
     rw [he]
     rfl
    ·have h2 : ¬ l.length = 3000 := by simp at h2; omega
     rw [decide_eq_false h2, cond_false] at he
     conv => whnf
     repeat (first | refine ACode.seq ?_ | (refine ACode.s_reg tys_ok ?_; conv => whnf) | refine ACode.s_block ?_ | refine ACode.s_scope ?_ | (refine ACode.s_cond ?_; conv => whnf) | (refine ACode.s_exit ?_; conv => whnf) | (refine ACode.s_ret ?_; conv => whnf) | (refine ACode.s_skip ?_; conv => whnf) | (refine ACode.s_label ?_; conv => whnf))
     refine ⟨⟨by omega, by omega, by omega⟩, ?_⟩
     conv => whnf
     have ed : List.drop ((q : Int)).toNat (List.take ((s.length : Int)).toNat s) = s.drop q := by simp
     rw [ed]
     refine ACall.of_spec (rnext_spec (s.drop q) (by simp; omega)) rfl fun r hr => ?_
     subst hr
     conv => whnf
     repeat (first | refine ACode.seq ?_ | (refine ACode.s_reg tys_ok ?_; conv => whnf) | refine ACode.s_block ?_ | refine ACode.s_scope ?_ | (refine ACode.s_cond ?_; conv => whnf) | (refine ACode.s_exit ?_; conv => whnf) | (refine ACode.s_ret ?_; conv => whnf) | (refine ACode.s_skip ?_; conv => whnf) | (refine ACode.s_label ?_; conv => whnf))
     cases ht : tokP (s.drop q) with
     | none =>
      rw [ht] at he
      (conv => whnf)
      repeat (first | refine ACode.seq ?_ | (refine ACode.s_reg tys_ok ?_; conv => whnf) | refine ACode.s_block ?_ | refine ACode.s_scope ?_ | (refine ACode.s_cond ?_; conv => whnf) | (refine ACode.s_exit ?_; conv => whnf) | (refine ACode.s_ret ?_; conv => whnf) | (refine ACode.s_skip ?_; conv => whnf) | (refine ACode.s_label ?_; conv => whnf))
      repeat (first | (refine ⟨fun _ => ?_, fun h => absurd h (by decide +kernel)⟩; conv => whnf) | (refine ⟨fun h => absurd h (by decide +kernel), fun _ => ?_⟩; conv => whnf) | (refine ⟨by decide, _, rfl, ?_⟩; conv => whnf) | refine ACode.seq ?_ | (refine ACode.s_reg tys_ok ?_; conv => whnf) | refine ACode.s_block ?_ | refine ACode.s_scope ?_ | (refine ACode.s_cond ?_; conv => whnf) | (refine ACode.s_exit ?_; conv => whnf) | (refine ACode.s_ret ?_; conv => whnf) | (refine ACode.s_skip ?_; conv => whnf) | (refine ACode.s_label ?_; conv => whnf))
      refine ⟨3, ?_⟩
      (conv => whnf)
      rw [he]
      rfl
     | some x =>
      obtain ⟨n, k, t⟩ := x
      rw [ht] at he
      simp only [app_cons] at he
      obtain ⟨k1, k2, k3, k4⟩ := tokP_ok ht
      simp only [List.length_drop] at k2
      (conv => whnf)
      repeat (first | refine ACode.seq ?_ | (refine ACode.s_reg tys_ok ?_; conv => whnf) | refine ACode.s_block ?_ | refine ACode.s_scope ?_ | (refine ACode.s_cond ?_; conv => whnf) | (refine ACode.s_exit ?_; conv => whnf) | (refine ACode.s_ret ?_; conv => whnf) | (refine ACode.s_skip ?_; conv => whnf) | (refine ACode.s_label ?_; conv => whnf))
      refine ⟨fun h3 => absurd h3 (by simp; omega), fun _ => ?_⟩
      conv => whnf
      repeat (first | refine ACode.seq ?_ | (refine ACode.s_reg tys_ok ?_; conv => whnf) | refine ACode.s_block ?_ | refine ACode.s_scope ?_ | (refine ACode.s_cond ?_; conv => whnf) | (refine ACode.s_exit ?_; conv => whnf) | (refine ACode.s_ret ?_; conv => whnf) | (refine ACode.s_skip ?_; conv => whnf) | (refine ACode.s_label ?_; conv => whnf))
      refine ⟨rfl, ?_⟩
      conv => whnf
      refine ⟨⟨(toksA_length l).symm, by simp; omega⟩, ?_⟩
      conv => whnf
      have ew : Wr .i64 ((q : Int) + (n : Int)) = ((q + n : Nat) : Int) := by rw [Wr64 _ (by omega) (by omega)]; omega
      repeat (first | refine ACode.seq ?_ | (refine ACode.s_reg tys_ok ?_; conv => whnf) | refine ACode.s_block ?_ | refine ACode.s_scope ?_ | (refine ACode.s_cond ?_; conv => whnf) | (refine ACode.s_exit ?_; conv => whnf) | (refine ACode.s_ret ?_; conv => whnf) | (refine ACode.s_skip ?_; conv => whnf) | (refine ACode.s_label ?_; conv => whnf))
      rw [ew]
      refine ACall.of_spec (rgap_spec s (by omega) (q + n) (by omega)) rfl fun r hr => ?_
      subst hr
      conv => whnf
      repeat (first | refine ACode.seq ?_ | (refine ACode.s_reg tys_ok ?_; conv => whnf) | refine ACode.s_block ?_ | refine ACode.s_scope ?_ | (refine ACode.s_cond ?_; conv => whnf) | (refine ACode.s_exit ?_; conv => whnf) | (refine ACode.s_ret ?_; conv => whnf) | (refine ACode.s_skip ?_; conv => whnf) | (refine ACode.s_label ?_; conv => whnf))
      have hg2 := gap_le false (s.drop (q + n))
      simp only [List.length_drop] at hg2
      refine ⟨(q + n, l ++ [⟨k, t, q⟩]), ?_⟩
      conv => whnf
      repeat (refine And.intro ?_ ?_; (focus (first | rfl | (simp; done) | (first | (simp [toksA]; done) | (rw [Wr64 _ (by omega) (by omega)]; simp; done) | (rw [Wr64 _ (by omega) (by omega)]; omega); done))); conv => whnf)
      refine ⟨by simp [toksA, tokA], ?_⟩
      (conv => whnf)
      exact ⟨⟨by simp only; omega, by simp; omega, f, by simp only; omega, by simpa using he⟩, by simp only; omega⟩
   ·have h1 : q = s.length := by simp at h1; omega
    rw [decide_eq_true h1, cond_true] at he
    repeat (first | refine ACode.seq ?_ | (refine ACode.s_reg tys_ok ?_; conv => whnf) | refine ACode.s_block ?_ | refine ACode.s_scope ?_ | (refine ACode.s_cond ?_; conv => whnf) | (refine ACode.s_exit ?_; conv => whnf) | (refine ACode.s_ret ?_; conv => whnf) | (refine ACode.s_skip ?_; conv => whnf) | (refine ACode.s_label ?_; conv => whnf))
    refine ⟨⟨(toksA_length l).symm, closed_toks _⟩, ?_⟩
    (conv => whnf)
    rw [he]
    simp [Lx.app, resLx]
end Go.Proofs.YtmhlneeboefkgaaGreatDoor
