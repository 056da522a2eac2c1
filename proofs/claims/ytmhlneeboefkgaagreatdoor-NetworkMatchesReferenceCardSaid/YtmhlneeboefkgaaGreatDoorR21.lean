import Derived.Test.YtmhlneeboefkgaaGreatDoorR20
set_option linter.unusedVariables false
set_option linter.unusedSimpArgs false
namespace Go.Proofs.YtmhlneeboefkgaaGreatDoor
open Go.Av Go.Av.Net Pl
section
variable {ts : List Tok}
set_option maxRecDepth 20000 in
theorem rweek_spec (s : Bs) : Ctr Tryz.prog 56 [.str s] (fun r => r = .bool (isWeekB s)) := by
 refine Ctr.lits ?_
 refine Ctr.of_body Tryz.func56 rfl tys_ok (by kernel_rfl) ?_
 conv => whnf
 repeat (first | refine ACode.seq ?_ | (refine ACode.s_reg tys_ok ?_; conv => whnf) | refine ACode.s_block ?_ | refine ACode.s_scope ?_ | (refine ACode.s_cond ?_; conv => whnf) | (refine ACode.s_exit ?_; conv => whnf) | (refine ACode.s_ret ?_; conv => whnf) | (refine ACode.s_skip ?_; conv => whnf) | (refine ACode.s_label ?_; conv => whnf))
 refine ⟨fun h7 => ?_, fun h7 => ?_⟩
 ·have h7 : ¬ s.length = 7 := by simp at h7; omega
  conv => whnf
  repeat (first | refine ACode.seq ?_ | (refine ACode.s_reg tys_ok ?_; conv => whnf) | refine ACode.s_block ?_ | refine ACode.s_scope ?_ | (refine ACode.s_cond ?_; conv => whnf) | (refine ACode.s_exit ?_; conv => whnf) | (refine ACode.s_ret ?_; conv => whnf) | (refine ACode.s_skip ?_; conv => whnf) | (refine ACode.s_label ?_; conv => whnf))
  rw [show isWeekB s = false by simp [isWeekB, h7]]
  first | exact .inl rfl | exact .inr rfl
 ·have h7 : s.length = 7 := by simp at h7; omega
  have hw : isWeekB s = s.all (fun b => decide (b.toNat = 48) || decide (b.toNat = 49)) := by simp [isWeekB, h7]
  rw [hw]
  repeat (first | refine ACode.seq ?_ | (refine ACode.s_reg tys_ok ?_; conv => whnf) | refine ACode.s_block ?_ | refine ACode.s_scope ?_ | (refine ACode.s_cond ?_; conv => whnf) | (refine ACode.s_exit ?_; conv => whnf) | (refine ACode.s_ret ?_; conv => whnf) | (refine ACode.s_skip ?_; conv => whnf) | (refine ACode.s_label ?_; conv => whnf))
  refine ACode.loopD (fun k : Nat => mk 21 [(0, .str s), (3, .int .i64 k)]) (fun _ => []) (fun k => k ≤ 7 ∧ s.all (fun b => decide (b.toNat = 48) || decide (b.toNat = 49)) = (s.drop k).all (fun b => decide (b.toNat = 48) || decide (b.toNat = 49))) (fun k => 7 - k) (fun k hk => ⟨rfl, trivial⟩) ⟨0, ?_⟩ (fun _ => rfl) fun k hk => ?_
  ·conv => whnf
   repeat (refine And.intro ?_ ?_; (focus (first | rfl | (simp; done))); conv => whnf)
   rfl
  ·obtain ⟨hk7, he⟩ := hk
   repeat (first | refine ACode.seq ?_ | (refine ACode.s_reg tys_ok ?_; conv => whnf) | refine ACode.s_block ?_ | refine ACode.s_scope ?_ | (refine ACode.s_cond ?_; conv => whnf) | (refine ACode.s_exit ?_; conv => whnf) | (refine ACode.s_ret ?_; conv => whnf) | (refine ACode.s_skip ?_; conv => whnf) | (refine ACode.s_label ?_; conv => whnf))
   refine ⟨fun hlt => ?_, fun hge => ?_⟩
   ·have hlt : k < s.length := by simp at hlt; omega
    rw [all_step _ s k hlt] at he
    have eg : List.getD s (k : Int).toNat 0 = s[k] := by simp [hlt]
    repeat (first | refine ACode.seq ?_ | (refine ACode.s_reg tys_ok ?_; conv => whnf) | refine ACode.s_block ?_ | refine ACode.s_scope ?_ | (refine ACode.s_cond ?_; conv => whnf) | (refine ACode.s_exit ?_; conv => whnf) | (refine ACode.s_ret ?_; conv => whnf) | (refine ACode.s_skip ?_; conv => whnf) | (refine ACode.s_label ?_; conv => whnf))
    repeat' (first | (refine And.intro (fun _ => ?_) (fun _ => ?_) <;> conv => whnf) | (refine And.intro ⟨by omega, by omega⟩ ?_; (conv => whnf); rw [eg]) | refine ACode.seq ?_ | (refine ACode.s_reg tys_ok ?_; conv => whnf) | refine ACode.s_block ?_ | refine ACode.s_scope ?_ | (refine ACode.s_cond ?_; conv => whnf) | (refine ACode.s_exit ?_; conv => whnf) | (refine ACode.s_ret ?_; conv => whnf) | (refine ACode.s_skip ?_; conv => whnf) | (refine ACode.s_label ?_; conv => whnf))
    ·rename_i q1 q2
     have q1 : ¬ s[k].toNat = 48 := fun q => by simp [q] at q1
     have q2 : ¬ s[k].toNat = 49 := fun q => by simp [q] at q2
     rw [he, decide_eq_false q1, decide_eq_false q2]
     exact .inr rfl
    all_goals (
     have e3 : (decide (s[k].toNat = 48) || decide (s[k].toNat = 49)) = true := by
      rename_i q
      simp at q
      by_cases q1 : s[k].toNat = 48
      ·simp [q1]
      ·have : s[k].toNat = 49 := by omega
       simp [this]
     rw [e3, Bool.true_and] at he
     refine ⟨k + 1, ?_⟩
     conv => whnf
     repeat (refine And.intro ?_ ?_; (focus (first | rfl | (simp; done) | ((first | (rw [Wr64 _ (by omega) (by omega)]; omega) | (simp; omega)); done))); conv => whnf)
     exact ⟨⟨by omega, he⟩, by omega⟩)
   ·have hge : 7 ≤ k := by simp at hge; omega
    have : k = s.length := by omega
    subst this
    repeat (first | refine ACode.seq ?_ | (refine ACode.s_reg tys_ok ?_; conv => whnf) | refine ACode.s_block ?_ | refine ACode.s_scope ?_ | (refine ACode.s_cond ?_; conv => whnf) | (refine ACode.s_exit ?_; conv => whnf) | (refine ACode.s_ret ?_; conv => whnf) | (refine ACode.s_skip ?_; conv => whnf) | (refine ACode.s_label ?_; conv => whnf))
    rw [he, List.drop_length]
    first | exact .inl rfl | exact .inr rfl
end
end Go.Proofs.YtmhlneeboefkgaaGreatDoor
