/-
  The reference: Strings.
-/
import Derived.Test.YtkmhjamdgncpoaaDoorR6
set_option linter.unusedVariables false
set_option linter.unusedSimpArgs false
namespace Go.Proofs.YtkmhjamdgncpoaaDoor
open Go.Av Go.Shelf Pl Go.RowKit
set_option maxRecDepth 100000 in
theorem Strings_spec (a b : List Bs) (hl : a.length ≤ 1000) : Ctr Tryd.prog 36 [.sl 1 (strs a), .sl 1 (strs b)] (fun x => x = .bool (decide (a = b))) := by
  refine Ctr.of_body Tryd.func36 rfl tys_ok (by kernel_rfl) ?_
  conv => whnf
  repeat (first | refine ACode.seq ?_ | (refine ACode.s_reg tys_ok ?_; conv => whnf) | refine ACode.s_block ?_ | refine ACode.s_scope ?_ | (refine ACode.s_cond ?_; conv => whnf) | (refine ACode.s_exit ?_; conv => whnf) | (refine ACode.s_ret ?_; conv => whnf) | (refine ACode.s_skip ?_; conv => whnf) | (refine ACode.s_label ?_; conv => whnf))
  refine ⟨fun h => ?_, fun h => ?_⟩
  · have h : a.length ≠ b.length := by simp at h; omega
    conv => whnf
    repeat (first | refine ACode.seq ?_ | (refine ACode.s_reg tys_ok ?_; conv => whnf) | refine ACode.s_block ?_ | refine ACode.s_scope ?_ | (refine ACode.s_cond ?_; conv => whnf) | (refine ACode.s_exit ?_; conv => whnf) | (refine ACode.s_ret ?_; conv => whnf) | (refine ACode.s_skip ?_; conv => whnf) | (refine ACode.s_label ?_; conv => whnf))
    rw [decide_eq_false fun e => h (by rw [e])]
  · have h : a.length = b.length := by simp at h; omega
    have hsa := strs_len a
    conv => whnf
    repeat (first | refine ACode.seq ?_ | (refine ACode.s_reg tys_ok ?_; conv => whnf) | refine ACode.s_block ?_ | refine ACode.s_scope ?_ | (refine ACode.s_cond ?_; conv => whnf) | (refine ACode.s_exit ?_; conv => whnf) | (refine ACode.s_ret ?_; conv => whnf) | (refine ACode.s_skip ?_; conv => whnf) | (refine ACode.s_label ?_; conv => whnf))
    refine ACode.loopD (fun k : Nat => mk 26 [(0, .sl 1 (strs a)), (1, .sl 1 (strs b)), (5, .int .i64 k)]) (fun _ => []) (fun k => k ≤ a.length ∧ ∀ (i : Nat) (hi : i < a.length), i < k → a[i] = b[i]'(by omega)) (fun k => a.length - k) (fun _ _ => ⟨rfl, trivial⟩) ⟨0, ?_⟩ (fun _ => rfl) fun k hk => ?_
    · conv => whnf
      repeat (refine And.intro ?_ ?_; (focus (first | rfl | (simp; done))); conv => whnf)
      exact fun i hi h => absurd h (Nat.not_lt_zero _)
    · obtain ⟨hk, ha⟩ := hk
      have hw1 : Wr .i64 ((k : Int) + 1) = ((k + 1 : Nat) : Int) := by rw [Wr64 _ (by omega) (by omega)]; rfl
      repeat (first | refine ACode.seq ?_ | (refine ACode.s_reg tys_ok ?_; conv => whnf) | refine ACode.s_block ?_ | refine ACode.s_scope ?_ | (refine ACode.s_cond ?_; conv => whnf) | (refine ACode.s_exit ?_; conv => whnf) | (refine ACode.s_ret ?_; conv => whnf) | (refine ACode.s_skip ?_; conv => whnf) | (refine ACode.s_label ?_; conv => whnf))
      refine ⟨fun g => ?_, fun g => ?_⟩
      · have g : k < a.length := by simpa using g
        have gb : k < b.length := by omega
        conv => whnf
        repeat (first | refine ACode.seq ?_ | (refine ACode.s_reg tys_ok ?_; conv => whnf) | refine ACode.s_block ?_ | refine ACode.s_scope ?_ | (refine ACode.s_cond ?_; conv => whnf) | (refine ACode.s_exit ?_; conv => whnf) | (refine ACode.s_ret ?_; conv => whnf) | (refine ACode.s_skip ?_; conv => whnf) | (refine ACode.s_label ?_; conv => whnf))
        refine ACode.draw [] tys_ok (by kernel_rfl) (by kernel_rfl) ?_
        conv => whnf
        refine ⟨by omega, _, strs_get a k g, ?_⟩
        conv => whnf
        refine ⟨by omega, _, strs_get b k gb, ?_⟩
        conv => whnf
        repeat' (first | (refine And.intro (fun _ => ?_) (fun _ => ?_) <;> conv => whnf) | refine ACode.seq ?_ | (refine ACode.s_reg tys_ok ?_; conv => whnf) | refine ACode.s_block ?_ | refine ACode.s_scope ?_ | (refine ACode.s_cond ?_; conv => whnf) | (refine ACode.s_exit ?_; conv => whnf) | (refine ACode.s_ret ?_; conv => whnf) | (refine ACode.s_skip ?_; conv => whnf) | (refine ACode.s_label ?_; conv => whnf))
        · rename_i e
          have e : ¬ a[k] = b[k] := by simpa using e
          rw [decide_eq_false fun q => e (by subst q; rfl)]
        · rename_i e
          have e : a[k] = b[k] := by simpa using e
          refine ⟨k + 1, ?_⟩
          conv => whnf
          repeat (refine And.intro ?_ ?_; (focus (first | rfl | (simp; done) | (first | exact hw1; done))); conv => whnf)
          refine ⟨⟨by omega, fun i hi h2 => ?_⟩, by omega⟩
          rcases Nat.lt_or_ge i k with h3 | h3
          · exact ha i hi h3
          · obtain rfl : i = k := by omega
            exact e
      · have g : k = a.length := by simp at g; omega
        conv => whnf
        repeat (first | refine ACode.seq ?_ | (refine ACode.s_reg tys_ok ?_; conv => whnf) | refine ACode.s_block ?_ | refine ACode.s_scope ?_ | (refine ACode.s_cond ?_; conv => whnf) | (refine ACode.s_exit ?_; conv => whnf) | (refine ACode.s_ret ?_; conv => whnf) | (refine ACode.s_skip ?_; conv => whnf) | (refine ACode.s_label ?_; conv => whnf))
        rw [decide_eq_true (List.ext_getElem h fun i h1 h2 => ha i h1 (by omega))]
set_option maxRecDepth 100000 in
theorem SameStreet_spec (a b : St) (hl : a.al.length ≤ 1000) : Ctr Tryd.prog 25 [a.v, b.v] (fun x => x = .bool (decide (a = b))) := by
  refine Ctr.of_body Tryd.func25 rfl tys_ok (by kernel_rfl) ?_
  conv => whnf
  repeat (first | refine ACode.seq ?_ | (refine ACode.s_reg tys_ok ?_; conv => whnf) | refine ACode.s_block ?_ | refine ACode.s_scope ?_ | (refine ACode.s_cond ?_; conv => whnf) | (refine ACode.s_exit ?_; conv => whnf) | (refine ACode.s_ret ?_; conv => whnf) | (refine ACode.s_skip ?_; conv => whnf) | (refine ACode.s_label ?_; conv => whnf))
  repeat' (first | (refine And.intro (fun _ => ?_) (fun _ => ?_) <;> conv => whnf) | (refine ACall.of_spec (Strings_spec a.al b.al hl) rfl fun r hr => ?_; subst hr; conv => whnf) | refine ACode.seq ?_ | (refine ACode.s_reg tys_ok ?_; conv => whnf) | refine ACode.s_block ?_ | refine ACode.s_scope ?_ | (refine ACode.s_cond ?_; conv => whnf) | (refine ACode.s_exit ?_; conv => whnf) | (refine ACode.s_ret ?_; conv => whnf) | (refine ACode.s_skip ?_; conv => whnf) | (refine ACode.s_label ?_; conv => whnf))
  all_goals (refine congrArg AV.bool ?_; obtain ⟨a1, a2, a3, a4, a5, a6, a7, a8⟩ := a; obtain ⟨b1, b2, b3, b4, b5, b6, b7, b8⟩ := b; simp_all <;> (cases a8 <;> cases b8 <;> rfl))
end Go.Proofs.YtkmhjamdgncpoaaDoor
