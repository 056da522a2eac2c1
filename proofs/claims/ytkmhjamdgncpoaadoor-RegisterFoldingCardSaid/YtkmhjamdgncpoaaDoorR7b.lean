/-
  The reference: Same.
-/
import Derived.Test.YtkmhjamdgncpoaaDoorR7
set_option linter.unusedVariables false
set_option linter.unusedSimpArgs false
namespace Go.Proofs.YtkmhjamdgncpoaaDoor
open Go.Av Go.Shelf Pl Go.RowKit
set_option maxRecDepth 100000 in
theorem Same_spec (a b : List St) (hl : a.length ≤ 1000) (hal : ∀ s ∈ a, s.al.length ≤ 1000) : Ctr Tryd.prog 14 [sts a, sts b] (fun x => x = .bool (decide (a = b))) := by
  refine Ctr.of_body Tryd.func14 rfl tys_ok (by kernel_rfl) ?_
  conv => whnf
  repeat (first | refine ACode.seq ?_ | (refine ACode.s_reg tys_ok ?_; conv => whnf) | refine ACode.s_block ?_ | refine ACode.s_scope ?_ | (refine ACode.s_cond ?_; conv => whnf) | (refine ACode.s_exit ?_; conv => whnf) | (refine ACode.s_ret ?_; conv => whnf) | (refine ACode.s_skip ?_; conv => whnf) | (refine ACode.s_label ?_; conv => whnf))
  refine ⟨fun h => ?_, fun h => ?_⟩
  · have h : a.length ≠ b.length := by simp at h; omega
    conv => whnf
    repeat (first | refine ACode.seq ?_ | (refine ACode.s_reg tys_ok ?_; conv => whnf) | refine ACode.s_block ?_ | refine ACode.s_scope ?_ | (refine ACode.s_cond ?_; conv => whnf) | (refine ACode.s_exit ?_; conv => whnf) | (refine ACode.s_ret ?_; conv => whnf) | (refine ACode.s_skip ?_; conv => whnf) | (refine ACode.s_label ?_; conv => whnf))
    rw [decide_eq_false fun e => h (by rw [e])]
  · have h : a.length = b.length := by simp at h; omega
    have hsa : (a.map St.v).length = a.length := by simp
    conv => whnf
    repeat (first | refine ACode.seq ?_ | (refine ACode.s_reg tys_ok ?_; conv => whnf) | refine ACode.s_block ?_ | refine ACode.s_scope ?_ | (refine ACode.s_cond ?_; conv => whnf) | (refine ACode.s_exit ?_; conv => whnf) | (refine ACode.s_ret ?_; conv => whnf) | (refine ACode.s_skip ?_; conv => whnf) | (refine ACode.s_label ?_; conv => whnf))
    refine ACode.loopD (fun k : Nat => mk 27 [(0, sts a), (1, sts b), (5, .int .i64 k)]) (fun _ => []) (fun k => k ≤ a.length ∧ ∀ (i : Nat) (hi : i < a.length), i < k → a[i] = b[i]'(by omega)) (fun k => a.length - k) (fun _ _ => ⟨rfl, trivial⟩) ⟨0, ?_⟩ (fun _ => rfl) fun k hk => ?_
    · conv => whnf
      repeat (refine And.intro ?_ ?_; (focus (first | rfl | (simp; done))); conv => whnf)
      exact fun i hi h => absurd h (Nat.not_lt_zero _)
    · obtain ⟨hk, ha⟩ := hk
      have hw1 : Wr .i64 ((k : Int) + 1) = ((k + 1 : Nat) : Int) := by rw [Wr64 _ (by omega) (by omega)]; rfl
      repeat (first | refine ACode.seq ?_ | (refine ACode.s_reg tys_ok ?_; conv => whnf) | refine ACode.s_block ?_ | refine ACode.s_scope ?_ | (refine ACode.s_cond ?_; conv => whnf) | (refine ACode.s_exit ?_; conv => whnf) | (refine ACode.s_ret ?_; conv => whnf) | (refine ACode.s_skip ?_; conv => whnf) | (refine ACode.s_label ?_; conv => whnf))
      refine ⟨fun g => ?_, fun g => ?_⟩
      · have g : k < a.length := by simpa using g
        have gb : k < b.length := by omega
        conv => whnf
        repeat (first | refine ACode.seq ?_ | (refine ACode.s_reg tys_ok ?_; conv => whnf) | refine ACode.s_block ?_ | refine ACode.s_scope ?_ | (refine ACode.s_cond ?_; conv => whnf) | (refine ACode.s_exit ?_; conv => whnf) | (refine ACode.s_ret ?_; conv => whnf) | (refine ACode.s_skip ?_; conv => whnf) | (refine ACode.s_label ?_; conv => whnf))
        refine ACode.draw [] tys_ok (by kernel_rfl) (by kernel_rfl) ?_
        conv => whnf
        refine ⟨by omega, a[k].v, by simp [g], ?_⟩
        conv => whnf
        refine ⟨by omega, b[k].v, by simp [gb], ?_⟩
        conv => whnf
        refine ⟨_, ⟨SameStreet_spec a[k] b[k] (hal _ (List.getElem_mem g)), rfl⟩, ?_⟩
        conv => whnf
        repeat' (first | (refine And.intro (fun _ => ?_) (fun _ => ?_) <;> conv => whnf) | refine ACode.seq ?_ | (refine ACode.s_reg tys_ok ?_; conv => whnf) | refine ACode.s_block ?_ | refine ACode.s_scope ?_ | (refine ACode.s_cond ?_; conv => whnf) | (refine ACode.s_exit ?_; conv => whnf) | (refine ACode.s_ret ?_; conv => whnf) | (refine ACode.s_skip ?_; conv => whnf) | (refine ACode.s_label ?_; conv => whnf))
        rotate_left
        · rename_i e
          have e : ¬ a[k] = b[k] := by simpa using e
          rw [decide_eq_false fun q => e (by simp [q])]
        · rename_i e
          have e : a[k] = b[k] := by simpa using e
          refine ⟨k + 1, ?_⟩
          conv => whnf
          repeat (refine And.intro ?_ ?_; (focus (first | rfl | (simp; done) | (first | exact hw1; done))); conv => whnf)
          refine ⟨⟨by omega, fun i hi h2 => ?_⟩, by omega⟩
          rcases Nat.lt_or_ge i k with h3 | h3
          · exact ha i hi h3
          · obtain rfl : i = k := by omega
            exact e
      · have g : k = a.length := by simp at g; omega
        conv => whnf
        repeat (first | refine ACode.seq ?_ | (refine ACode.s_reg tys_ok ?_; conv => whnf) | refine ACode.s_block ?_ | refine ACode.s_scope ?_ | (refine ACode.s_cond ?_; conv => whnf) | (refine ACode.s_exit ?_; conv => whnf) | (refine ACode.s_ret ?_; conv => whnf) | (refine ACode.s_skip ?_; conv => whnf) | (refine ACode.s_label ?_; conv => whnf))
        rw [decide_eq_true (List.ext_getElem h fun i h1 h2 => ha i h1 (by omega))]
end Go.Proofs.YtkmhjamdgncpoaaDoor
