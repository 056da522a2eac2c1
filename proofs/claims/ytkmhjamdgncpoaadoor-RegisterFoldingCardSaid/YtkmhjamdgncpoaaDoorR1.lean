/-
  The reference: small, Equal, house, IsCode.
-/
import Derived.Test.YtkmhjamdgncpoaaDoorF3
set_option linter.unusedVariables false
set_option linter.unusedSimpArgs false
namespace Go.Proofs.YtkmhjamdgncpoaaDoor
open Go.Av Go.Shelf Pl Go.RowKit
theorem small_spec (b : UInt8) : Ctr Tryd.prog 27 [.int .u8 b.toNat] (fun r => r = .int .u8 (lowC b).toNat) := by
  refine Ctr.of_body Tryd.func27 rfl tys_ok (by kernel_rfl) ?_
  conv => whnf
  repeat (first | refine ACode.seq ?_ | (refine ACode.s_reg tys_ok ?_; conv => whnf) | refine ACode.s_block ?_ | refine ACode.s_scope ?_ | (refine ACode.s_cond ?_; conv => whnf) | (refine ACode.s_exit ?_; conv => whnf) | (refine ACode.s_ret ?_; conv => whnf) | (refine ACode.s_skip ?_; conv => whnf) | (refine ACode.s_label ?_; conv => whnf))
  repeat' (first | (refine And.intro (fun _ => ?_) (fun _ => ?_) <;> conv => whnf) | refine ACode.seq ?_ | (refine ACode.s_reg tys_ok ?_; conv => whnf) | refine ACode.s_block ?_ | refine ACode.s_scope ?_ | (refine ACode.s_cond ?_; conv => whnf) | (refine ACode.s_exit ?_; conv => whnf) | (refine ACode.s_ret ?_; conv => whnf) | (refine ACode.s_skip ?_; conv => whnf) | (refine ACode.s_label ?_; conv => whnf))
  · rename_i h1 h2
    have h3 : 65 ≤ b.toNat ∧ b.toNat ≤ 90 := by simp at h1 h2; omega
    refine congrArg (AV.int IntKind.u8) ?_
    unfold lowC
    rw [if_pos (by simpa [capB] using h3), UInt8.toNat_add, WrU8 _ (by omega) (by omega)]
    have : (32 : UInt8).toNat = 32 := rfl
    omega
  · rename_i h1 h2
    unfold lowC
    rw [if_neg (by simp only [decide_eq_false_iff_not] at h2; simp [capB]; omega)]
  · rename_i h1
    unfold lowC
    rw [if_neg (by simp only [decide_eq_false_iff_not] at h1; simp [capB]; omega)]
theorem house_spec (n : Int) : Ctr Tryd.prog 56 [.int .i64 n] (fun r => r = .bool (numB n)) := by
  refine Ctr.of_body Tryd.func56 rfl tys_ok (by kernel_rfl) ?_
  conv => whnf
  refine cd_sound tys_ok _ ?_
  conv => whnf
  repeat' (refine And.intro (fun _ => ?_) (fun _ => ?_) <;> conv => whnf)
  all_goals (refine congrArg AV.bool ?_; rw [Bool.eq_iff_iff]; simp_all [numB] <;> omega)
set_option maxRecDepth 100000 in
theorem Equal_spec (n t : Bs) (hn : n.length ≤ 1000000) : Ctr Tryd.prog 18 [.str n, .str t] (fun r => r = .bool (eqF n t)) := by
  refine Ctr.of_body Tryd.func18 rfl tys_ok (by kernel_rfl) ?_
  conv => whnf
  repeat (first | refine ACode.seq ?_ | (refine ACode.s_reg tys_ok ?_; conv => whnf) | refine ACode.s_block ?_ | refine ACode.s_scope ?_ | (refine ACode.s_cond ?_; conv => whnf) | (refine ACode.s_exit ?_; conv => whnf) | (refine ACode.s_ret ?_; conv => whnf) | (refine ACode.s_skip ?_; conv => whnf) | (refine ACode.s_label ?_; conv => whnf))
  refine ⟨fun h => ?_, fun h => ?_⟩
  · have h : n.length ≠ t.length := by simp at h; omega
    conv => whnf
    repeat (first | refine ACode.seq ?_ | (refine ACode.s_reg tys_ok ?_; conv => whnf) | refine ACode.s_block ?_ | refine ACode.s_scope ?_ | (refine ACode.s_cond ?_; conv => whnf) | (refine ACode.s_exit ?_; conv => whnf) | (refine ACode.s_ret ?_; conv => whnf) | (refine ACode.s_skip ?_; conv => whnf) | (refine ACode.s_label ?_; conv => whnf))
    rw [eqF_len h]
  · have h : n.length = t.length := by simp at h; omega
    have hlg := low_get h
    conv => whnf
    repeat (first | refine ACode.seq ?_ | (refine ACode.s_reg tys_ok ?_; conv => whnf) | refine ACode.s_block ?_ | refine ACode.s_scope ?_ | (refine ACode.s_cond ?_; conv => whnf) | (refine ACode.s_exit ?_; conv => whnf) | (refine ACode.s_ret ?_; conv => whnf) | (refine ACode.s_skip ?_; conv => whnf) | (refine ACode.s_label ?_; conv => whnf))
    refine ACode.loopD (fun k : Nat => mk 26 [(0, .str n), (1, .str t), (5, .int .i64 k)]) (fun _ => []) (fun k => k ≤ n.length ∧ ∀ (i : Nat) (hi : i < n.length), i < k → lowC n[i] = lowC (t[i]'(by omega))) (fun k => n.length - k) (fun _ _ => ⟨rfl, trivial⟩) ⟨0, ?_⟩ (fun _ => rfl) fun k hk => ?_
    · conv => whnf
      repeat (refine And.intro ?_ ?_; (focus (first | rfl | (simp; done))); conv => whnf)
      exact fun i hi h => by omega
    · obtain ⟨hk, ha⟩ := hk
      repeat (first | refine ACode.seq ?_ | (refine ACode.s_reg tys_ok ?_; conv => whnf) | refine ACode.s_block ?_ | refine ACode.s_scope ?_ | (refine ACode.s_cond ?_; conv => whnf) | (refine ACode.s_exit ?_; conv => whnf) | (refine ACode.s_ret ?_; conv => whnf) | (refine ACode.s_skip ?_; conv => whnf) | (refine ACode.s_label ?_; conv => whnf))
      refine ⟨fun g => ?_, fun g => ?_⟩
      · have g : k < n.length := by simpa using g
        have hw1 : Wr .i64 ((k : Int) + 1) = ((k + 1 : Nat) : Int) := by rw [Wr64 _ (by omega) (by omega)]; rfl
        have hgn : n.getD (k : Int).toNat 0 = n[k] := by simp [List.getD, g]
        have hgt : t.getD (k : Int).toNat 0 = t[k]'(by omega) := by simp [List.getD, show k < t.length by omega]
        conv => whnf
        repeat (first | refine ACode.seq ?_ | (refine ACode.s_reg tys_ok ?_; conv => whnf) | refine ACode.s_block ?_ | refine ACode.s_scope ?_ | (refine ACode.s_cond ?_; conv => whnf) | (refine ACode.s_exit ?_; conv => whnf) | (refine ACode.s_ret ?_; conv => whnf) | (refine ACode.s_skip ?_; conv => whnf) | (refine ACode.s_label ?_; conv => whnf))
        refine ACode.draw [] tys_ok (by kernel_rfl) (by kernel_rfl) ?_
        conv => whnf
        refine ⟨⟨by omega, by omega⟩, ?_⟩
        rw [hgn]
        conv => whnf
        refine ⟨_, ⟨small_spec n[k], rfl⟩, ?_⟩
        conv => whnf
        refine ⟨⟨by omega, by omega⟩, ?_⟩
        rw [hgt]
        conv => whnf
        refine ⟨_, ⟨small_spec (t[k]'(by omega)), rfl⟩, ?_⟩
        conv => whnf
        refine ⟨fun g2 => ?_, fun g2 => ?_⟩
        · have g2 : ¬ lowC n[k] = lowC (t[k]'(by omega)) := fun e => by rw [e] at g2; simp at g2
          conv => whnf
          repeat (first | refine ACode.seq ?_ | (refine ACode.s_reg tys_ok ?_; conv => whnf) | refine ACode.s_block ?_ | refine ACode.s_scope ?_ | (refine ACode.s_cond ?_; conv => whnf) | (refine ACode.s_exit ?_; conv => whnf) | (refine ACode.s_ret ?_; conv => whnf) | (refine ACode.s_skip ?_; conv => whnf) | (refine ACode.s_label ?_; conv => whnf))
          repeat' (first | (refine And.intro (fun _ => ?_) (fun _ => ?_) <;> conv => whnf) | refine ACode.seq ?_ | (refine ACode.s_reg tys_ok ?_; conv => whnf) | refine ACode.s_block ?_ | refine ACode.s_scope ?_ | (refine ACode.s_cond ?_; conv => whnf) | (refine ACode.s_exit ?_; conv => whnf) | (refine ACode.s_ret ?_; conv => whnf) | (refine ACode.s_skip ?_; conv => whnf) | (refine ACode.s_label ?_; conv => whnf))
          refine congrArg AV.bool ?_
          cases hq : eqF n t with
          | false => rfl
          | true => exact absurd (hlg.1 hq k g) g2
        · have g2 : lowC n[k] = lowC (t[k]'(by omega)) := by
            have g3 : ((lowC n[k]).toNat : Int) = (lowC (t[k]'(by omega))).toNat := by simpa using g2
            exact UInt8.toNat_inj.1 (by omega)
          conv => whnf
          repeat (first | refine ACode.seq ?_ | (refine ACode.s_reg tys_ok ?_; conv => whnf) | refine ACode.s_block ?_ | refine ACode.s_scope ?_ | (refine ACode.s_cond ?_; conv => whnf) | (refine ACode.s_exit ?_; conv => whnf) | (refine ACode.s_ret ?_; conv => whnf) | (refine ACode.s_skip ?_; conv => whnf) | (refine ACode.s_label ?_; conv => whnf))
          repeat' (first | (refine And.intro (fun _ => ?_) (fun _ => ?_) <;> conv => whnf) | refine ACode.seq ?_ | (refine ACode.s_reg tys_ok ?_; conv => whnf) | refine ACode.s_block ?_ | refine ACode.s_scope ?_ | (refine ACode.s_cond ?_; conv => whnf) | (refine ACode.s_exit ?_; conv => whnf) | (refine ACode.s_ret ?_; conv => whnf) | (refine ACode.s_skip ?_; conv => whnf) | (refine ACode.s_label ?_; conv => whnf))
          refine ⟨k + 1, ?_⟩
          conv => whnf
          repeat (refine And.intro ?_ ?_; (focus (first | rfl | (simp; done) | (first | exact hw1; done))); conv => whnf)
          refine ⟨⟨g, fun i hi h2 => ?_⟩, by omega⟩
          rcases Nat.lt_or_ge i k with h3 | h3
          · exact ha i hi h3
          · obtain rfl : i = k := by omega
            exact g2
      · have g : k = n.length := by simp at g; omega
        conv => whnf
        repeat (first | refine ACode.seq ?_ | (refine ACode.s_reg tys_ok ?_; conv => whnf) | refine ACode.s_block ?_ | refine ACode.s_scope ?_ | (refine ACode.s_cond ?_; conv => whnf) | (refine ACode.s_exit ?_; conv => whnf) | (refine ACode.s_ret ?_; conv => whnf) | (refine ACode.s_skip ?_; conv => whnf) | (refine ACode.s_label ?_; conv => whnf))
        rw [hlg.2 fun i hi => ha i hi (by omega)]
end Go.Proofs.YtkmhjamdgncpoaaDoor
