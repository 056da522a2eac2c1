import Derived.Test.YtmhlneeboefkgaaGreatDoorN1
set_option linter.unusedVariables false
set_option linter.unusedSimpArgs false
namespace Go.Proofs.YtmhlneeboefkgaaGreatDoor
open Go.Av Go.Av.Net
theorem all_step {α : Type} (p : α → Bool) (xs : List α) (k : Nat) (hk : k < xs.length) : (xs.drop k).all p = (p xs[k] && (xs.drop (k + 1)).all p) := by
 rw [List.drop_eq_getElem_cons hk]; rfl
def byts (s : Bs) : List AV := s.map fun b => .int .u8 b.toNat
@[simp] theorem byts_length (s : Bs) : (byts s).length = s.length := by simp [byts]
theorem byts_get (s : Bs) (k : Nat) (h : k < s.length) : (byts s)[k]? = some (.int .u8 s[k].toNat) := by simp [byts, h]
theorem isSmall_spec (b : UInt8) : Ctr Tryz.prog 81 [.int .u8 b.toNat] (fun r => r = .bool (smallB b)) := by
 refine Ctr.of_body Tryz.func81 rfl tys_ok (by kernel_rfl) ?_
 conv => whnf
 refine cd_sound tys_ok _ ?_
 conv => whnf
 repeat' (refine And.intro (fun _ => ?_) (fun _ => ?_) <;> conv => whnf)
 all_goals (refine congrArg AV.bool ?_; rw [Bool.eq_iff_iff]; simp_all [smallB] <;> omega)
theorem isDigit_spec (b : UInt8) : Ctr Tryz.prog 82 [.int .u8 b.toNat] (fun r => r = .bool (digB b)) := by
 refine Ctr.of_body Tryz.func82 rfl tys_ok (by kernel_rfl) ?_
 conv => whnf
 refine cd_sound tys_ok _ ?_
 conv => whnf
 repeat' (refine And.intro (fun _ => ?_) (fun _ => ?_) <;> conv => whnf)
 all_goals (refine congrArg AV.bool ?_; rw [Bool.eq_iff_iff]; simp_all [digB] <;> omega)
theorem lDigit_spec (b : UInt8) : Ctr Tryz.prog 78 [.int .u8 b.toNat] (fun r => r = .bool (digB b)) := by
 refine Ctr.of_body Tryz.func78 rfl tys_ok (by kernel_rfl) ?_
 conv => whnf
 refine cd_sound tys_ok _ ?_
 conv => whnf
 repeat' (refine And.intro (fun _ => ?_) (fun _ => ?_) <;> conv => whnf)
 all_goals (refine congrArg AV.bool ?_; rw [Bool.eq_iff_iff]; simp_all [digB] <;> omega)
set_option maxRecDepth 10000 in
theorem isWordByte_spec (b : UInt8) : Ctr Tryz.prog 77 [.int .u8 b.toNat] (fun r => r = .bool (wordB b)) := by
 refine Ctr.of_body Tryz.func77 rfl tys_ok (by kernel_rfl) ?_
 conv => whnf
 refine cd_sound tys_ok _ ?_
 conv => whnf
 repeat' (refine And.intro (fun _ => ?_) (fun _ => ?_) <;> conv => whnf)
 all_goals (first | (refine congrArg AV.bool ?_; rw [Bool.eq_iff_iff]; simp_all [wordB] <;> omega) | (refine ACall.of_spec (lDigit_spec b) rfl fun r hr => ?_; subst hr; (conv => whnf); refine congrArg AV.bool ?_; cases hd : digB b <;> (rw [Bool.eq_iff_iff]; simp_all [wordB] <;> omega)))
def codeB (b : UInt8) : Bool := digB b || (decide (65 ≤ b.toNat) && decide (b.toNat ≤ 90))
theorem codeB_eq (s : Bs) : isCodeB s = (decide (1 ≤ s.length) && decide (s.length ≤ 8) && s.all codeB) := rfl
/-- A byte is one of a kind all along. -/
theorem getD_byte (s : Bs) (k : Nat) (h : k < s.length) : s.getD (k : Int).toNat 0 = s[k] := by simp [List.getD, h]
set_option maxRecDepth 10000 in
theorem isCode_spec (s : Bs) (hs : s.length ≤ 8000) : Ctr Tryz.prog 69 [.str s] (fun r => r = .bool (isCodeB s)) := by
 refine Ctr.of_body Tryz.func69 rfl tys_ok (by kernel_rfl) ?_
 conv => whnf
 refine cd_sound tys_ok _ ?_
 conv => whnf
 refine ⟨fun h1 => ?_, fun h1 => ?_⟩
 ·have h1 : 1 ≤ s.length := by simp at h1; omega
  conv => whnf
  refine ⟨fun h2 => ?_, fun h2 => ?_⟩
  ·conv => whnf
   have h2 : ¬ s.length ≤ 8 := by simp at h2; omega
   simp [isCodeB, h2]
  ·have h2 : s.length ≤ 8 := by simp at h2; omega
   conv => whnf
   refine ACode.loopT (fun k : Nat => mk 32 [(0, .str s), (14, .sl 1 (byts s)), (15, .int .i64 (byts s).length), (16, .int .i64 k)]) (fun _ => []) (fun k => k ≤ s.length ∧ (s.all codeB) = (s.drop k).all codeB) (fun k => s.length - k) ⟨0, ?_⟩ fun k hk => ?_
   ·conv => whnf
    repeat (refine And.intro ?_ ?_; (focus (first | rfl | (simp; done))); conv => whnf)
    rfl
   ·obtain ⟨hk, he⟩ := hk
    refine cd_sound tys_ok _ ?_
    conv => whnf
    refine ⟨fun hlt => ?_, fun hge => ?_⟩
    ·have hlt : k < s.length := by simpa using hlt
     rw [all_step _ s k hlt] at he
     conv => whnf
     refine ⟨by omega, .int .u8 s[k].toNat, byts_get _ _ hlt, ?_⟩
     conv => whnf
     refine ACall.of_spec (isDigit_spec s[k]) rfl fun r hr => ?_
     subst hr
     conv => whnf
     repeat' (refine And.intro (fun _ => ?_) (fun _ => ?_) <;> conv => whnf)
     all_goals first
      | (refine ⟨k + 1, ?_⟩
         conv => whnf
         repeat (refine And.intro ?_ ?_; (focus (first | rfl | (simp; done) | (rw [Wr64 _ (by omega) (by omega)]; omega; done))); conv => whnf)
         have hn : codeB s[k] = true := by simp_all [codeB] <;> omega
         rw [hn] at he
         exact ⟨⟨by omega, he⟩, by omega⟩)
      | (have hn : codeB s[k] = false := by simp_all [codeB] <;> omega
         rw [hn] at he
         simp [codeB_eq, he]; done)
    ·have hge : s.length ≤ k := by simp at hge; omega
     conv => whnf
     have : k = s.length := by omega
     subst this
     simp at he
     rw [codeB_eq]
     simp [h1, h2]
     exact he
 ·conv => whnf
  have h1 : ¬ 1 ≤ s.length := by simp at h1; omega
  simp [isCodeB, h1]
end Go.Proofs.YtmhlneeboefkgaaGreatDoor
