import Derived.Test.YtmhlneeboefkgaaGreatDoorN2
set_option linter.unusedVariables false
set_option linter.unusedSimpArgs false
namespace Go.Proofs.YtmhlneeboefkgaaGreatDoor
open Go.Av Go.Av.Net
theorem any_step {α : Type} (p : α → Bool) (xs : List α) (k : Nat) (hk : k < xs.length) : (xs.drop k).any p = (p xs[k] || (xs.drop (k + 1)).any p) := by
 rw [List.drop_eq_getElem_cons hk]; rfl
def nmB (b : UInt8) : Bool := smallB b || digB b || decide (b.toNat = 95)
def strs (l : List Bs) : List AV := l.map AV.str
@[simp] theorem strs_length (l : List Bs) : (strs l).length = l.length := by simp [strs]
theorem strs_get (l : List Bs) (k : Nat) (h : k < l.length) : (strs l)[k]? = some (.str l[k]) := by simp [strs, h]
theorem isNameB_eq (s : Bs) : isNameB s = (decide (1 ≤ s.length) && decide (s.length ≤ 16) && smallB (s.headD 0) && s.all nmB && !keyWords.any (fun x => decide (s = x))) := rfl
set_option maxRecDepth 20000 in
theorem isName_spec (s : Bs) (hs : s.length ≤ 8000) : Ctr Tryz.prog 68 [.str s] (fun r => r = .bool (isNameB s)) := by
 refine Ctr.of_body Tryz.func68 rfl tys_ok (by kernel_rfl) ?_
 conv => whnf
 refine cd_sound tys_ok _ ?_
 conv => whnf
 refine ⟨fun h1 => ?_, fun h1 => ?_⟩
 ·have h1 : 1 ≤ s.length := by simp at h1; omega
  conv => whnf
  refine ⟨fun h2 => ?_, fun h2 => ?_⟩
  ·have h2 : s.length ≤ 16 := by simp at h2; omega
   conv => whnf
   refine ⟨⟨by omega, by omega⟩, ?_⟩
   conv => whnf
   have hg : s.getD (0 : Int).toNat 0 = s.headD 0 := by cases s <;> rfl
   rw [hg]
   refine ACall.of_spec (isSmall_spec (s.headD 0)) rfl fun r hr => ?_
   subst hr
   conv => whnf
   refine ⟨fun h3 => ?_, fun h3 => ?_⟩
   ·conv => whnf
    have h3 : smallB (s.headD 0) = false := by simpa using h3
    simp only [isNameB_eq, h3, Bool.and_false, Bool.false_and]
   ·have h3 : smallB (s.headD 0) = true := by simpa using h3
    conv => whnf
    refine ACode.loopT (fun k : Nat => mk 49 [(0, .str s), (22, .sl 1 (byts s)), (23, .int .i64 (byts s).length), (24, .int .i64 k)]) (fun _ => []) (fun k => k ≤ s.length ∧ (s.all nmB) = (s.drop k).all nmB) (fun k => s.length - k) ⟨0, ?_⟩ fun k hk => ?_
    ·conv => whnf
     repeat (refine And.intro ?_ ?_; (focus (first | rfl | (simp; done))); conv => whnf)
     rfl
    ·obtain ⟨hk, he⟩ := hk
     refine cd_sound tys_ok _ ?_
     conv => whnf
     refine ⟨fun hlt => ?_, fun hge => ?_⟩
     ·have hlt : k < s.length := by simpa using hlt
      rw [all_step _ s k hlt] at he
      conv => whnf
      refine ⟨by omega, .int .u8 s[k].toNat, byts_get _ _ hlt, ?_⟩
      conv => whnf
      refine ACall.of_spec (isSmall_spec s[k]) rfl fun r hr => ?_
      subst hr
      conv => whnf
      repeat' (first | (refine And.intro (fun _ => ?_) (fun _ => ?_) <;> conv => whnf) | (refine ACall.of_spec (isDigit_spec s[k]) rfl fun r hr => ?_; subst hr; (conv => whnf)))
      all_goals first
       | (refine ⟨k + 1, ?_⟩
          conv => whnf
          repeat (refine And.intro ?_ ?_; (focus (first | rfl | (simp; done) | (rw [Wr64 _ (by omega) (by omega)]; omega; done))); conv => whnf)
          have hn : nmB s[k] = true := by simp_all [nmB] <;> omega
          rw [hn] at he
          exact ⟨⟨by omega, he⟩, by omega⟩)
       | (have hn : nmB s[k] = false := by simp_all [nmB] <;> omega
          rw [hn] at he
          simp [isNameB_eq, he]; done)
     ·have hge : s.length ≤ k := by simp at hge; omega
      have : k = s.length := by omega
      subst this
      have h4 : s.all nmB = true := by rw [he]; simp
      conv => whnf
      refine ACode.loopT (fun k : Nat => mk 49 [(0, .str s), (41, .agg (strs keyWords)), (42, .int .i64 k)]) (fun _ => []) (fun k => k ≤ 17 ∧ keyWords.any (fun x => decide (s = x)) = (keyWords.drop k).any (fun x => decide (s = x))) (fun k => 17 - k) ⟨0, ?_⟩ fun k hk => ?_
      ·conv => whnf
       repeat (refine And.intro ?_ ?_; (focus (first | rfl | (simp; done))); conv => whnf)
       rfl
      ·obtain ⟨hk, he⟩ := hk
       refine cd_sound tys_ok _ ?_
       conv => whnf
       refine ⟨fun hlt => ?_, fun hge => ?_⟩
       ·have hlt : k < 17 := by simp at hlt; omega
        have hlt' : k < keyWords.length := hlt
        rw [any_step _ keyWords k hlt'] at he
        conv => whnf
        refine ⟨⟨by omega, by omega⟩, .str keyWords[k], strs_get _ _ hlt', ?_⟩
        conv => whnf
        refine ⟨fun ht => ?_, fun hf => ?_⟩
        ·conv => whnf
         have ht : s = keyWords[k] := by simpa using ht
         rw [decide_eq_true ht, Bool.true_or] at he
         simp only [isNameB_eq, he]
         simp
        ·conv => whnf
         have hf : ¬ s = keyWords[k] := by simpa using hf
         rw [decide_eq_false hf, Bool.false_or] at he
         refine ⟨k + 1, ?_⟩
         conv => whnf
         repeat (refine And.intro ?_ ?_; (focus (first | rfl | (simp; done) | (rw [Wr64 _ (by omega) (by omega)]; omega; done))); conv => whnf)
         exact ⟨⟨by omega, he⟩, by omega⟩
       ·have hge : 17 ≤ k := by simp at hge; omega
        have : k = 17 := by omega
        subst this
        conv => whnf
        have h5 : keyWords.any (fun x => decide (s = x)) = false := by rw [he]; rfl
        simp only [isNameB_eq, h3, h4, h5]
        simp [h1, h2]
  ·conv => whnf
   have h2 : ¬ s.length ≤ 16 := by simp at h2; omega
   simp [isNameB_eq, h2]
 ·conv => whnf
  have h1 : ¬ 1 ≤ s.length := by simp at h1; omega
  simp [isNameB_eq, h1]
end Go.Proofs.YtmhlneeboefkgaaGreatDoor
