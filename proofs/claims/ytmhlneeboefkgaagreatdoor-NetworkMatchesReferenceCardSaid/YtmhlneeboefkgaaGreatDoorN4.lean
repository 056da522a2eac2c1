import Derived.Test.YtmhlneeboefkgaaGreatDoorN3
import Derived.Test.YtmhlneeboefkgaaGreatDoorSh
set_option linter.unusedVariables false
set_option linter.unusedSimpArgs false
namespace Go.Proofs.YtmhlneeboefkgaaGreatDoor
open Go.Av Go.Av.Net
open Go.RowKit (Below)
theorem indexByte_spec (s : Bs) (c : UInt8) : Ctr Tryz.prog 66 [.str s, .int .u8 c.toNat] (fun r => r = .int .i64 (Lib.indexByte s c)) := by
 refine ⟨by kernel_rfl, fun C w vs hlt hr => ?_⟩
 unfold Reps at hr
 obtain ⟨v, vs', rfl, h1, hr⟩ := hr
 unfold Reps at hr
 obtain ⟨v2, vs2, rfl, h2, hr⟩ := hr
 unfold Reps at hr
 subst hr
 unfold Rep at h1 h2
 obtain ⟨rfl, hl⟩ := h1
 obtain ⟨rfl, _⟩ := h2
 refine (Tryz.strings_IndexByte ⟨s.toArray⟩ (c.toNat : Int) w).mono fun e w' ⟨h3, h4⟩ => ?_
 subst h4
 refine ⟨_, _, h3, rfl, Below.refl _ _, ?_⟩
 have e1 : ((c.toNat : Int).toNat.toUInt8) = c := by simp
 rw [e1]
 have hb : ∀ l : Bs, -1 ≤ Lib.indexByte l c ∧ Lib.indexByte l c ≤ l.length := fun l => by
  induction l with
  | nil => simp [Lib.indexByte]
  | cons x l ih =>
   unfold Lib.indexByte
   simp only [List.length_cons]
   split
   ·omega
   ·split <;> omega
 have := hb s
 unfold Rep
 refine ⟨by simp, ?_⟩
 unfold inK IntKind.min IntKind.max
 simp [IntKind.signed, IntKind.bits]
 omega
theorem hasPrefix0_spec (s p : Bs) (hs : s.length ≤ 8000) (hp : p.length ≤ 8000) : Ctr Tryz.prog 79 [.str s, .str p] (fun r => r = .bool (p.isPrefixOf s)) := by
 refine Ctr.of_body Tryz.func79 rfl tys_ok (by kernel_rfl) ?_
 conv => whnf
 refine cd_sound tys_ok _ ?_
 conv => whnf
 refine ⟨fun h1 => ?_, fun h1 => ?_⟩
 ·have h1 : p.length ≤ s.length := by simp at h1; omega
  conv => whnf
  refine ⟨⟨by omega, by omega⟩, ?_⟩
  conv => whnf
  refine congrArg AV.bool ?_
  have e : List.drop (Int.toNat 0) (List.take ((p.length : Int)).toNat s) = s.take p.length := by simp
  rw [e, Bool.eq_iff_iff, beq_iff_eq, List.isPrefixOf_iff_prefix, List.prefix_iff_eq_take, eq_comm]
 ·have h1 : ¬ p.length ≤ s.length := by simp at h1; omega
  conv => whnf
  refine congrArg AV.bool ?_
  rw [eq_comm, ← Bool.not_eq_true, List.isPrefixOf_iff_prefix]
  exact fun h => h1 h.length_le
theorem hasPrefix_spec (s p : Bs) (hs : s.length ≤ 8000) (hp : p.length ≤ 8000) : Ctr Tryz.prog 65 [.str s, .str p] (fun r => r = .bool (p.isPrefixOf s)) := by
 refine Ctr.of_body Tryz.func65 rfl tys_ok (by kernel_rfl) ?_
 conv => whnf
 refine cd_sound tys_ok _ ?_
 conv => whnf
 refine ACall.of_spec (hasPrefix0_spec s p hs hp) rfl fun r hr => ?_
 subst hr
 conv => whnf
theorem syms_len : ∀ x ∈ syms, 1 ≤ x.length ∧ x.length ≤ 2 := by decide
set_option maxRecDepth 20000 in
theorem symbolLength_spec (s : Bs) (hs : s.length ≤ 8000) : Ctr Tryz.prog 33 [.str s] (fun r => r = .int .i64 (symLen s)) := by
 refine Ctr.of_body Tryz.func33 rfl tys_ok (by kernel_rfl) ?_
 conv => whnf
 refine cd_sound tys_ok _ ?_
 conv => whnf
 refine ACode.loopT (fun k : Nat => mk 15 [(0, .str s), (5, .agg (strs syms)), (6, .int .i64 k)]) (fun _ => []) (fun k => k ≤ 13 ∧ syms.find? (fun x => x.isPrefixOf s) = (syms.drop k).find? (fun x => x.isPrefixOf s)) (fun k => 13 - k) ⟨0, ?_⟩ fun k hk => ?_
 ·conv => whnf
  repeat (refine And.intro ?_ ?_; (focus (first | rfl | (simp; done))); conv => whnf)
  rfl
 ·obtain ⟨hk, he⟩ := hk
  refine cd_sound tys_ok _ ?_
  conv => whnf
  refine ⟨fun hlt => ?_, fun hge => ?_⟩
  ·have hlt : k < 13 := by simp at hlt; omega
   have hlt' : k < syms.length := hlt
   rw [List.drop_eq_getElem_cons hlt', List.find?_cons] at he
   have hl := syms_len _ (List.getElem_mem hlt')
   conv => whnf
   refine ⟨⟨by omega, by omega⟩, .str syms[k], strs_get _ _ hlt', ?_⟩
   conv => whnf
   refine ACall.of_spec (hasPrefix_spec s syms[k] hs (by omega)) rfl fun r hr => ?_
   subst hr
   conv => whnf
   refine ⟨fun ht => ?_, fun hf => ?_⟩
   ·conv => whnf
    rw [ht] at he
    simp only at he
    simp only [symLen, he]
   ·conv => whnf
    rw [hf] at he
    simp only at he
    refine ⟨k + 1, ?_⟩
    conv => whnf
    repeat (refine And.intro ?_ ?_; (focus (first | rfl | (simp; done) | (rw [Wr64 _ (by omega) (by omega)]; omega; done))); conv => whnf)
    exact ⟨⟨by omega, he⟩, by omega⟩
  ·have hge : 13 ≤ k := by simp at hge; omega
   have : k = 13 := by omega
   subst this
   conv => whnf
   have he : syms.find? (fun x => x.isPrefixOf s) = none := by rw [he]; rfl
   simp [symLen, he]
theorem runP_step (s : Bs) (k : Nat) (hk : k < s.length) : runP (s.drop k) = bif wordB s[k] then ((runP (s.drop (k + 1))).1 + 1, (runP (s.drop (k + 1))).2 + bif digB s[k] then 1 else 0) else (0, 0) := by
 rw [List.drop_eq_getElem_cons hk]; rfl
theorem runP_end (s : Bs) : runP (s.drop s.length) = (0, 0) := by simp [runP]
set_option maxRecDepth 20000 in
theorem run_spec (s : Bs) (hs : s.length ≤ 8000) : Ctr Tryz.prog 64 [.str s] (fun r => r = .tuple [.int .i64 (runP s).1, .int .i64 (runP s).2]) := by
 refine Ctr.of_body Tryz.func64 rfl tys_ok (by kernel_rfl) ?_
 conv => whnf
 refine cd_sound tys_ok _ ?_
 conv => whnf
 refine ACode.loopT (fun i : Nat × Nat => mk 26 [(0, .str s), (4, .int .i64 i.1), (5, .int .i64 i.2)]) (fun _ => []) (fun i => i.1 ≤ s.length ∧ i.2 ≤ i.1 ∧ runP s = (i.1 + (runP (s.drop i.1)).1, i.2 + (runP (s.drop i.1)).2)) (fun i => s.length - i.1) ⟨(0, 0), ?_⟩ fun i hi => ?_
 ·conv => whnf
  repeat (refine And.intro ?_ ?_; (focus (first | rfl | (simp; done))); conv => whnf)
  simp
 ·obtain ⟨k, d⟩ := i
  obtain ⟨hk, hd, he⟩ := hi
  simp only at hk hd he ⊢
  refine cd_sound tys_ok _ ?_
  conv => whnf
  refine ⟨fun hlt => ?_, fun hge => ?_⟩
  ·have hlt : k < s.length := by simpa using hlt
   rw [runP_step s k hlt] at he
   conv => whnf
   refine ⟨⟨by omega, by omega⟩, ?_⟩
   conv => whnf
   rw [getD_byte s k hlt]
   refine ACall.of_spec (isWordByte_spec s[k]) rfl fun r hr => ?_
   subst hr
   conv => whnf
   refine ⟨fun ht => ?_, fun hf => ?_⟩
   ·rw [ht] at he
    simp only [cond_true] at he
    conv => whnf
    refine ⟨⟨by omega, by omega⟩, ?_⟩
    conv => whnf
    rw [getD_byte s k hlt]
    refine ACall.of_spec (lDigit_spec s[k]) rfl fun r hr => ?_
    subst hr
    conv => whnf
    refine ⟨fun hd1 => ?_, fun hd1 => ?_⟩
    ·rw [hd1] at he
     conv => whnf
     refine ⟨(k + 1, d + 1), ?_⟩
     conv => whnf
     repeat (refine And.intro ?_ ?_; (focus (first | rfl | (simp; done) | ((rw [Wr64 _ (by omega) (by omega)]; omega); done))); conv => whnf)
     refine ⟨⟨by omega, by omega, ?_⟩, by simp only; omega⟩
     rw [he]
     simp only [cond_true]
     refine Prod.ext ?_ ?_ <;> simp only <;> omega
    ·rw [hd1] at he
     conv => whnf
     refine ⟨(k + 1, d), ?_⟩
     conv => whnf
     repeat (refine And.intro ?_ ?_; (focus (first | rfl | (simp; done) | ((rw [Wr64 _ (by omega) (by omega)]; omega); done))); conv => whnf)
     refine ⟨⟨by omega, by omega, ?_⟩, by simp only; omega⟩
     rw [he]
     simp only [cond_false]
     refine Prod.ext ?_ ?_ <;> simp only <;> omega
   ·conv => whnf
    rw [hf] at he
    simp only [cond_false, Nat.add_zero] at he
    rw [he]
  ·have hge : s.length ≤ k := by simp at hge; omega
   have : k = s.length := by omega
   subst this
   rw [runP_end] at he
   conv => whnf
   simp only [Nat.add_zero] at he
   rw [he]
end Go.Proofs.YtmhlneeboefkgaaGreatDoor
