import Derived.Test.YtmhlneeboefkgaaGreatDoorR4
import Derived.Test.YtmhlneeboefkgaaGreatDoorPa
set_option linter.unusedVariables false
set_option linter.unusedSimpArgs false
namespace Go.Proofs.YtmhlneeboefkgaaGreatDoor
open Go.Av Go.Av.Net Pl
theorem _root_.Go.Av.no_br {P Q X Y : Prop} (h : ¬ Q) (h2 : P → X) : (P → X) ∧ (Q → Y) := ⟨h2, fun q => absurd q h⟩
theorem _root_.Go.Av.yes_br {P Q X Y : Prop} (h : ¬ P) (h2 : Q → Y) : (P → X) ∧ (Q → Y) := ⟨fun q => absurd q h, h2⟩
theorem closed_strs (l : List Bs) : ∀ e ∈ strs l, closed e = true := by
 intro e he; obtain ⟨s, _, rfl⟩ := List.mem_map.1 he; rfl
theorem keys_spec : Ctr Tryz.prog 88 [] (fun r => r = .sl 1 (strs keyWords)) := by
 refine Ctr.of_body Tryz.func88 rfl tys_ok (by kernel_rfl) ?_
 conv => whnf
 repeat (first | refine ACode.seq ?_ | (refine ACode.s_reg tys_ok ?_; conv => whnf) | refine ACode.s_block ?_ | refine ACode.s_scope ?_ | (refine ACode.s_cond ?_; conv => whnf) | (refine ACode.s_exit ?_; conv => whnf) | (refine ACode.s_ret ?_; conv => whnf) | (refine ACode.s_skip ?_; conv => whnf) | (refine ACode.s_label ?_; conv => whnf))
 exact ⟨⟨rfl, closed_strs keyWords⟩, rfl⟩
/-- Is a text one of a list? -/
def inB (l : List Bs) (s : Bs) : Bool := l.any (fun x => decide (x = s))
theorem inB_step {l : List Bs} {s : Bs} {k : Nat} (h : k < l.length) : inB (l.drop k) s = (decide (l[k] = s) || inB (l.drop (k + 1)) s) := any_step _ l k h
theorem inB_key (s : Bs) : keyWords.any (fun x => decide (s = x)) = inB keyWords s := by
 unfold inB; congr 1; funext x; simp only [eq_comm]
def symsR : List Bs := [[123], [125], [40], [41], [91], [93], [44], [59], [58], [61], [45, 62], [46], [45]]
theorem symbols_spec : Ctr Tryz.prog 95 [] (fun r => r = .sl 1 (strs symsR)) := by
 refine Ctr.of_body Tryz.func95 rfl tys_ok (by kernel_rfl) ?_
 conv => whnf
 repeat (first | refine ACode.seq ?_ | (refine ACode.s_reg tys_ok ?_; conv => whnf) | refine ACode.s_block ?_ | refine ACode.s_scope ?_ | (refine ACode.s_cond ?_; conv => whnf) | (refine ACode.s_exit ?_; conv => whnf) | (refine ACode.s_ret ?_; conv => whnf) | (refine ACode.s_skip ?_; conv => whnf) | (refine ACode.s_label ?_; conv => whnf))
 exact ⟨⟨rfl, closed_strs symsR⟩, rfl⟩
set_option maxRecDepth 20000 in
theorem key_spec (s : Bs) : Ctr Tryz.prog 75 [.str s] (fun r => r = .bool (inB keyWords s)) := by
 refine Ctr.lits ?_
 refine Ctr.of_body Tryz.func75 rfl tys_ok (by kernel_rfl) ?_
 conv => whnf
 repeat (first | refine ACode.seq ?_ | (refine ACode.s_reg tys_ok ?_; conv => whnf) | refine ACode.s_block ?_ | refine ACode.s_scope ?_ | (refine ACode.s_cond ?_; conv => whnf) | (refine ACode.s_exit ?_; conv => whnf) | (refine ACode.s_ret ?_; conv => whnf) | (refine ACode.s_skip ?_; conv => whnf) | (refine ACode.s_label ?_; conv => whnf))
 refine ACall.of_spec (keys_spec) rfl fun r hr => ?_
 subst hr
 conv => whnf
 repeat (first | refine ACode.seq ?_ | (refine ACode.s_reg tys_ok ?_; conv => whnf) | refine ACode.s_block ?_ | refine ACode.s_scope ?_ | (refine ACode.s_cond ?_; conv => whnf) | (refine ACode.s_exit ?_; conv => whnf) | (refine ACode.s_ret ?_; conv => whnf) | (refine ACode.s_skip ?_; conv => whnf) | (refine ACode.s_label ?_; conv => whnf))
 refine ACode.loopD (fun k : Nat => mk 18 [(0, .str s), (3, .sl 1 (strs keyWords)), (4, .int .i64 k)]) (fun _ => []) (fun k => k ≤ 17 ∧ inB keyWords s = inB (keyWords.drop k) s) (fun k => 17 - k) (fun k hk => ⟨rfl, trivial⟩) ⟨0, ?_⟩ (fun _ => rfl) fun k hk => ?_
 ·conv => whnf
  repeat (refine And.intro ?_ ?_; (focus (first | rfl | (simp; done))); conv => whnf)
  rfl
 ·obtain ⟨hk, he⟩ := hk
  repeat (first | refine ACode.seq ?_ | (refine ACode.s_reg tys_ok ?_; conv => whnf) | refine ACode.s_block ?_ | refine ACode.s_scope ?_ | (refine ACode.s_cond ?_; conv => whnf) | (refine ACode.s_exit ?_; conv => whnf) | (refine ACode.s_ret ?_; conv => whnf) | (refine ACode.s_skip ?_; conv => whnf) | (refine ACode.s_label ?_; conv => whnf))
  refine ⟨fun hlt => ?_, fun hge => ?_⟩
  ·have hlt : k < 17 := by simp [strs, keyWords] at hlt; omega
   have hlt' : k < keyWords.length := hlt
   rw [inB_step hlt'] at he
   repeat (first | refine ACode.seq ?_ | (refine ACode.s_reg tys_ok ?_; conv => whnf) | refine ACode.s_block ?_ | refine ACode.s_scope ?_ | (refine ACode.s_cond ?_; conv => whnf) | (refine ACode.s_exit ?_; conv => whnf) | (refine ACode.s_ret ?_; conv => whnf) | (refine ACode.s_skip ?_; conv => whnf) | (refine ACode.s_label ?_; conv => whnf))
   refine ⟨by omega, .str keyWords[k], strs_get _ _ hlt', ?_⟩
   conv => whnf
   repeat (first | refine ACode.seq ?_ | (refine ACode.s_reg tys_ok ?_; conv => whnf) | refine ACode.s_block ?_ | refine ACode.s_scope ?_ | (refine ACode.s_cond ?_; conv => whnf) | (refine ACode.s_exit ?_; conv => whnf) | (refine ACode.s_ret ?_; conv => whnf) | (refine ACode.s_skip ?_; conv => whnf) | (refine ACode.s_label ?_; conv => whnf))
   refine ⟨fun ht => ?_, fun hf => ?_⟩
   ·conv => whnf
    repeat (first | refine ACode.seq ?_ | (refine ACode.s_reg tys_ok ?_; conv => whnf) | refine ACode.s_block ?_ | refine ACode.s_scope ?_ | (refine ACode.s_cond ?_; conv => whnf) | (refine ACode.s_exit ?_; conv => whnf) | (refine ACode.s_ret ?_; conv => whnf) | (refine ACode.s_skip ?_; conv => whnf) | (refine ACode.s_label ?_; conv => whnf))
    have ht : keyWords[k] = s := by simpa using ht
    rw [decide_eq_true ht, Bool.true_or] at he
    rw [he]
    first | exact .inl rfl | exact .inr rfl
   ·conv => whnf
    repeat (first | refine ACode.seq ?_ | (refine ACode.s_reg tys_ok ?_; conv => whnf) | refine ACode.s_block ?_ | refine ACode.s_scope ?_ | (refine ACode.s_cond ?_; conv => whnf) | (refine ACode.s_exit ?_; conv => whnf) | (refine ACode.s_ret ?_; conv => whnf) | (refine ACode.s_skip ?_; conv => whnf) | (refine ACode.s_label ?_; conv => whnf))
    have hf : ¬ keyWords[k] = s := by simpa using hf
    rw [decide_eq_false hf, Bool.false_or] at he
    refine ⟨k + 1, ?_⟩
    conv => whnf
    repeat (refine And.intro ?_ ?_; (focus (first | rfl | (simp; done) | (rw [Wr64 _ (by omega) (by omega)]; omega; done))); conv => whnf)
    exact ⟨⟨by omega, he⟩, by omega⟩
  ·have hge : 17 ≤ k := by simp [strs, keyWords] at hge; omega
   have : k = 17 := by omega
   subst this
   repeat (first | refine ACode.seq ?_ | (refine ACode.s_reg tys_ok ?_; conv => whnf) | refine ACode.s_block ?_ | refine ACode.s_scope ?_ | (refine ACode.s_cond ?_; conv => whnf) | (refine ACode.s_exit ?_; conv => whnf) | (refine ACode.s_ret ?_; conv => whnf) | (refine ACode.s_skip ?_; conv => whnf) | (refine ACode.s_label ?_; conv => whnf))
   have h5 : inB keyWords s = false := by rw [he]; rfl
   rw [h5]
   first | exact .inl rfl | exact .inr rfl
set_option maxRecDepth 20000 in
theorem rsymbol_spec (s : Bs) : Ctr Tryz.prog 85 [.str s] (fun r => r = .bool (inB symsR s)) := by
 refine Ctr.lits ?_
 refine Ctr.of_body Tryz.func85 rfl tys_ok (by kernel_rfl) ?_
 conv => whnf
 repeat (first | refine ACode.seq ?_ | (refine ACode.s_reg tys_ok ?_; conv => whnf) | refine ACode.s_block ?_ | refine ACode.s_scope ?_ | (refine ACode.s_cond ?_; conv => whnf) | (refine ACode.s_exit ?_; conv => whnf) | (refine ACode.s_ret ?_; conv => whnf) | (refine ACode.s_skip ?_; conv => whnf) | (refine ACode.s_label ?_; conv => whnf))
 refine ACall.of_spec (symbols_spec) rfl fun r hr => ?_
 subst hr
 conv => whnf
 repeat (first | refine ACode.seq ?_ | (refine ACode.s_reg tys_ok ?_; conv => whnf) | refine ACode.s_block ?_ | refine ACode.s_scope ?_ | (refine ACode.s_cond ?_; conv => whnf) | (refine ACode.s_exit ?_; conv => whnf) | (refine ACode.s_ret ?_; conv => whnf) | (refine ACode.s_skip ?_; conv => whnf) | (refine ACode.s_label ?_; conv => whnf))
 refine ACode.loopD (fun k : Nat => mk 18 [(0, .str s), (3, .sl 1 (strs symsR)), (4, .int .i64 k)]) (fun _ => []) (fun k => k ≤ 13 ∧ inB symsR s = inB (symsR.drop k) s) (fun k => 13 - k) (fun k hk => ⟨rfl, trivial⟩) ⟨0, ?_⟩ (fun _ => rfl) fun k hk => ?_
 ·conv => whnf
  repeat (refine And.intro ?_ ?_; (focus (first | rfl | (simp; done))); conv => whnf)
  rfl
 ·obtain ⟨hk, he⟩ := hk
  repeat (first | refine ACode.seq ?_ | (refine ACode.s_reg tys_ok ?_; conv => whnf) | refine ACode.s_block ?_ | refine ACode.s_scope ?_ | (refine ACode.s_cond ?_; conv => whnf) | (refine ACode.s_exit ?_; conv => whnf) | (refine ACode.s_ret ?_; conv => whnf) | (refine ACode.s_skip ?_; conv => whnf) | (refine ACode.s_label ?_; conv => whnf))
  refine ⟨fun hlt => ?_, fun hge => ?_⟩
  ·have hlt : k < 13 := by simp [strs, symsR] at hlt; omega
   have hlt' : k < symsR.length := hlt
   rw [inB_step hlt'] at he
   repeat (first | refine ACode.seq ?_ | (refine ACode.s_reg tys_ok ?_; conv => whnf) | refine ACode.s_block ?_ | refine ACode.s_scope ?_ | (refine ACode.s_cond ?_; conv => whnf) | (refine ACode.s_exit ?_; conv => whnf) | (refine ACode.s_ret ?_; conv => whnf) | (refine ACode.s_skip ?_; conv => whnf) | (refine ACode.s_label ?_; conv => whnf))
   refine ⟨by omega, .str symsR[k], strs_get _ _ hlt', ?_⟩
   conv => whnf
   repeat (first | refine ACode.seq ?_ | (refine ACode.s_reg tys_ok ?_; conv => whnf) | refine ACode.s_block ?_ | refine ACode.s_scope ?_ | (refine ACode.s_cond ?_; conv => whnf) | (refine ACode.s_exit ?_; conv => whnf) | (refine ACode.s_ret ?_; conv => whnf) | (refine ACode.s_skip ?_; conv => whnf) | (refine ACode.s_label ?_; conv => whnf))
   refine ⟨fun ht => ?_, fun hf => ?_⟩
   ·conv => whnf
    repeat (first | refine ACode.seq ?_ | (refine ACode.s_reg tys_ok ?_; conv => whnf) | refine ACode.s_block ?_ | refine ACode.s_scope ?_ | (refine ACode.s_cond ?_; conv => whnf) | (refine ACode.s_exit ?_; conv => whnf) | (refine ACode.s_ret ?_; conv => whnf) | (refine ACode.s_skip ?_; conv => whnf) | (refine ACode.s_label ?_; conv => whnf))
    have ht : symsR[k] = s := by simpa using ht
    rw [decide_eq_true ht, Bool.true_or] at he
    rw [he]
    first | exact .inl rfl | exact .inr rfl
   ·conv => whnf
    repeat (first | refine ACode.seq ?_ | (refine ACode.s_reg tys_ok ?_; conv => whnf) | refine ACode.s_block ?_ | refine ACode.s_scope ?_ | (refine ACode.s_cond ?_; conv => whnf) | (refine ACode.s_exit ?_; conv => whnf) | (refine ACode.s_ret ?_; conv => whnf) | (refine ACode.s_skip ?_; conv => whnf) | (refine ACode.s_label ?_; conv => whnf))
    have hf : ¬ symsR[k] = s := by simpa using hf
    rw [decide_eq_false hf, Bool.false_or] at he
    refine ⟨k + 1, ?_⟩
    conv => whnf
    repeat (refine And.intro ?_ ?_; (focus (first | rfl | (simp; done) | (rw [Wr64 _ (by omega) (by omega)]; omega; done))); conv => whnf)
    exact ⟨⟨by omega, he⟩, by omega⟩
  ·have hge : 13 ≤ k := by simp [strs, symsR] at hge; omega
   have : k = 13 := by omega
   subst this
   repeat (first | refine ACode.seq ?_ | (refine ACode.s_reg tys_ok ?_; conv => whnf) | refine ACode.s_block ?_ | refine ACode.s_scope ?_ | (refine ACode.s_cond ?_; conv => whnf) | (refine ACode.s_exit ?_; conv => whnf) | (refine ACode.s_ret ?_; conv => whnf) | (refine ACode.s_skip ?_; conv => whnf) | (refine ACode.s_label ?_; conv => whnf))
   have h5 : inB symsR s = false := by rw [he]; rfl
   rw [h5]
   first | exact .inl rfl | exact .inr rfl
theorem rDigit_spec (b : UInt8) : Ctr Tryz.prog 76 [.int .u8 b.toNat] (fun r => r = .bool (digB b)) := by
 refine Ctr.lits ?_
 refine Ctr.of_body Tryz.func76 rfl tys_ok (by kernel_rfl) ?_
 conv => whnf
 repeat (first | refine ACode.seq ?_ | (refine ACode.s_reg tys_ok ?_; conv => whnf) | refine ACode.s_block ?_ | refine ACode.s_scope ?_ | (refine ACode.s_cond ?_; conv => whnf) | (refine ACode.s_exit ?_; conv => whnf) | (refine ACode.s_ret ?_; conv => whnf) | (refine ACode.s_skip ?_; conv => whnf) | (refine ACode.s_label ?_; conv => whnf))
 repeat' (first | (refine And.intro (fun _ => ?_) (fun _ => ?_) <;> conv => whnf) | refine ACode.seq ?_ | (refine ACode.s_reg tys_ok ?_; conv => whnf) | refine ACode.s_block ?_ | refine ACode.s_scope ?_ | (refine ACode.s_cond ?_; conv => whnf) | (refine ACode.s_exit ?_; conv => whnf) | (refine ACode.s_ret ?_; conv => whnf) | (refine ACode.s_skip ?_; conv => whnf) | (refine ACode.s_label ?_; conv => whnf))
 all_goals first | (refine .inr (congrArg AV.bool ?_); rw [Bool.eq_iff_iff]; (try simp_all [digB]); (try omega); done) | (refine .inl (congrArg AV.lit ?_); rw [Bool.eq_iff_iff]; (try simp_all [digB]); (try omega); done)
set_option maxRecDepth 10000 in
theorem rWord_spec (b : UInt8) : Ctr Tryz.prog 74 [.int .u8 b.toNat] (fun r => r = .bool (wordB b)) := by
 refine Ctr.lits ?_
 refine Ctr.of_body Tryz.func74 rfl tys_ok (by kernel_rfl) ?_
 conv => whnf
 repeat (first | refine ACode.seq ?_ | (refine ACode.s_reg tys_ok ?_; conv => whnf) | refine ACode.s_block ?_ | refine ACode.s_scope ?_ | (refine ACode.s_cond ?_; conv => whnf) | (refine ACode.s_exit ?_; conv => whnf) | (refine ACode.s_ret ?_; conv => whnf) | (refine ACode.s_skip ?_; conv => whnf) | (refine ACode.s_label ?_; conv => whnf))
 repeat' (first | (refine And.intro (fun _ => ?_) (fun _ => ?_) <;> conv => whnf) | (refine ACall.of_spec (rDigit_spec b) rfl fun r hr => ?_; subst hr; conv => whnf) | refine ACode.seq ?_ | (refine ACode.s_reg tys_ok ?_; conv => whnf) | refine ACode.s_block ?_ | refine ACode.s_scope ?_ | (refine ACode.s_cond ?_; conv => whnf) | (refine ACode.s_exit ?_; conv => whnf) | (refine ACode.s_ret ?_; conv => whnf) | (refine ACode.s_skip ?_; conv => whnf) | (refine ACode.s_label ?_; conv => whnf))
 all_goals (cases hd : digB b <;> first | (refine .inr (congrArg AV.bool ?_); rw [Bool.eq_iff_iff]; (try simp_all [wordB]); (try omega); done) | (refine .inl (congrArg AV.lit ?_); rw [Bool.eq_iff_iff]; (try simp_all [wordB]); (try omega); done) | (exfalso; simp_all; done))
theorem name_false {s : Bs} (h : ¬ (1 ≤ s.length ∧ s.length ≤ 16 ∧ smallB (s.headD 0) = true ∧ inB keyWords s = false)) : isNameB s = false := by
 rw [Bool.eq_false_iff]
 intro q
 rw [isNameB_eq] at q
 simp only [Bool.and_eq_true, decide_eq_true_eq, Bool.not_eq_true'] at q
 obtain ⟨⟨⟨⟨q1, q2⟩, q3⟩, q4⟩, q5⟩ := q
 rw [inB_key] at q5
 exact h ⟨q1, q2, q3, q5⟩
set_option maxRecDepth 20000 in
theorem rName_spec (s : Bs) (hs : s.length ≤ 9223372036854775807) : Ctr Tryz.prog 57 [.str s] (fun r => r = .bool (isNameB s)) := by
 refine Ctr.lits ?_
 have fin : ¬ (1 ≤ s.length ∧ s.length ≤ 16 ∧ smallB (s.headD 0) = true ∧ inB keyWords s = false) → (AV.bool false = .lit (isNameB s) ∨ AV.bool false = .bool (isNameB s)) ∧ (AV.lit false = .lit (isNameB s) ∨ AV.lit false = .bool (isNameB s)) := fun h => by rw [name_false h]; exact ⟨.inr rfl, .inl rfl⟩
 have hg : s.getD (0 : Int).toNat 0 = s.headD 0 := by cases s <;> rfl
 have hname := isNameB_eq s
 generalize s.headD 0 = c at *
 refine Ctr.of_body Tryz.func57 rfl tys_ok (by kernel_rfl) ?_
 conv => whnf
 repeat (first | refine ACode.seq ?_ | (refine ACode.s_reg tys_ok ?_; conv => whnf) | refine ACode.s_block ?_ | refine ACode.s_scope ?_ | (refine ACode.s_cond ?_; conv => whnf) | (refine ACode.s_exit ?_; conv => whnf) | (refine ACode.s_ret ?_; conv => whnf) | (refine ACode.s_skip ?_; conv => whnf) | (refine ACode.s_label ?_; conv => whnf))
 refine ⟨fun h1 => ?_, fun h1 => ?_⟩
 ·have h1 : 1 ≤ s.length := by simp at h1; omega
  conv => whnf
  repeat (first | refine ACode.seq ?_ | (refine ACode.s_reg tys_ok ?_; conv => whnf) | refine ACode.s_block ?_ | refine ACode.s_scope ?_ | (refine ACode.s_cond ?_; conv => whnf) | (refine ACode.s_exit ?_; conv => whnf) | (refine ACode.s_ret ?_; conv => whnf) | (refine ACode.s_skip ?_; conv => whnf) | (refine ACode.s_label ?_; conv => whnf))
  refine ⟨fun h2 => ?_, fun h2 => ?_⟩
  ·have h2 : s.length ≤ 16 := by simp at h2; omega
   conv => whnf
   repeat (first | refine ACode.seq ?_ | (refine ACode.s_reg tys_ok ?_; conv => whnf) | refine ACode.s_block ?_ | refine ACode.s_scope ?_ | (refine ACode.s_cond ?_; conv => whnf) | (refine ACode.s_exit ?_; conv => whnf) | (refine ACode.s_ret ?_; conv => whnf) | (refine ACode.s_skip ?_; conv => whnf) | (refine ACode.s_label ?_; conv => whnf))
   refine ⟨⟨by omega, by omega⟩, ?_⟩
   conv => whnf
   rw [hg]
   refine ⟨fun h3 => ?_, fun h3 => ?_⟩
   ·have h3 : 97 ≤ c.toNat := by simp at h3; omega
    conv => whnf
    repeat (first | refine ACode.seq ?_ | (refine ACode.s_reg tys_ok ?_; conv => whnf) | refine ACode.s_block ?_ | refine ACode.s_scope ?_ | (refine ACode.s_cond ?_; conv => whnf) | (refine ACode.s_exit ?_; conv => whnf) | (refine ACode.s_ret ?_; conv => whnf) | (refine ACode.s_skip ?_; conv => whnf) | (refine ACode.s_label ?_; conv => whnf))
    refine ⟨⟨by omega, by omega⟩, ?_⟩
    conv => whnf
    rw [hg]
    refine ⟨fun h4 => ?_, fun h4 => ?_⟩
    ·have h4 : c.toNat ≤ 122 := by simp at h4; omega
     have h5 : smallB c = true := by simp [smallB, h3, h4]
     conv => whnf
     repeat (first | refine ACode.seq ?_ | (refine ACode.s_reg tys_ok ?_; conv => whnf) | refine ACode.s_block ?_ | refine ACode.s_scope ?_ | (refine ACode.s_cond ?_; conv => whnf) | (refine ACode.s_exit ?_; conv => whnf) | (refine ACode.s_ret ?_; conv => whnf) | (refine ACode.s_skip ?_; conv => whnf) | (refine ACode.s_label ?_; conv => whnf))
     refine ACall.of_spec (key_spec s) rfl fun r hr => ?_
     subst hr
     conv => whnf
     repeat (first | refine ACode.seq ?_ | (refine ACode.s_reg tys_ok ?_; conv => whnf) | refine ACode.s_block ?_ | refine ACode.s_scope ?_ | (refine ACode.s_cond ?_; conv => whnf) | (refine ACode.s_exit ?_; conv => whnf) | (refine ACode.s_ret ?_; conv => whnf) | (refine ACode.s_skip ?_; conv => whnf) | (refine ACode.s_label ?_; conv => whnf))
     refine ⟨fun h6 => ?_, fun h6 => ?_⟩
     ·have h6 : inB keyWords s = true := by simpa using h6
      conv => whnf
      repeat (first | refine ACode.seq ?_ | (refine ACode.s_reg tys_ok ?_; conv => whnf) | refine ACode.s_block ?_ | refine ACode.s_scope ?_ | (refine ACode.s_cond ?_; conv => whnf) | (refine ACode.s_exit ?_; conv => whnf) | (refine ACode.s_ret ?_; conv => whnf) | (refine ACode.s_skip ?_; conv => whnf) | (refine ACode.s_label ?_; conv => whnf))
      have := fin (fun q => by rw [h6] at q; exact absurd q.2.2.2 (by simp))
      first | exact this.1 | exact this.2
     ·have h6 : inB keyWords s = false := by simpa using h6
      have hname : isNameB s = s.all nmB := by
       rw [hname, inB_key, h6, h5, decide_eq_true h1, decide_eq_true h2]; simp
      conv => whnf
      repeat (first | refine ACode.seq ?_ | (refine ACode.s_reg tys_ok ?_; conv => whnf) | refine ACode.s_block ?_ | refine ACode.s_scope ?_ | (refine ACode.s_cond ?_; conv => whnf) | (refine ACode.s_exit ?_; conv => whnf) | (refine ACode.s_ret ?_; conv => whnf) | (refine ACode.s_skip ?_; conv => whnf) | (refine ACode.s_label ?_; conv => whnf))
      refine ACode.loopD (fun k : Nat => mk 55 [(0, .str s), (3, .int .i64 k)]) (fun _ => []) (fun k => k ≤ s.length ∧ (s.all nmB) = (s.drop k).all nmB) (fun k => s.length - k) (fun k hk => ⟨rfl, trivial⟩) ⟨0, ?_⟩ (fun _ => rfl) fun k hk => ?_
      ·conv => whnf
       repeat (refine And.intro ?_ ?_; (focus (first | rfl | (simp; done))); conv => whnf)
       simp
      ·obtain ⟨hk, he⟩ := hk
       repeat (first | refine ACode.seq ?_ | (refine ACode.s_reg tys_ok ?_; conv => whnf) | refine ACode.s_block ?_ | refine ACode.s_scope ?_ | (refine ACode.s_cond ?_; conv => whnf) | (refine ACode.s_exit ?_; conv => whnf) | (refine ACode.s_ret ?_; conv => whnf) | (refine ACode.s_skip ?_; conv => whnf) | (refine ACode.s_label ?_; conv => whnf))
       refine ⟨fun hlt => ?_, fun hge => ?_⟩
       ·have hlt : k < s.length := by simpa using hlt
        rw [all_step _ s k hlt] at he
        repeat (first | refine ACode.seq ?_ | (refine ACode.s_reg tys_ok ?_; conv => whnf) | refine ACode.s_block ?_ | refine ACode.s_scope ?_ | (refine ACode.s_cond ?_; conv => whnf) | (refine ACode.s_exit ?_; conv => whnf) | (refine ACode.s_ret ?_; conv => whnf) | (refine ACode.s_skip ?_; conv => whnf) | (refine ACode.s_label ?_; conv => whnf))
        repeat' (first | (refine And.intro (fun _ => ?_) (fun _ => ?_) <;> conv => whnf) | (refine And.intro ⟨by omega, by omega⟩ ?_; (conv => whnf); rw [getD_byte s k hlt]) | (refine ACall.of_spec (rDigit_spec s[k]) rfl fun r hr => ?_; subst hr; conv => whnf) | refine ACode.seq ?_ | (refine ACode.s_reg tys_ok ?_; conv => whnf) | refine ACode.s_block ?_ | refine ACode.s_scope ?_ | (refine ACode.s_cond ?_; conv => whnf) | (refine ACode.s_exit ?_; conv => whnf) | (refine ACode.s_ret ?_; conv => whnf) | (refine ACode.s_skip ?_; conv => whnf) | (refine ACode.s_label ?_; conv => whnf))
        all_goals first
         | (have hn : nmB s[k] = false := by simp_all [nmB, smallB] <;> omega
            rw [hn] at he
            rw [hname, he]; first | exact .inl rfl | exact .inr rfl)
         | (refine ⟨k + 1, ?_⟩
            conv => whnf
            repeat (refine And.intro ?_ ?_; (focus (first | rfl | (simp; done) | (rw [Wr64 _ (by omega) (by omega)]; omega; done))); conv => whnf)
            have hn : nmB s[k] = true := by simp_all [nmB, smallB] <;> omega
            rw [hn] at he
            exact ⟨⟨by omega, he⟩, by omega⟩)
       ·have hge : s.length ≤ k := by simp at hge; omega
        have : k = s.length := by omega
        subst this
        have h7 : s.all nmB = true := by rw [he]; simp
        repeat (first | refine ACode.seq ?_ | (refine ACode.s_reg tys_ok ?_; conv => whnf) | refine ACode.s_block ?_ | refine ACode.s_scope ?_ | (refine ACode.s_cond ?_; conv => whnf) | (refine ACode.s_exit ?_; conv => whnf) | (refine ACode.s_ret ?_; conv => whnf) | (refine ACode.s_skip ?_; conv => whnf) | (refine ACode.s_label ?_; conv => whnf))
        rw [hname, h7]
        exact .inr rfl
    ·have h4 : ¬ c.toNat ≤ 122 := by simp at h4; omega
     conv => whnf
     repeat (first | refine ACode.seq ?_ | (refine ACode.s_reg tys_ok ?_; conv => whnf) | refine ACode.s_block ?_ | refine ACode.s_scope ?_ | (refine ACode.s_cond ?_; conv => whnf) | (refine ACode.s_exit ?_; conv => whnf) | (refine ACode.s_ret ?_; conv => whnf) | (refine ACode.s_skip ?_; conv => whnf) | (refine ACode.s_label ?_; conv => whnf))
     have := fin (fun q => by have := q.2.2.1; simp [smallB] at this; omega)
     first | exact this.1 | exact this.2
   ·have h3 : ¬ 97 ≤ c.toNat := by simp at h3; omega
    conv => whnf
    repeat (first | refine ACode.seq ?_ | (refine ACode.s_reg tys_ok ?_; conv => whnf) | refine ACode.s_block ?_ | refine ACode.s_scope ?_ | (refine ACode.s_cond ?_; conv => whnf) | (refine ACode.s_exit ?_; conv => whnf) | (refine ACode.s_ret ?_; conv => whnf) | (refine ACode.s_skip ?_; conv => whnf) | (refine ACode.s_label ?_; conv => whnf))
    have := fin (fun q => by have := q.2.2.1; simp [smallB] at this; omega)
    first | exact this.1 | exact this.2
  ·have h2 : ¬ s.length ≤ 16 := by simp at h2; omega
   conv => whnf
   repeat (first | refine ACode.seq ?_ | (refine ACode.s_reg tys_ok ?_; conv => whnf) | refine ACode.s_block ?_ | refine ACode.s_scope ?_ | (refine ACode.s_cond ?_; conv => whnf) | (refine ACode.s_exit ?_; conv => whnf) | (refine ACode.s_ret ?_; conv => whnf) | (refine ACode.s_skip ?_; conv => whnf) | (refine ACode.s_label ?_; conv => whnf))
   have := fin (fun q => h2 q.2.1)
   first | exact this.1 | exact this.2
 ·have h1 : ¬ 1 ≤ s.length := by simp at h1; omega
  conv => whnf
  repeat (first | refine ACode.seq ?_ | (refine ACode.s_reg tys_ok ?_; conv => whnf) | refine ACode.s_block ?_ | refine ACode.s_scope ?_ | (refine ACode.s_cond ?_; conv => whnf) | (refine ACode.s_exit ?_; conv => whnf) | (refine ACode.s_ret ?_; conv => whnf) | (refine ACode.s_skip ?_; conv => whnf) | (refine ACode.s_label ?_; conv => whnf))
  have := fin (fun q => h1 q.1)
  first | exact this.1 | exact this.2
set_option maxRecDepth 20000 in
theorem rCode_spec (s : Bs) (hs : s.length ≤ 9223372036854775807) : Ctr Tryz.prog 61 [.str s] (fun r => r = .bool (isCodeB s)) := by
 refine Ctr.lits ?_
 refine Ctr.of_body Tryz.func61 rfl tys_ok (by kernel_rfl) ?_
 conv => whnf
 repeat (first | refine ACode.seq ?_ | (refine ACode.s_reg tys_ok ?_; conv => whnf) | refine ACode.s_block ?_ | refine ACode.s_scope ?_ | (refine ACode.s_cond ?_; conv => whnf) | (refine ACode.s_exit ?_; conv => whnf) | (refine ACode.s_ret ?_; conv => whnf) | (refine ACode.s_skip ?_; conv => whnf) | (refine ACode.s_label ?_; conv => whnf))
 refine ⟨fun h1 => ?_, fun h1 => ?_⟩
 ·have h1 : 1 ≤ s.length := by simp at h1; omega
  conv => whnf
  repeat (first | refine ACode.seq ?_ | (refine ACode.s_reg tys_ok ?_; conv => whnf) | refine ACode.s_block ?_ | refine ACode.s_scope ?_ | (refine ACode.s_cond ?_; conv => whnf) | (refine ACode.s_exit ?_; conv => whnf) | (refine ACode.s_ret ?_; conv => whnf) | (refine ACode.s_skip ?_; conv => whnf) | (refine ACode.s_label ?_; conv => whnf))
  refine ⟨fun h2 => ?_, fun h2 => ?_⟩
  ·have h2 : ¬ s.length ≤ 8 := by simp at h2; omega
   have : isCodeB s = false := by simp [codeB_eq, h2]
   conv => whnf
   repeat (first | refine ACode.seq ?_ | (refine ACode.s_reg tys_ok ?_; conv => whnf) | refine ACode.s_block ?_ | refine ACode.s_scope ?_ | (refine ACode.s_cond ?_; conv => whnf) | (refine ACode.s_exit ?_; conv => whnf) | (refine ACode.s_ret ?_; conv => whnf) | (refine ACode.s_skip ?_; conv => whnf) | (refine ACode.s_label ?_; conv => whnf))
   rw [this]
   first | exact .inl rfl | exact .inr rfl
  ·have h2 : s.length ≤ 8 := by simp at h2; omega
   have hcode : isCodeB s = s.all codeB := by rw [codeB_eq, decide_eq_true h1, decide_eq_true h2]; simp
   conv => whnf
   repeat (first | refine ACode.seq ?_ | (refine ACode.s_reg tys_ok ?_; conv => whnf) | refine ACode.s_block ?_ | refine ACode.s_scope ?_ | (refine ACode.s_cond ?_; conv => whnf) | (refine ACode.s_exit ?_; conv => whnf) | (refine ACode.s_ret ?_; conv => whnf) | (refine ACode.s_skip ?_; conv => whnf) | (refine ACode.s_label ?_; conv => whnf))
   refine ACode.loopD (fun k : Nat => mk 35 [(0, .str s), (3, .int .i64 k)]) (fun _ => []) (fun k => k ≤ s.length ∧ (s.all codeB) = (s.drop k).all codeB) (fun k => s.length - k) (fun k hk => ⟨rfl, trivial⟩) ⟨0, ?_⟩ (fun _ => rfl) fun k hk => ?_
   ·conv => whnf
    repeat (refine And.intro ?_ ?_; (focus (first | rfl | (simp; done))); conv => whnf)
    simp
   ·obtain ⟨hk, he⟩ := hk
    repeat (first | refine ACode.seq ?_ | (refine ACode.s_reg tys_ok ?_; conv => whnf) | refine ACode.s_block ?_ | refine ACode.s_scope ?_ | (refine ACode.s_cond ?_; conv => whnf) | (refine ACode.s_exit ?_; conv => whnf) | (refine ACode.s_ret ?_; conv => whnf) | (refine ACode.s_skip ?_; conv => whnf) | (refine ACode.s_label ?_; conv => whnf))
    refine ⟨fun hlt => ?_, fun hge => ?_⟩
    ·have hlt : k < s.length := by simpa using hlt
     rw [all_step _ s k hlt] at he
     repeat (first | refine ACode.seq ?_ | (refine ACode.s_reg tys_ok ?_; conv => whnf) | refine ACode.s_block ?_ | refine ACode.s_scope ?_ | (refine ACode.s_cond ?_; conv => whnf) | (refine ACode.s_exit ?_; conv => whnf) | (refine ACode.s_ret ?_; conv => whnf) | (refine ACode.s_skip ?_; conv => whnf) | (refine ACode.s_label ?_; conv => whnf))
     repeat' (first | (refine And.intro (fun _ => ?_) (fun _ => ?_) <;> conv => whnf) | (refine And.intro ⟨by omega, by omega⟩ ?_; (conv => whnf); rw [getD_byte s k hlt]) | (refine ACall.of_spec (rDigit_spec s[k]) rfl fun r hr => ?_; subst hr; conv => whnf) | refine ACode.seq ?_ | (refine ACode.s_reg tys_ok ?_; conv => whnf) | refine ACode.s_block ?_ | refine ACode.s_scope ?_ | (refine ACode.s_cond ?_; conv => whnf) | (refine ACode.s_exit ?_; conv => whnf) | (refine ACode.s_ret ?_; conv => whnf) | (refine ACode.s_skip ?_; conv => whnf) | (refine ACode.s_label ?_; conv => whnf))
     all_goals first
      | (have hn : codeB s[k] = false := by simp_all [codeB] <;> omega
         rw [hn] at he
         rw [hcode, he]; first | exact .inl rfl | exact .inr rfl)
      | (refine ⟨k + 1, ?_⟩
         conv => whnf
         repeat (refine And.intro ?_ ?_; (focus (first | rfl | (simp; done) | (rw [Wr64 _ (by omega) (by omega)]; omega; done))); conv => whnf)
         have hn : codeB s[k] = true := by simp_all [codeB] <;> omega
         rw [hn] at he
         exact ⟨⟨by omega, he⟩, by omega⟩)
    ·have hge : s.length ≤ k := by simp at hge; omega
     have : k = s.length := by omega
     subst this
     have h7 : s.all codeB = true := by rw [he]; simp
     repeat (first | refine ACode.seq ?_ | (refine ACode.s_reg tys_ok ?_; conv => whnf) | refine ACode.s_block ?_ | refine ACode.s_scope ?_ | (refine ACode.s_cond ?_; conv => whnf) | (refine ACode.s_exit ?_; conv => whnf) | (refine ACode.s_ret ?_; conv => whnf) | (refine ACode.s_skip ?_; conv => whnf) | (refine ACode.s_label ?_; conv => whnf))
     rw [hcode, h7]
     exact .inr rfl
 ·have h1 : ¬ 1 ≤ s.length := by simp at h1; omega
  have : isCodeB s = false := by simp [codeB_eq, h1]
  conv => whnf
  repeat (first | refine ACode.seq ?_ | (refine ACode.s_reg tys_ok ?_; conv => whnf) | refine ACode.s_block ?_ | refine ACode.s_scope ?_ | (refine ACode.s_cond ?_; conv => whnf) | (refine ACode.s_exit ?_; conv => whnf) | (refine ACode.s_ret ?_; conv => whnf) | (refine ACode.s_skip ?_; conv => whnf) | (refine ACode.s_label ?_; conv => whnf))
  rw [this]
  first | exact .inl rfl | exact .inr rfl
end Go.Proofs.YtmhlneeboefkgaaGreatDoor
