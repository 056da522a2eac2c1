import Derived.Test.YtmhlneeboefkgaaGreatDoorN4
set_option linter.unusedVariables false
set_option linter.unusedSimpArgs false
namespace Go.Proofs.YtmhlneeboefkgaaGreatDoor
open Go.Av Go.Av.Net
theorem runP_le : ∀ s : Bs, (runP s).1 ≤ s.length ∧ (runP s).2 ≤ (runP s).1
 | [] => by simp [runP]
 | b :: r => by
  obtain ⟨h1, h2⟩ := runP_le r
  unfold runP
  cases wordB b <;> cases digB b <;> simp <;> omega
theorem numLen_if (s : Bs) : numLen s = if (runP s).2 = (runP s).1 ∧ (runP s).1 ≤ 8 then (runP s).1 else 0 := by
 unfold numLen
 by_cases h1 : (runP s).2 = (runP s).1 <;> by_cases h2 : 8 < (runP s).1 <;> simp [h1, h2] <;> omega
theorem nameLen_if (s : Bs) : nameLen s = if (runP s).2 = (runP s).1 ∨ 20 < (runP s).1 ∨ (s.headD 0).toNat = 95 then 0 else (runP s).1 := by
 unfold nameLen
 have e : (s.headD 0 = 95) ↔ ((s.headD 0).toNat = 95) := ⟨fun h => by rw [h]; rfl, fun h => UInt8.toNat_inj.1 h⟩
 by_cases h1 : (runP s).2 = (runP s).1 <;> by_cases h2 : 20 < (runP s).1 <;> by_cases h3 : s.headD 0 = 95 <;> have h4 := h3 <;> rw [e] at h4 <;> simp only [h1, h2, h3, h4] <;> simp
set_option maxRecDepth 20000 in
theorem numberLength_spec (s : Bs) (hs : s.length ≤ 8000) : Ctr Tryz.prog 30 [.str s] (fun r => r = .int .i64 (numLen s)) := by
 have hb := runP_le s
 refine Ctr.of_body Tryz.func30 rfl tys_ok (by kernel_rfl) ?_
 conv => whnf
 refine cd_sound tys_ok _ ?_
 conv => whnf
 refine ACall.of_spec (run_spec s hs) rfl fun r hr => ?_
 subst hr
 conv => whnf
 repeat' (refine And.intro (fun _ => ?_) (fun _ => ?_) <;> conv => whnf)
 all_goals (refine congrArg (AV.int IntKind.i64) ?_; rw [numLen_if]; split <;> simp_all <;> omega)
set_option maxRecDepth 20000 in
theorem nameLength_spec (s : Bs) (hs : s.length ≤ 8000) (h1 : 1 ≤ s.length) : Ctr Tryz.prog 31 [.str s] (fun r => r = .int .i64 (nameLen s)) := by
 have hb := runP_le s
 refine Ctr.of_body Tryz.func31 rfl tys_ok (by kernel_rfl) ?_
 conv => whnf
 refine cd_sound tys_ok _ ?_
 conv => whnf
 refine ACall.of_spec (run_spec s hs) rfl fun r hr => ?_
 subst hr
 conv => whnf
 have hg : s.getD (0 : Int).toNat 0 = s.headD 0 := by cases s <;> rfl
 repeat' (first | (refine And.intro ⟨by omega, by omega⟩ ?_; (conv => whnf); rw [hg]) | (refine And.intro (fun _ => ?_) (fun _ => ?_) <;> conv => whnf))
 all_goals (refine congrArg (AV.int IntKind.i64) ?_; rw [nameLen_if]; split <;> simp_all <;> omega)
theorem txt_step (s : Bs) (i : Nat) (hi : i < s.length) (h : i ≤ 201) : txt (202 - i) i (s.drop i) = bif decide (s[i].toNat = 34) then i + 1 else bif decide (s[i].toNat < 32) || decide (126 < s[i].toNat) then 0 else txt (202 - (i + 1)) (i + 1) (s.drop (i + 1)) := by
 rw [List.drop_eq_getElem_cons hi, show 202 - i = (202 - (i + 1)) + 1 by omega]
 rfl
theorem txt_nil (f i : Nat) : txt f i [] = 0 := by cases f <;> rfl
set_option maxRecDepth 20000 in
theorem textLength_spec (s : Bs) (hs : s.length ≤ 8000) (h1 : 1 ≤ s.length) : Ctr Tryz.prog 32 [.str s] (fun r => r = .int .i64 (txtLen s)) := by
 have hg : s.getD (0 : Int).toNat 0 = s.headD 0 := by cases s <;> rfl
 have ht : txtLen s = bif decide ((s.headD 0).toNat = 34) then txt (202 - 1) 1 (s.drop 1) else 0 := by cases s <;> rfl
 refine Ctr.of_body Tryz.func32 rfl tys_ok (by kernel_rfl) ?_
 conv => whnf
 refine cd_sound tys_ok _ ?_
 conv => whnf
 refine ⟨⟨by omega, by omega⟩, ?_⟩
 conv => whnf
 rw [hg]
 generalize s.headD 0 = c at *
 refine ⟨fun h2 => ?_, fun h2 => ?_⟩
 ·have h2 : ¬ c.toNat = 34 := by simp at h2; omega
  conv => whnf
  rw [ht, decide_eq_false h2]
  rfl
 ·have h2 : c.toNat = 34 := by simp at h2; omega
  rw [decide_eq_true h2, cond_true] at ht
  conv => whnf
  refine ACode.loopT (fun i : Nat => mk 35 [(0, .str s), (3, .int .i64 i)]) (fun _ => []) (fun i => 1 ≤ i ∧ i ≤ s.length ∧ i ≤ 202 ∧ txtLen s = txt (202 - i) i (s.drop i)) (fun i => s.length - i) ⟨1, ?_⟩ fun i hi => ?_
  ·conv => whnf
   repeat (refine And.intro ?_ ?_; (focus (first | rfl | (simp; done))); conv => whnf)
   exact ⟨h1, by omega, ht⟩
  ·obtain ⟨hi, hi1, hi2, he⟩ := hi
   refine cd_sound tys_ok _ ?_
   conv => whnf
   refine ⟨fun hlt => ?_, fun hge => ?_⟩
   ·have hlt : i < s.length := by simpa using hlt
    conv => whnf
    refine ⟨fun hle => ?_, fun hgt => ?_⟩
    ·have hle : i ≤ 201 := by simp at hle; omega
     rw [txt_step s i hlt hle] at he
     conv => whnf
     refine ⟨⟨by omega, by omega⟩, ?_⟩
     conv => whnf
     rw [getD_byte s i hlt]
     refine ⟨fun h3 => ?_, fun h3 => ?_⟩
     ·have h3 : s[i].toNat = 34 := by simp at h3; omega
      rw [decide_eq_true h3, cond_true] at he
      conv => whnf
      rw [he, Wr64 _ (by omega) (by omega)]
      rfl
     ·have h3 : ¬ s[i].toNat = 34 := by simp at h3; omega
      rw [decide_eq_false h3, cond_false] at he
      conv => whnf
      refine ⟨⟨by omega, by omega⟩, ?_⟩
      conv => whnf
      rw [getD_byte s i hlt]
      repeat' (first | (refine And.intro ⟨by omega, by omega⟩ ?_; (conv => whnf); rw [getD_byte s i hlt]) | (refine And.intro (fun _ => ?_) (fun _ => ?_) <;> conv => whnf))
      all_goals first
       | (refine ⟨i + 1, ?_⟩
          conv => whnf
          repeat (refine And.intro ?_ ?_; (focus (first | rfl | (simp; done) | ((rw [Wr64 _ (by omega) (by omega)]; omega); done))); conv => whnf)
          have hn : (decide (s[i].toNat < 32) || decide (126 < s[i].toNat)) = false := by simp_all <;> omega
          rw [hn, cond_false] at he
          exact ⟨⟨by omega, by omega, by omega, he⟩, by omega⟩)
       | (have hn : (decide (s[i].toNat < 32) || decide (126 < s[i].toNat)) = true := by simp_all <;> omega
          rw [hn, cond_true] at he
          rw [he]; rfl)
    ·have hgt : ¬ i ≤ 201 := by simp at hgt; omega
     have : i = 202 := by omega
     subst this
     conv => whnf
     rw [he]
     rfl
   ·have hge : s.length ≤ i := by simp at hge; omega
    rw [List.drop_eq_nil_of_le hge, txt_nil] at he
    conv => whnf
    rw [he]
    rfl
theorem idx_bd (c : UInt8) : ∀ l : Bs, -1 ≤ Lib.indexByte l c ∧ Lib.indexByte l c < l.length
 | [] => by simp [Lib.indexByte]
 | x :: l => by
  have ih := idx_bd c l
  unfold Lib.indexByte
  simp only [List.length_cons]
  split
  ·omega
  ·split <;> omega
theorem gap_true : ∀ l : Bs, gap true l = if Lib.indexByte l 10 = -1 then l.length else (Lib.indexByte l 10).toNat + gap false (l.drop (Lib.indexByte l 10).toNat)
 | [] => by simp [gap, Lib.indexByte]
 | b :: r => by
  have ih := gap_true r
  have hb := idx_bd 10 r
  unfold Lib.indexByte
  by_cases hc : b = 10
  ·subst hc
   simp [gap, blankB]
  ·have hn : ¬ b.toNat = 10 := fun h => hc (UInt8.toNat_inj.1 h)
   have hc' : (b == 10) = false := by simpa using hc
   rw [hc']
   simp only [gap, hn, decide_false, cond_false, Bool.false_eq_true, if_false]
   rw [ih]
   by_cases hi : Lib.indexByte r 10 = -1
   ·simp [hi]
   ·have hi' : (Lib.indexByte r 10 == -1) = false := by simpa using hi
    rw [hi', if_neg hi]
    simp only [Bool.false_eq_true, if_false]
    rw [if_neg (by omega), show (Lib.indexByte r 10 + 1).toNat = (Lib.indexByte r 10).toNat + 1 by omega]
    simp only [List.drop_succ_cons]
    omega
theorem gap_step (s : Bs) (k : Nat) (hk : k < s.length) : gap false (s.drop k) = bif blankB s[k] then gap false (s.drop (k + 1)) + 1 else bif decide (s[k].toNat = 37) then gap true (s.drop (k + 1)) + 1 else 0 := by
 rw [List.drop_eq_getElem_cons hk]; rfl
theorem idx_cons (b : UInt8) (r : Bs) (c : UInt8) : Lib.indexByte (b :: r) c = if b == c then 0 else if Lib.indexByte r c == -1 then -1 else Lib.indexByte r c + 1 := rfl
theorem gap_comment (s : Bs) (k : Nat) (hk : k < s.length) (h : s[k].toNat = 37) :
  (Lib.indexByte (s.drop k) 10 < 0 → gap false (s.drop k) = s.length - k) ∧ (0 ≤ Lib.indexByte (s.drop k) 10 → gap false (s.drop k) = (Lib.indexByte (s.drop k) 10).toNat + gap false (s.drop (k + (Lib.indexByte (s.drop k) 10).toNat)) ∧ k + (Lib.indexByte (s.drop k) 10).toNat ≤ s.length ∧ 1 ≤ (Lib.indexByte (s.drop k) 10).toNat) := by
 have hb : blankB s[k] = false := by simp [blankB, h]
 have hc : ¬ s[k] = 10 := fun e => by rw [e] at h; exact absurd h (by decide)
 have hc' : (s[k] == 10) = false := by simpa using hc
 have hg := gap_step s k hk
 rw [hb, decide_eq_true h, cond_false, cond_true, gap_true] at hg
 have hd : Lib.indexByte (s.drop k) 10 = if Lib.indexByte (s.drop (k + 1)) 10 = -1 then -1 else Lib.indexByte (s.drop (k + 1)) 10 + 1 := by
  rw [List.drop_eq_getElem_cons hk, idx_cons, hc']
  simp
 have hbd := idx_bd 10 (s.drop (k + 1))
 simp only [List.length_drop] at hbd
 by_cases hi : Lib.indexByte (s.drop (k + 1)) 10 = -1
 ·rw [if_pos hi] at hd hg
  refine ⟨fun _ => ?_, fun h0 => by omega⟩
  simp only [List.length_drop] at hg
  omega
 ·rw [if_neg hi] at hd hg
  refine ⟨fun h0 => by omega, fun _ => ?_⟩
  rw [hd]
  have e : (Lib.indexByte (s.drop (k + 1)) 10 + 1).toNat = (Lib.indexByte (s.drop (k + 1)) 10).toNat + 1 := by omega
  rw [e]
  rw [List.drop_drop] at hg
  rw [show k + ((Lib.indexByte (s.drop (k + 1)) 10).toNat + 1) = k + 1 + (Lib.indexByte (s.drop (k + 1)) 10).toNat by omega]
  omega
set_option maxRecDepth 20000 in
theorem skip_spec (s : Bs) (hs : s.length ≤ 8000) (p : Nat) (hp : p ≤ s.length) : Ctr Tryz.prog 34 [.str s, .int .i64 p] (fun r => r = .int .i64 ((p + gap false (s.drop p) : Nat) : Int)) := by
 refine Ctr.of_body Tryz.func34 rfl tys_ok (by kernel_rfl) ?_
 conv => whnf
 refine cd_sound tys_ok _ ?_
 conv => whnf
 refine ACode.loopT (fun k : Nat => mk 35 [(0, .str s), (1, .int .i64 k)]) (fun _ => []) (fun k => k ≤ s.length ∧ p + gap false (s.drop p) = k + gap false (s.drop k)) (fun k => s.length - k) ⟨p, ?_⟩ fun k hk => ?_
 ·conv => whnf
  repeat (refine And.intro ?_ ?_; (focus (first | rfl | (simp; done))); conv => whnf)
  exact ⟨hp, rfl⟩
 ·obtain ⟨hk, he⟩ := hk
  refine cd_sound tys_ok _ ?_
  conv => whnf
  refine ⟨fun hlt => ?_, fun hge => ?_⟩
  ·have hlt : k < s.length := by simpa using hlt
   conv => whnf
   refine ⟨⟨by omega, by omega⟩, ?_⟩
   conv => whnf
   rw [getD_byte s k hlt]
   have hs1 := gap_step s k hlt
   repeat' (first | (refine And.intro (fun _ => ?_) (fun _ => ?_) <;> conv => whnf) | fail)
   all_goals first
    | (exfalso; simp_all; done)
    | (refine ⟨k + 1, ?_⟩
       conv => whnf
       repeat (refine And.intro ?_ ?_; (focus (first | rfl | (simp; done) | ((rw [Wr64 _ (by omega) (by omega)]; omega); done))); conv => whnf)
       have hn : blankB s[k] = true := by simp_all [blankB] <;> omega
       rw [hn, cond_true] at hs1
       exact ⟨⟨by omega, by omega⟩, by omega⟩)
    | (have hn : blankB s[k] = false := by simp_all [blankB] <;> omega
       have h37 : ¬ s[k].toNat = 37 := by simp_all <;> omega
       rw [hn, decide_eq_false h37] at hs1
       simp only [cond_false] at hs1
       rw [he, hs1]; rfl)
    | (have h37 : s[k].toNat = 37 := by simp_all <;> omega
       obtain ⟨g1, g2⟩ := gap_comment s k hlt h37
       refine ⟨⟨by omega, by omega, by omega⟩, ?_⟩
       (conv => whnf)
       have e1 : List.drop ((k : Int)).toNat (List.take ((s.length : Int)).toNat s) = s.drop k := by simp
       rw [e1]
       refine ACall.of_spec (indexByte_spec (s.drop k) 10) rfl fun r hr => ?_
       subst hr
       have hbd := idx_bd 10 (s.drop k)
       simp only [List.length_drop] at hbd
       generalize Lib.indexByte (s.drop k) 10 = j at *
       (conv => whnf)
       refine ⟨fun hn => ?_, fun hn => ?_⟩
       · have hn : j < 0 := by simpa using hn
         (conv => whnf)
         rw [he, g1 hn, show k + (s.length - k) = s.length by omega]
       · have hn : 0 ≤ j := by simp at hn; omega
         obtain ⟨g3, g4, g5⟩ := g2 hn
         (conv => whnf)
         refine ⟨k + j.toNat, ?_⟩
         conv => whnf
         repeat (refine And.intro ?_ ?_; (focus (first | rfl | (simp; done) | ((rw [Wr64 _ (by omega) (by omega)]; omega); done))); conv => whnf)
         exact ⟨⟨by omega, by omega⟩, by omega⟩)
  ·have hge : s.length ≤ k := by simp at hge; omega
   have : k = s.length := by omega
   subst this
   simp only [List.drop_length, gap] at he
   conv => whnf
   rw [he]
   rfl
end Go.Proofs.YtmhlneeboefkgaaGreatDoor
