/-
  The reference: several, Fits, decimal, Print.
-/
import Derived.Test.YtbodeejogdckgaaGreatDoorG4
import Derived.Test.YtbodeejogdckgaaGreatDoorP9
set_option linter.unusedVariables false
set_option linter.unusedSimpArgs false
namespace Go.Proofs.YtbodeejogdckgaaGreatDoor
open Go.Av Go.Shelf Pl
set_option maxRecDepth 100000 in
theorem rseveral_spec (s : Bs) (hs : s.length ≤ 900) : Ctr Tryz.prog 48 [.str s] (fun r => r = .bool (sevB s)) := by
  refine Ctr.of_body Tryz.func48 rfl tys_ok (by kernel_rfl) ?_
  conv => whnf
  repeat (first | refine ACode.seq ?_ | (refine ACode.s_reg tys_ok ?_; conv => whnf) | refine ACode.s_block ?_ | refine ACode.s_scope ?_ | (refine ACode.s_cond ?_; conv => whnf) | (refine ACode.s_exit ?_; conv => whnf) | (refine ACode.s_ret ?_; conv => whnf) | (refine ACode.s_skip ?_; conv => whnf) | (refine ACode.s_label ?_; conv => whnf))
  refine ACall.of_spec (rwords_spec s (by omega)) rfl fun r hr => ?_
  subst hr
  conv => whnf
  repeat (first | refine ACode.seq ?_ | (refine ACode.s_reg tys_ok ?_; conv => whnf) | refine ACode.s_block ?_ | refine ACode.s_scope ?_ | (refine ACode.s_cond ?_; conv => whnf) | (refine ACode.s_exit ?_; conv => whnf) | (refine ACode.s_ret ?_; conv => whnf) | (refine ACode.s_skip ?_; conv => whnf) | (refine ACode.s_label ?_; conv => whnf))
  have hwc := wordsW_count s
  have hwl : ∀ w ∈ wordsW s, w.length ≤ 1000 := fun w hw => by have := wordsW_len s w hw; omega
  have hsv : sevB s = ((wordsW s).all fitB && decide (1 ≤ (wordsW s).length) && decide ((wordsW s).length ≤ 4) && decide (Lib.join (wordsW s) [32] = s)) := rfl
  generalize wordsW s = W at *
  have hWl : (strs W).length = W.length := by simp
  refine ACode.loopD (fun i : Nat => mk 33 [(0, .str s), (2, .lit false), (3, strsA W), (4, .int .i64 i)]) (fun i => []) (fun i => i ≤ W.length ∧ (W.take i).all fitB = true) (fun i => W.length - i) (fun _ _ => ⟨rfl, trivial⟩) ⟨0, ?_⟩ (fun _ => rfl) fun i hi => ?_
  · conv => whnf
    repeat (refine And.intro ?_ ?_; (focus (first | rfl | (simp; done))); conv => whnf)
    rfl
  · obtain ⟨hi, ha⟩ := hi
    repeat (first | refine ACode.seq ?_ | (refine ACode.s_reg tys_ok ?_; conv => whnf) | refine ACode.s_block ?_ | refine ACode.s_scope ?_ | (refine ACode.s_cond ?_; conv => whnf) | (refine ACode.s_exit ?_; conv => whnf) | (refine ACode.s_ret ?_; conv => whnf) | (refine ACode.s_skip ?_; conv => whnf) | (refine ACode.s_label ?_; conv => whnf))
    refine ⟨fun h => ?_, fun h => ?_⟩
    · have h : i < W.length := by have := of_decide_eq_true h; omega
      have hw1 : Wr .i64 ((i : Int) + 1) = ((i + 1 : Nat) : Int) := by rw [Wr64 _ (by omega) (by omega)]; rfl
      conv => whnf
      repeat (first | refine ACode.seq ?_ | (refine ACode.s_reg tys_ok ?_; conv => whnf) | refine ACode.s_block ?_ | refine ACode.s_scope ?_ | (refine ACode.s_cond ?_; conv => whnf) | (refine ACode.s_exit ?_; conv => whnf) | (refine ACode.s_ret ?_; conv => whnf) | (refine ACode.s_skip ?_; conv => whnf) | (refine ACode.s_label ?_; conv => whnf))
      refine ⟨by omega, _, strs_get W i h, ?_⟩
      conv => whnf
      repeat (first | refine ACode.seq ?_ | (refine ACode.s_reg tys_ok ?_; conv => whnf) | refine ACode.s_block ?_ | refine ACode.s_scope ?_ | (refine ACode.s_cond ?_; conv => whnf) | (refine ACode.s_exit ?_; conv => whnf) | (refine ACode.s_ret ?_; conv => whnf) | (refine ACode.s_skip ?_; conv => whnf) | (refine ACode.s_label ?_; conv => whnf))
      repeat' (first | (refine And.intro (fun _ => ?_) (fun _ => ?_) <;> conv => whnf) | (refine ACall.of_spec (rfit_spec W[i] (by have := hwl _ (List.getElem_mem h); omega)) rfl fun r hr => ?_; subst hr; conv => whnf) | refine ACode.seq ?_ | (refine ACode.s_reg tys_ok ?_; conv => whnf) | refine ACode.s_block ?_ | refine ACode.s_scope ?_ | (refine ACode.s_cond ?_; conv => whnf) | (refine ACode.s_exit ?_; conv => whnf) | (refine ACode.s_ret ?_; conv => whnf) | (refine ACode.s_skip ?_; conv => whnf) | (refine ACode.s_label ?_; conv => whnf))
      · rename_i h5
        exact congrArg AV.bool (by rw [hsv, show W.all fitB = false from List.all_eq_false.2 ⟨W[i], List.getElem_mem h, by simpa using h5⟩]; rfl)
      · rename_i h5
        refine ⟨i + 1, ?_⟩
        conv => whnf
        repeat (refine And.intro ?_ ?_; (focus (first | rfl | (simp; done) | (first | exact hw1; done))); conv => whnf)
        exact ⟨⟨by omega, by rw [List.take_succ_eq_append_getElem h, List.all_append, ha]; simpa using h5⟩, by omega⟩
    · have h : i = W.length := by have := of_decide_eq_false h; omega
      rw [h, List.take_length] at ha
      rw [ha, Bool.true_and] at hsv
      conv => whnf
      repeat (first | refine ACode.seq ?_ | (refine ACode.s_reg tys_ok ?_; conv => whnf) | refine ACode.s_block ?_ | refine ACode.s_scope ?_ | (refine ACode.s_cond ?_; conv => whnf) | (refine ACode.s_exit ?_; conv => whnf) | (refine ACode.s_ret ?_; conv => whnf) | (refine ACode.s_skip ?_; conv => whnf) | (refine ACode.s_label ?_; conv => whnf))
      repeat' (first | (refine And.intro (fun _ => ?_) (fun _ => ?_) <;> conv => whnf) | (refine ACall.of_spec (rjoined_spec W (by omega) hwl) rfl fun r hr => ?_; subst hr; conv => whnf) | refine ACode.seq ?_ | (refine ACode.s_reg tys_ok ?_; conv => whnf) | refine ACode.s_block ?_ | refine ACode.s_scope ?_ | (refine ACode.s_cond ?_; conv => whnf) | (refine ACode.s_exit ?_; conv => whnf) | (refine ACode.s_ret ?_; conv => whnf) | (refine ACode.s_skip ?_; conv => whnf) | (refine ACode.s_label ?_; conv => whnf))
      · rename_i h1 h2
        refine congrArg AV.bool ?_
        rw [hsv, decide_eq_true (p := 1 ≤ W.length) (by have := of_decide_eq_true h1; omega), decide_eq_true (p := W.length ≤ 4) (by have := of_decide_eq_true h2; omega)]
        rw [Bool.eq_iff_iff]
        simp
      · rename_i h1 h2
        refine congrArg AV.bool ?_
        rw [hsv, decide_eq_false (p := W.length ≤ 4) (by have := of_decide_eq_false h2; omega)]
        simp
      · rename_i h1
        refine congrArg AV.bool ?_
        rw [hsv, decide_eq_false (p := 1 ≤ W.length) (by have := of_decide_eq_false h1; omega)]
        rfl
theorem hasN_zero (L : List Pt) (k : Int) : hasN L k = 0 ↔ ¬ hasK L k := by
  unfold hasN hasK
  rw [List.length_eq_zero_iff, List.filter_eq_nil_iff]
  constructor
  · rintro h ⟨p, hp, hk⟩
    exact h p hp (by simp [hk])
  · intro h p hp hk
    exact h ⟨p, hp, by simpa using hk⟩
theorem fits_zero {L : List Pt} (hg : goodK L) (a : Ad) : L.foldl clearP a = ad0 ↔ (hasN L 2 = 0 → a.nu = 0) ∧ (hasN L 3 = 0 → a.co = []) ∧ (hasN L 4 = 0 → a.st = []) ∧ (hasN L 5 = 0 → a.to = []) ∧ (hasN L 6 = 0 → a.pe = []) := by
  rw [clears_iff hg]
  simp only [hasN_zero]
  constructor
  · intro h
    exact ⟨h.nu, h.co, h.st, h.to, h.pe⟩
  · rintro ⟨h1, h2, h3, h4, h5⟩
    constructor <;> first | exact h1 | exact h2 | exact h3 | exact h4 | exact h5
set_option maxRecDepth 100000 in
set_option maxHeartbeats 4000000 in
theorem rfits_spec (f : Fm) (a : Ad) (hf : SmallF f) (hg : goodK f.lines.flatten) (ha : a.st.length ≤ 900 ∧ a.to.length ≤ 900 ∧ a.pe.length ≤ 900 ∧ a.co.length ≤ 900) : Ctr Tryz.prog 22 [f.v, a.v] (fun r => r = .bool (fitsF f a)) := by
  refine Ctr.of_body Tryz.func22 rfl tys_ok (by kernel_rfl) ?_
  conv => whnf
  refine ACode.seq ?_
  refine ACode.s_reg tys_ok ?_
  conv => whnf
  obtain ⟨a1, a2, a3, a4⟩ := ha
  have hfv : f.v = .agg [.str f.name, .sl 1 (f.lines.map ptsA)] := rfl
  have hrh := fun k => rhas_spec f k hf.l hf.l2
  have hrp := rparts_spec f hf.l hf.l2
  rw [hfv] at hrh hrp
  have hb : fitsF f a = (f.lines.flatten.all (fitP a) && decide (f.lines.flatten.foldl clearP a = ad0)) := rfl
  have hz := fits_zero hg a
  have hfl := flat_len' f.lines hf.l2
  have hfl2 : f.lines.flatten.length ≤ 1000000 := Nat.le_trans hfl (Nat.mul_le_mul_left 1000 hf.l)
  have hpt : ∀ p ∈ f.lines.flatten, p.t.length ≤ 1000 := fun p hp => by
    obtain ⟨l, hl, hp⟩ := List.mem_flatten.1 hp
    exact hf.t l hl p hp
  generalize f.lines.flatten = L at *
  have hmL : (L.map Pt.v).length = L.length := by simp
  have hbad : ¬ (L.foldl clearP a = ad0) → AV.bool false = .bool (fitsF f a) := fun h => by rw [hb, decide_eq_false h]; simp
  refine ACode.seq ?_
  refine ACode.cutK (fun _ : Unit => mk 115 [(2, .ptr 0 0), (3, .ptr 1 0)]) (fun _ => [.cells [.str f.name, .sl 1 (f.lines.map ptsA)], .cells (adA a)]) (fun _ => L.foldl clearP a = ad0) (fun _ _ => ⟨rfl, rfl, rfl, trivial⟩) (fun _ => Nat.le_refl _) ?_ fun _ h0 => ?_
  · repeat (first | refine ACode.seq ?_ | (refine ACode.s_reg tys_ok ?_; conv => whnf) | refine ACode.s_block ?_ | refine ACode.s_scope ?_ | (refine ACode.s_cond ?_; conv => whnf) | (refine ACode.s_exit ?_; conv => whnf) | (refine ACode.s_ret ?_; conv => whnf) | (refine ACode.s_skip ?_; conv => whnf) | (refine ACode.s_label ?_; conv => whnf))
    have hdne : ∀ s : Bs, (!s == (⟨#[]⟩ : ByteArray).data.toList) = !decide (s = []) := fun s => by
      rw [Bool.eq_iff_iff]
      simp
    have hd0 : ∀ k, decide (((hasN L k : Nat) : Int) = 0) = decide (hasN L k = 0) := fun k => by
      rw [Bool.eq_iff_iff]
      simp
    repeat' (first | (refine And.intro (fun _ => ?_) (fun _ => ?_) <;> conv => whnf) | (refine ACall.of_spec (hrh _) rfl fun r hr => ?_; subst hr; conv => whnf) | refine ACode.seq ?_ | (refine ACode.s_reg tys_ok ?_; conv => whnf) | refine ACode.s_block ?_ | refine ACode.s_scope ?_ | (refine ACode.s_cond ?_; conv => whnf) | (refine ACode.s_exit ?_; conv => whnf) | (refine ACode.s_ret ?_; conv => whnf) | (refine ACode.s_skip ?_; conv => whnf) | (refine ACode.s_label ?_; conv => whnf))
    all_goals try simp only [hdne, hd0] at *
    all_goals first | (refine hbad fun h => ?_; obtain ⟨z1, z2, z3, z4, z5⟩ := hz.1 h; simp_all; done) | skip
    all_goals refine ⟨(), ?_⟩
    all_goals (conv => whnf)
    all_goals repeat (refine And.intro ?_ ?_; (focus (first | rfl | (simp; done))); conv => whnf)
    all_goals (refine hz.2 ⟨fun h => ?_, fun h => ?_, fun h => ?_, fun h => ?_, fun h => ?_⟩ <;> clear hz hrh hrp hpt hbad hdne hd0 hfl hfl2 hmL hf hg hb hfv a1 a2 a3 a4 <;> simp_all)
  · have hb : fitsF f a = L.all (fitP a) := by rw [hb, decide_eq_true h0, Bool.and_true]
    conv => whnf
    repeat (first | refine ACode.seq ?_ | (refine ACode.s_reg tys_ok ?_; conv => whnf) | refine ACode.s_block ?_ | refine ACode.s_scope ?_ | (refine ACode.s_cond ?_; conv => whnf) | (refine ACode.s_exit ?_; conv => whnf) | (refine ACode.s_ret ?_; conv => whnf) | (refine ACode.s_skip ?_; conv => whnf) | (refine ACode.s_label ?_; conv => whnf))
    refine ACall.of_spec (hrp) rfl fun r hr => ?_
    subst hr
    conv => whnf
    repeat (first | refine ACode.seq ?_ | (refine ACode.s_reg tys_ok ?_; conv => whnf) | refine ACode.s_block ?_ | refine ACode.s_scope ?_ | (refine ACode.s_cond ?_; conv => whnf) | (refine ACode.s_exit ?_; conv => whnf) | (refine ACode.s_ret ?_; conv => whnf) | (refine ACode.s_skip ?_; conv => whnf) | (refine ACode.s_label ?_; conv => whnf))
    refine ACode.loopD (fun i : Nat => mk 115 [(2, .ptr 0 0), (3, .ptr 1 0), (5, ptsA L), (6, .int .i64 i)]) (fun _ => [.cells [.str f.name, .sl 1 (f.lines.map ptsA)], .cells (adA a)]) (fun i => i ≤ L.length ∧ (L.take i).all (fitP a) = true) (fun i => L.length - i) (fun _ _ => ⟨rfl, rfl, rfl, trivial⟩) ⟨0, ?_⟩ (fun _ => rfl) fun i hi => ?_
    · conv => whnf
      repeat (refine And.intro ?_ ?_; (focus (first | rfl | (simp; done))); conv => whnf)
      rfl
    · obtain ⟨hi, ha⟩ := hi
      repeat (first | refine ACode.seq ?_ | (refine ACode.s_reg tys_ok ?_; conv => whnf) | refine ACode.s_block ?_ | refine ACode.s_scope ?_ | (refine ACode.s_cond ?_; conv => whnf) | (refine ACode.s_exit ?_; conv => whnf) | (refine ACode.s_ret ?_; conv => whnf) | (refine ACode.s_skip ?_; conv => whnf) | (refine ACode.s_label ?_; conv => whnf))
      refine ⟨fun h => ?_, fun h => ?_⟩
      · have h : i < L.length := by have := of_decide_eq_true h; omega
        have hw1 : Wr .i64 ((i : Int) + 1) = ((i + 1 : Nat) : Int) := by rw [Wr64 _ (by omega) (by omega)]; rfl
        have htk : L.take (i + 1) = L.take i ++ [L[i]] := List.take_succ_eq_append_getElem h
        have hno : fitP a L[i] = false → AV.bool false = .bool (fitsF f a) := fun hx => by
          rw [hb, show L.all (fitP a) = false from List.all_eq_false.2 ⟨L[i], List.getElem_mem h, by simp [hx]⟩]
        have hgo : fitP a L[i] = true → (L.take (i + 1)).all (fitP a) = true := fun hx => by
          rw [htk, List.all_append, ha]
          simpa using hx
        have hk := hg L[i] (List.getElem_mem h)
        have hpl := hpt L[i] (List.getElem_mem h)
        have hget := pts_get L i h
        generalize L[i] = p at *
        conv => whnf
        repeat (first | refine ACode.seq ?_ | (refine ACode.s_reg tys_ok ?_; conv => whnf) | refine ACode.s_block ?_ | refine ACode.s_scope ?_ | (refine ACode.s_cond ?_; conv => whnf) | (refine ACode.s_exit ?_; conv => whnf) | (refine ACode.s_ret ?_; conv => whnf) | (refine ACode.s_skip ?_; conv => whnf) | (refine ACode.s_label ?_; conv => whnf))
        refine ⟨by omega, _, hget, ?_⟩
        conv => whnf
        repeat (first | refine ACode.seq ?_ | (refine ACode.s_reg tys_ok ?_; conv => whnf) | refine ACode.s_block ?_ | refine ACode.s_scope ?_ | (refine ACode.s_cond ?_; conv => whnf) | (refine ACode.s_exit ?_; conv => whnf) | (refine ACode.s_ret ?_; conv => whnf) | (refine ACode.s_skip ?_; conv => whnf) | (refine ACode.s_label ?_; conv => whnf))
        refine ⟨fun g2 => ?_, fun g2 => ?_⟩
        · have g2 : p.k = 2 := by simpa using g2
          have hfp : fitP a p = (decide (1 ≤ a.nu) && decide (a.nu ≤ 9999)) := by unfold fitP; rw [if_pos g2]
          conv => whnf
          repeat (first | refine ACode.seq ?_ | (refine ACode.s_reg tys_ok ?_; conv => whnf) | refine ACode.s_block ?_ | refine ACode.s_scope ?_ | (refine ACode.s_cond ?_; conv => whnf) | (refine ACode.s_exit ?_; conv => whnf) | (refine ACode.s_ret ?_; conv => whnf) | (refine ACode.s_skip ?_; conv => whnf) | (refine ACode.s_label ?_; conv => whnf))
          repeat' (first | (refine And.intro (fun _ => ?_) (fun _ => ?_) <;> conv => whnf) | refine ACode.seq ?_ | (refine ACode.s_reg tys_ok ?_; conv => whnf) | refine ACode.s_block ?_ | refine ACode.s_scope ?_ | (refine ACode.s_cond ?_; conv => whnf) | (refine ACode.s_exit ?_; conv => whnf) | (refine ACode.s_ret ?_; conv => whnf) | (refine ACode.s_skip ?_; conv => whnf) | (refine ACode.s_label ?_; conv => whnf))
          · rename_i g3 g4
            refine hno ?_
            rw [hfp, decide_eq_false (p := a.nu ≤ 9999) (by have := of_decide_eq_true g4; omega)]
            simp
          · rename_i g3 g4
            refine ⟨i + 1, ?_⟩
            conv => whnf
            repeat (refine And.intro ?_ ?_; (focus (first | rfl | (simp; done) | (first | exact hw1; done))); conv => whnf)
            exact ⟨⟨h, hgo (by rw [hfp, decide_eq_true (p := a.nu ≤ 9999) (by have := of_decide_eq_false g4; omega), decide_eq_true (p := 1 ≤ a.nu) (by have := of_decide_eq_false g3; omega)]; rfl)⟩, by omega⟩
          · rename_i g3
            refine hno ?_
            rw [hfp, decide_eq_false (p := 1 ≤ a.nu) (by have := of_decide_eq_true g3; omega)]
            rfl
        · have g2 : ¬ p.k = 2 := by simpa using g2
          conv => whnf
          repeat (first | refine ACode.seq ?_ | (refine ACode.s_reg tys_ok ?_; conv => whnf) | refine ACode.s_block ?_ | refine ACode.s_scope ?_ | (refine ACode.s_cond ?_; conv => whnf) | (refine ACode.s_exit ?_; conv => whnf) | (refine ACode.s_ret ?_; conv => whnf) | (refine ACode.s_skip ?_; conv => whnf) | (refine ACode.s_label ?_; conv => whnf))
          refine ⟨fun g3 => ?_, fun g3 => ?_⟩
          · have g3 : p.k = 3 := by simpa using g3
            have hfp : fitP a p = (matchB a.co p.t && decide (a.co = upB a.co)) := by unfold fitP; rw [if_neg g2, if_pos g3]
            conv => whnf
            repeat (first | refine ACode.seq ?_ | (refine ACode.s_reg tys_ok ?_; conv => whnf) | refine ACode.s_block ?_ | refine ACode.s_scope ?_ | (refine ACode.s_cond ?_; conv => whnf) | (refine ACode.s_exit ?_; conv => whnf) | (refine ACode.s_ret ?_; conv => whnf) | (refine ACode.s_skip ?_; conv => whnf) | (refine ACode.s_label ?_; conv => whnf))
            refine ACode.draw [] tys_ok (by kernel_rfl) (by kernel_rfl) ?_
            conv => whnf
            refine ⟨by omega, _, hget, ?_⟩
            conv => whnf
            refine ⟨_, ⟨rcode_spec a.co p.t (by omega), rfl⟩, ?_⟩
            conv => whnf
            refine ⟨fun g4 => ?_, fun g4 => ?_⟩
            · conv => whnf
              refine ⟨_, ⟨rupper_spec a.co (by omega), rfl⟩, ?_⟩
              conv => whnf
              refine ⟨fun g5 => ?_, fun g5 => ?_⟩
              · conv => whnf
                repeat (first | refine ACode.seq ?_ | (refine ACode.s_reg tys_ok ?_; conv => whnf) | refine ACode.s_block ?_ | refine ACode.s_scope ?_ | (refine ACode.s_cond ?_; conv => whnf) | (refine ACode.s_exit ?_; conv => whnf) | (refine ACode.s_ret ?_; conv => whnf) | (refine ACode.s_skip ?_; conv => whnf) | (refine ACode.s_label ?_; conv => whnf))
                repeat' (first | (refine And.intro (fun _ => ?_) (fun _ => ?_) <;> conv => whnf) | refine ACode.seq ?_ | (refine ACode.s_reg tys_ok ?_; conv => whnf) | refine ACode.s_block ?_ | refine ACode.s_scope ?_ | (refine ACode.s_cond ?_; conv => whnf) | (refine ACode.s_exit ?_; conv => whnf) | (refine ACode.s_ret ?_; conv => whnf) | (refine ACode.s_skip ?_; conv => whnf) | (refine ACode.s_label ?_; conv => whnf))
                exact hno (by rw [hfp, decide_eq_false (p := a.co = upB a.co) (fun e => by rw [← e] at g5; simp at g5)]; simp)
              · conv => whnf
                repeat (first | refine ACode.seq ?_ | (refine ACode.s_reg tys_ok ?_; conv => whnf) | refine ACode.s_block ?_ | refine ACode.s_scope ?_ | (refine ACode.s_cond ?_; conv => whnf) | (refine ACode.s_exit ?_; conv => whnf) | (refine ACode.s_ret ?_; conv => whnf) | (refine ACode.s_skip ?_; conv => whnf) | (refine ACode.s_label ?_; conv => whnf))
                repeat' (first | (refine And.intro (fun _ => ?_) (fun _ => ?_) <;> conv => whnf) | refine ACode.seq ?_ | (refine ACode.s_reg tys_ok ?_; conv => whnf) | refine ACode.s_block ?_ | refine ACode.s_scope ?_ | (refine ACode.s_cond ?_; conv => whnf) | (refine ACode.s_exit ?_; conv => whnf) | (refine ACode.s_ret ?_; conv => whnf) | (refine ACode.s_skip ?_; conv => whnf) | (refine ACode.s_label ?_; conv => whnf))
                refine ⟨i + 1, ?_⟩
                conv => whnf
                repeat (refine And.intro ?_ ?_; (focus (first | rfl | (simp; done) | (first | exact hw1; done))); conv => whnf)
                exact ⟨⟨h, hgo (by rw [hfp, g4, decide_eq_true (p := a.co = upB a.co) (by simp at g5; exact g5.symm)]; rfl)⟩, by omega⟩
            · conv => whnf
              repeat (first | refine ACode.seq ?_ | (refine ACode.s_reg tys_ok ?_; conv => whnf) | refine ACode.s_block ?_ | refine ACode.s_scope ?_ | (refine ACode.s_cond ?_; conv => whnf) | (refine ACode.s_exit ?_; conv => whnf) | (refine ACode.s_ret ?_; conv => whnf) | (refine ACode.s_skip ?_; conv => whnf) | (refine ACode.s_label ?_; conv => whnf))
              repeat' (first | (refine And.intro (fun _ => ?_) (fun _ => ?_) <;> conv => whnf) | refine ACode.seq ?_ | (refine ACode.s_reg tys_ok ?_; conv => whnf) | refine ACode.s_block ?_ | refine ACode.s_scope ?_ | (refine ACode.s_cond ?_; conv => whnf) | (refine ACode.s_exit ?_; conv => whnf) | (refine ACode.s_ret ?_; conv => whnf) | (refine ACode.s_skip ?_; conv => whnf) | (refine ACode.s_label ?_; conv => whnf))
              exact hno (by rw [hfp, g4]; rfl)
          · have g3 : ¬ p.k = 3 := by simpa using g3
            conv => whnf
            repeat (first | refine ACode.seq ?_ | (refine ACode.s_reg tys_ok ?_; conv => whnf) | refine ACode.s_block ?_ | refine ACode.s_scope ?_ | (refine ACode.s_cond ?_; conv => whnf) | (refine ACode.s_exit ?_; conv => whnf) | (refine ACode.s_ret ?_; conv => whnf) | (refine ACode.s_skip ?_; conv => whnf) | (refine ACode.s_label ?_; conv => whnf))
            repeat' (first | (refine And.intro (fun _ => ?_) (fun _ => ?_) <;> conv => whnf) | (refine ACall.of_spec (rseveral_spec _ (by first | exact a1 | exact a2 | exact a3)) rfl fun r hr => ?_; subst hr; conv => whnf) | refine ACode.seq ?_ | (refine ACode.s_reg tys_ok ?_; conv => whnf) | refine ACode.s_block ?_ | refine ACode.s_scope ?_ | (refine ACode.s_cond ?_; conv => whnf) | (refine ACode.s_exit ?_; conv => whnf) | (refine ACode.s_ret ?_; conv => whnf) | (refine ACode.s_skip ?_; conv => whnf) | (refine ACode.s_label ?_; conv => whnf))
            · rename_i h4 h5
              have h4 : p.k = 4 := by simpa using h4
              exact hno (by unfold fitP; rw [h4, ← sevB_eq]; simpa using h5)
            · rename_i h4 h5
              have h4 : p.k = 4 := by simpa using h4
              refine ⟨i + 1, ?_⟩
              conv => whnf
              repeat (refine And.intro ?_ ?_; (focus (first | rfl | (simp; done) | (first | exact hw1; done))); conv => whnf)
              exact ⟨⟨h, hgo (by unfold fitP; rw [h4, ← sevB_eq]; simpa using h5)⟩, by omega⟩
            · rename_i h4 h5 h6
              have h5 : p.k = 5 := by simpa using h5
              exact hno (by unfold fitP; rw [h5, ← sevB_eq a.to]; simpa using h6)
            · rename_i h4 h5 h6
              have h5 : p.k = 5 := by simpa using h5
              refine ⟨i + 1, ?_⟩
              conv => whnf
              repeat (refine And.intro ?_ ?_; (focus (first | rfl | (simp; done) | (first | exact hw1; done))); conv => whnf)
              exact ⟨⟨h, hgo (by unfold fitP; rw [h5, ← sevB_eq a.to]; simpa using h6)⟩, by omega⟩
            · rename_i h4 h5 h6 h7
              have h6 : p.k = 6 := by simpa using h6
              exact hno (by unfold fitP; rw [h6, ← sevB_eq a.pe]; simpa using h7)
            · rename_i h4 h5 h6 h7
              have h6 : p.k = 6 := by simpa using h6
              refine ⟨i + 1, ?_⟩
              conv => whnf
              repeat (refine And.intro ?_ ?_; (focus (first | rfl | (simp; done) | (first | exact hw1; done))); conv => whnf)
              exact ⟨⟨h, hgo (by unfold fitP; rw [h6, ← sevB_eq a.pe]; simpa using h7)⟩, by omega⟩
            · rename_i h4 h5 h6
              refine ⟨i + 1, ?_⟩
              conv => whnf
              repeat (refine And.intro ?_ ?_; (focus (first | rfl | (simp; done) | (first | exact hw1; done))); conv => whnf)
              exact ⟨⟨h, hgo (by unfold fitP; simp at h4 h5 h6; simp [g2, g3, h4, h5, h6])⟩, by omega⟩
      · have h : i = L.length := by have := of_decide_eq_false h; omega
        rw [h, List.take_length] at ha
        conv => whnf
        repeat (first | refine ACode.seq ?_ | (refine ACode.s_reg tys_ok ?_; conv => whnf) | refine ACode.s_block ?_ | refine ACode.s_scope ?_ | (refine ACode.s_cond ?_; conv => whnf) | (refine ACode.s_exit ?_; conv => whnf) | (refine ACode.s_ret ?_; conv => whnf) | (refine ACode.s_skip ?_; conv => whnf) | (refine ACode.s_label ?_; conv => whnf))
        rw [hb, ha]
end Go.Proofs.YtbodeejogdckgaaGreatDoor
