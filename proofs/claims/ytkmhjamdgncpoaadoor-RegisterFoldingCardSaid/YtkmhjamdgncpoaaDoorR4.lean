/-
  The reference: IsName.
-/
import Derived.Test.YtkmhjamdgncpoaaDoorR3
set_option linter.unusedVariables false
set_option linter.unusedSimpArgs false
namespace Go.Proofs.YtkmhjamdgncpoaaDoor
open Go.Av Go.Shelf Pl Go.RowKit
namespace Pl
/-- A name, scanned: so many words, so many bytes of the last one. -/
def scanN : Nat → Nat → Bs → Bool
  | w, n, [] => decide (0 < n) && decide (w ≤ 4)
  | w, n, c :: r => if c = 32 then (if n = 0 then false else scanN (w + 1) 0 r) else if nameC c then (if 20 ≤ n then false else scanN w (n + 1) r) else false
theorem scan_nil (w n : Nat) : scanN w n [] = (decide (0 < n) && decide (w ≤ 4)) := rfl
theorem scan_cons (w n : Nat) (c : UInt8) (r : Bs) : scanN w n (c :: r) = if c = 32 then (if n = 0 then false else scanN (w + 1) 0 r) else if nameC c then (if 20 ≤ n then false else scanN w (n + 1) r) else false := rfl
end Pl
theorem low_nat (c : UInt8) : ((lowC c).toNat = c.toNat + 32 ∧ 65 ≤ c.toNat ∧ c.toNat ≤ 90) ∨ ((lowC c).toNat = c.toNat ∧ ¬ (65 ≤ c.toNat ∧ c.toNat ≤ 90)) := by
  unfold lowC
  by_cases h : capB c = true
  · rw [if_pos h]
    have h2 : 65 ≤ c.toNat ∧ c.toNat ≤ 90 := by simpa [capB] using h
    refine .inl ⟨?_, h2⟩
    rw [UInt8.toNat_add]
    have : (32 : UInt8).toNat = 32 := rfl
    omega
  · rw [if_neg h]
    refine .inr ⟨rfl, fun h2 => h (by simpa [capB] using h2)⟩
theorem nameC_true (c : UInt8) : nameC c = true ↔ (65 ≤ c.toNat ∧ c.toNat ≤ 90) ∨ (97 ≤ c.toNat ∧ c.toNat ≤ 122) ∨ (48 ≤ c.toNat ∧ c.toNat ≤ 57) ∨ c.toNat = 45 ∨ c.toNat = 39 := by
  unfold nameC capB smallB digB
  simp only [Bool.or_eq_true, Bool.and_eq_true, decide_eq_true_eq]
  omega
theorem nameC_false (c : UInt8) : nameC c = false ↔ ¬ ((65 ≤ c.toNat ∧ c.toNat ≤ 90) ∨ (97 ≤ c.toNat ∧ c.toNat ≤ 122) ∨ (48 ≤ c.toNat ∧ c.toNat ≤ 57) ∨ c.toNat = 45 ∨ c.toNat = 39) := by
  rw [← nameC_true]
  simp
set_option maxRecDepth 100000 in
theorem rIsName_spec0 (s : Bs) (hs : s.length ≤ 1000) : Ctr Tryd.prog 54 [.str s] (fun r => r = .bool (scanN 1 0 s)) := by
  refine Ctr.of_body Tryd.func54 rfl tys_ok (by kernel_rfl) ?_
  conv => whnf
  repeat (first | refine ACode.seq ?_ | (refine ACode.s_reg tys_ok ?_; conv => whnf) | refine ACode.s_block ?_ | refine ACode.s_scope ?_ | (refine ACode.s_cond ?_; conv => whnf) | (refine ACode.s_exit ?_; conv => whnf) | (refine ACode.s_ret ?_; conv => whnf) | (refine ACode.s_skip ?_; conv => whnf) | (refine ACode.s_label ?_; conv => whnf))
  refine ACode.loopD (fun x : Nat × Nat × Nat => mk 55 [(0, .str s), (3, .int .i64 x.2.1), (4, .int .i64 x.2.2), (5, .int .i64 x.1)]) (fun _ => []) (fun x => x.1 ≤ s.length ∧ x.2.1 ≤ x.1 + 1 ∧ x.2.2 ≤ 20 ∧ scanN 1 0 s = scanN x.2.1 x.2.2 (s.drop x.1)) (fun x => s.length - x.1) (fun _ _ => ⟨rfl, trivial⟩) ⟨(0, 1, 0), ?_⟩ (fun _ => rfl) fun x hx => ?_
  · conv => whnf
    repeat (refine And.intro ?_ ?_; (focus (first | rfl | (simp; done))); conv => whnf)
    rfl
  · obtain ⟨k, w, n⟩ := x
    obtain ⟨hk, hw, hn, ha⟩ := hx
    simp only at hk hw hn ha
    repeat (first | refine ACode.seq ?_ | (refine ACode.s_reg tys_ok ?_; conv => whnf) | refine ACode.s_block ?_ | refine ACode.s_scope ?_ | (refine ACode.s_cond ?_; conv => whnf) | (refine ACode.s_exit ?_; conv => whnf) | (refine ACode.s_ret ?_; conv => whnf) | (refine ACode.s_skip ?_; conv => whnf) | (refine ACode.s_label ?_; conv => whnf))
    refine ⟨fun h => ?_, fun h => ?_⟩
    · have h : k < s.length := by simpa using h
      have hg : s.getD (k : Int).toNat 0 = s[k] := by simp [List.getD, h]
      have hw1 : Wr .i64 ((k : Int) + 1) = ((k + 1 : Nat) : Int) := by rw [Wr64 _ (by omega) (by omega)]; rfl
      have hw2 : Wr .i64 ((w : Int) + 1) = ((w + 1 : Nat) : Int) := by rw [Wr64 _ (by omega) (by omega)]; rfl
      have hw3 : Wr .i64 ((n : Int) + 1) = ((n + 1 : Nat) : Int) := by rw [Wr64 _ (by omega) (by omega)]; rfl
      rw [List.drop_eq_getElem_cons h, scan_cons] at ha
      conv => whnf
      repeat (first | refine ACode.seq ?_ | (refine ACode.s_reg tys_ok ?_; conv => whnf) | refine ACode.s_block ?_ | refine ACode.s_scope ?_ | (refine ACode.s_cond ?_; conv => whnf) | (refine ACode.s_exit ?_; conv => whnf) | (refine ACode.s_ret ?_; conv => whnf) | (refine ACode.s_skip ?_; conv => whnf) | (refine ACode.s_label ?_; conv => whnf))
      have hlow := low_nat s[k]
      repeat' (first | (refine And.intro (fun _ => ?_) (fun _ => ?_) <;> conv => whnf) | (refine And.intro ⟨by omega, by omega⟩ ?_; (conv => whnf); first | rw [hg]) | (refine ACall.of_spec (small_spec s[k]) rfl fun r hr => ?_; subst hr; conv => whnf) | refine ACode.seq ?_ | (refine ACode.s_reg tys_ok ?_; conv => whnf) | refine ACode.s_block ?_ | refine ACode.s_scope ?_ | (refine ACode.s_cond ?_; conv => whnf) | (refine ACode.s_exit ?_; conv => whnf) | (refine ACode.s_ret ?_; conv => whnf) | (refine ACode.s_skip ?_; conv => whnf) | (refine ACode.s_label ?_; conv => whnf))
      all_goals simp only [decide_eq_true_eq, decide_eq_false_iff_not, Bool.not_eq_true', Bool.not_eq_false', hw3] at *
      rotate_left
      · have h32 : s[k] = 32 := UInt8.toNat_inj.1 (by show s[k].toNat = 32; omega)
        have h0 : ¬ n = 0 := by omega
        refine ⟨(k + 1, w + 1, 0), ?_⟩
        conv => whnf
        repeat (refine And.intro ?_ ?_; (focus (first | rfl | (simp; done) | (first | exact hw1 | exact hw2; done))); conv => whnf)
        exact ⟨(show k + 1 ≤ s.length ∧ w + 1 ≤ k + 1 + 1 ∧ 0 ≤ 20 ∧ scanN 1 0 s = scanN (w + 1) 0 (s.drop (k + 1)) from ⟨by omega, by omega, by omega, by rw [ha, if_pos h32, if_neg h0]⟩), (show s.length - (k + 1) < s.length - k by omega)⟩
      all_goals first
        | (have h32 : s[k] = 32 := UInt8.toNat_inj.1 (by show s[k].toNat = 32; omega)
           have h0 : n = 0 := by omega
           rw [ha, if_pos h32, if_pos h0]
           done)
        | (have h32 : s[k] = 32 := UInt8.toNat_inj.1 (by show s[k].toNat = 32; omega)
           have h0 : ¬ n = 0 := by omega
           refine ⟨(k + 1, w + 1, 0), ?_⟩
           conv => whnf
           repeat (refine And.intro ?_ ?_; (focus (first | rfl | (simp; done) | (first | exact hw1 | exact hw2; done))); conv => whnf)
           exact ⟨(show k + 1 ≤ s.length ∧ w + 1 ≤ k + 1 + 1 ∧ 0 ≤ 20 ∧ scanN 1 0 s = scanN (w + 1) 0 (s.drop (k + 1)) from ⟨by omega, by omega, by omega, by rw [ha, if_pos h32, if_neg h0]⟩), (show s.length - (k + 1) < s.length - k by omega)⟩)
        | (have h32 : ¬ s[k] = 32 := fun e => by (have e2 : s[k].toNat = 32 := by (rw [e]; rfl)); omega
           have hb : nameC s[k] = false := by (rw [nameC_false]; omega)
           rw [ha, if_neg h32, if_neg (by rw [hb]; decide)]
           done)
        | (have h32 : ¬ s[k] = 32 := fun e => by (have e2 : s[k].toNat = 32 := by (rw [e]; rfl)); omega
           have hb : nameC s[k] = true := by (rw [nameC_true]; omega)
           have h0 : 20 ≤ n := by omega
           rw [ha, if_neg h32, if_pos hb, if_pos h0]
           done)
        | (have h32 : ¬ s[k] = 32 := fun e => by (have e2 : s[k].toNat = 32 := by (rw [e]; rfl)); omega
           have hb : nameC s[k] = true := by (rw [nameC_true]; omega)
           have h0 : ¬ 20 ≤ n := by omega
           refine ⟨(k + 1, w, n + 1), ?_⟩
           conv => whnf
           repeat (refine And.intro ?_ ?_; (focus (first | rfl | (simp; done) | (first | exact hw1 | (show Wr .i64 _ = _; rw [Wr64 _ (by omega) (by omega)]; rfl); done))); conv => whnf)
           exact ⟨(show k + 1 ≤ s.length ∧ w ≤ k + 1 + 1 ∧ n + 1 ≤ 20 ∧ scanN 1 0 s = scanN w (n + 1) (s.drop (k + 1)) from ⟨by omega, by omega, by omega, by rw [ha, if_neg h32, if_pos hb, if_neg h0]⟩), (show s.length - (k + 1) < s.length - k by omega)⟩)
        | trace_state
    · have h : k = s.length := by simp at h; omega
      rw [h, List.drop_length, scan_nil] at ha
      conv => whnf
      repeat (first | refine ACode.seq ?_ | (refine ACode.s_reg tys_ok ?_; conv => whnf) | refine ACode.s_block ?_ | refine ACode.s_scope ?_ | (refine ACode.s_cond ?_; conv => whnf) | (refine ACode.s_exit ?_; conv => whnf) | (refine ACode.s_ret ?_; conv => whnf) | (refine ACode.s_skip ?_; conv => whnf) | (refine ACode.s_label ?_; conv => whnf))
      rw [ha]
      repeat' (first | (refine And.intro (fun _ => ?_) (fun _ => ?_) <;> conv => whnf) | refine ACode.seq ?_ | (refine ACode.s_reg tys_ok ?_; conv => whnf) | refine ACode.s_block ?_ | refine ACode.s_scope ?_ | (refine ACode.s_cond ?_; conv => whnf) | (refine ACode.s_exit ?_; conv => whnf) | (refine ACode.s_ret ?_; conv => whnf) | (refine ACode.s_skip ?_; conv => whnf) | (refine ACode.s_label ?_; conv => whnf))
      · rename_i h1
        have h1 : 0 < n := by simp at h1; omega
        refine congrArg AV.bool ?_
        rw [decide_eq_true h1, Bool.true_and, Bool.eq_iff_iff]
        simp only [decide_eq_true_eq]
        omega
      · rename_i h1
        have h1 : ¬ 0 < n := by simp at h1; omega
        rw [decide_eq_false h1]
        rfl
namespace Pl
theorem split_ex (s : Bs) : ∃ y ys, splitB s = y :: ys := by
  have := splitB_pos s
  cases h : splitB s with
  | nil => rw [h] at this; simp at this
  | cons y ys => exact ⟨y, ys, rfl⟩
theorem scan_split : ∀ (s : Bs) (w n : Nat), n ≤ 20 → ∀ y ys, splitB s = y :: ys → scanN w n s = (decide (1 ≤ n + y.length) && decide (n + y.length ≤ 20) && y.all nameC && (ys.all wordW && decide (w + ys.length ≤ 4)))
  | [], w, n, hn, y, ys, h => by
    have h2 : splitB [] = [[]] := rfl
    rw [h2] at h
    simp only [List.cons.injEq] at h
    obtain ⟨rfl, rfl⟩ := h
    rw [scan_nil, Bool.eq_iff_iff]
    simp
    omega
  | c :: r, w, n, hn, y, ys, h => by
    obtain ⟨y', ys', hr⟩ := split_ex r
    rw [scan_cons]
    rw [splitB_cons, hr] at h
    by_cases hc : c = 32
    · rw [if_pos hc] at h ⊢
      simp only [List.cons.injEq] at h
      obtain ⟨rfl, rfl⟩ := h
      by_cases h0 : n = 0
      · rw [if_pos h0, h0]
        rfl
      · rw [if_neg h0, scan_split r (w + 1) 0 (by omega) y' ys' hr, Bool.eq_iff_iff]
        simp only [List.length_nil, List.all_nil, List.all_cons, wordW, Bool.and_eq_true, decide_eq_true_eq, List.length_cons]
        constructor
        · rintro ⟨⟨⟨a1, a2⟩, a3⟩, a4, a5⟩
          exact ⟨⟨⟨by omega, by omega⟩, trivial⟩, ⟨⟨⟨by omega, by omega⟩, a3⟩, a4⟩, by omega⟩
        · rintro ⟨_, ⟨⟨⟨a1, a2⟩, a3⟩, a4⟩, a5⟩
          exact ⟨⟨⟨by omega, by omega⟩, a3⟩, a4, by omega⟩
    · rw [if_neg hc] at h ⊢
      simp only [List.cons.injEq] at h
      obtain ⟨rfl, rfl⟩ := h
      by_cases hb : nameC c = true
      · rw [if_pos hb]
        by_cases h0 : 20 ≤ n
        · rw [if_pos h0, decide_eq_false (show ¬ n + (c :: y').length ≤ 20 by simp; omega)]
          simp
        · rw [if_neg h0, scan_split r w (n + 1) (by omega) y' _ hr]
          simp only [List.length_cons, List.all_cons, hb, Bool.true_and]
          rw [show n + 1 + y'.length = n + (y'.length + 1) by omega]
      · rw [if_neg hb]
        simp [hb]
theorem split_bound : ∀ (s : Bs) (y : Bs) (ys : List Bs), splitB s = y :: ys → (∀ w ∈ ys, w.length ≤ 20) → s.length ≤ y.length + 21 * ys.length
  | [], y, ys, h, _ => by simp
  | c :: r, y, ys, h, hw => by
    obtain ⟨y', ys', hr⟩ := split_ex r
    rw [splitB_cons, hr] at h
    by_cases hc : c = 32
    · rw [if_pos hc] at h
      simp only [List.cons.injEq] at h
      obtain ⟨rfl, rfl⟩ := h
      have h1 := split_bound r y' ys' hr fun w h => hw w (by simp [h])
      have h2 := hw y' (by simp)
      simp
      omega
    · rw [if_neg hc] at h
      simp only [List.cons.injEq] at h
      obtain ⟨rfl, rfl⟩ := h
      have h1 := split_bound r y' _ hr hw
      simp
      omega
theorem scan_name (s : Bs) : scanN 1 0 s = nameN s := by
  obtain ⟨y, ys, h⟩ := split_ex s
  rw [scan_split s 1 0 (by omega) y ys h]
  unfold nameN
  rw [h, Bool.eq_iff_iff]
  simp only [List.all_cons, wordW, Bool.and_eq_true, decide_eq_true_eq, List.length_cons]
  constructor
  · rintro ⟨⟨⟨a1, a2⟩, a3⟩, a4, a5⟩
    have hb := split_bound s y ys h fun w hw => by
      have := List.all_eq_true.1 a4 w hw
      simp only [wordW, Bool.and_eq_true, decide_eq_true_eq] at this
      exact this.1.2
    exact ⟨⟨by omega, by omega⟩, ⟨⟨by omega, by omega⟩, a3⟩, a4⟩
  · rintro ⟨⟨_, a5⟩, ⟨⟨a1, a2⟩, a3⟩, a4⟩
    exact ⟨⟨⟨by omega, by omega⟩, a3⟩, a4, by omega⟩
end Pl
theorem rIsName_spec (s : Bs) (hs : s.length ≤ 1000) : Ctr Tryd.prog 54 [.str s] (fun r => r = .bool (nameN s)) := by
  rw [← scan_name s]
  exact rIsName_spec0 s hs
end Go.Proofs.YtkmhjamdgncpoaaDoor
