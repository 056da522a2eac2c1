/-
  hasName.
-/
import Derived.Test.YtkmhjamdgncpoaaDoorF2
set_option linter.unusedVariables false
set_option linter.unusedSimpArgs false
namespace Go.Proofs.YtkmhjamdgncpoaaDoor
open Go.Av Go.Shelf Pl Go.RowKit
theorem fold_spec (b : UInt8) : Ctr Tryd.prog 37 [.int .u8 b.toNat] (fun r => r = .int .u8 (lowC b).toNat) := by
  refine Ctr.of_body Tryd.func37 rfl tys_ok (by kernel_rfl) ?_
  conv => whnf
  repeat (first | refine ACode.seq ?_ | (refine ACode.s_reg tys_ok ?_; conv => whnf) | refine ACode.s_block ?_ | refine ACode.s_scope ?_ | (refine ACode.s_cond ?_; conv => whnf) | (refine ACode.s_exit ?_; conv => whnf) | (refine ACode.s_ret ?_; conv => whnf) | (refine ACode.s_skip ?_; conv => whnf) | (refine ACode.s_label ?_; conv => whnf))
  repeat' (first | (refine And.intro (fun _ => ?_) (fun _ => ?_) <;> conv => whnf) | (refine ACall.of_spec (isCapital_spec b) rfl fun r hr => ?_; subst hr; conv => whnf) | refine ACode.seq ?_ | (refine ACode.s_reg tys_ok ?_; conv => whnf) | refine ACode.s_block ?_ | refine ACode.s_scope ?_ | (refine ACode.s_cond ?_; conv => whnf) | (refine ACode.s_exit ?_; conv => whnf) | (refine ACode.s_ret ?_; conv => whnf) | (refine ACode.s_skip ?_; conv => whnf) | (refine ACode.s_label ?_; conv => whnf))
  · rename_i h
    have h2 : 65 ≤ b.toNat ∧ b.toNat ≤ 90 := by simpa [capB] using h
    refine congrArg (AV.int IntKind.u8) ?_
    unfold lowC
    rw [if_pos h, UInt8.toNat_add]
    have e1 : Wr .u8 ((b.toNat : Int) - 65) = (b.toNat : Int) - 65 := WrU8 _ (by omega) (by omega)
    rw [e1, WrU8 _ (by omega) (by omega)]
    have : (32 : UInt8).toNat = 32 := rfl
    omega
  · rename_i h
    unfold lowC
    rw [if_neg (by simp [h])]
theorem low_get {a b : Bs} (hl : a.length = b.length) : eqF a b = true ↔ ∀ (i : Nat) (h : i < a.length), lowC a[i] = lowC (b[i]'(by omega)) := by
  unfold eqF
  rw [decide_eq_true_eq]
  constructor
  · intro h i hi
    have := congrArg (·[i]?) h
    simpa [lowB, hi, show i < b.length by omega] using this
  · intro h
    refine List.ext_getElem (by simp [lowB, hl]) fun i h1 h2 => ?_
    simpa [lowB] using h i (by simpa [lowB] using h1)
theorem eqF_len {a b : Bs} (h : a.length ≠ b.length) : eqF a b = false := by
  unfold eqF
  refine decide_eq_false fun e => h ?_
  have := congrArg List.length e
  simpa [lowB] using this
set_option maxRecDepth 100000 in
theorem same_spec (n t : Bs) (hn : n.length ≤ 1000000) : Ctr Tryd.prog 39 [.str n, .at_ [.str t], .at_ [.fn 37 []]] (fun r => r = .bool (eqF n t)) := by
  refine Ctr.of_body Tryd.func39 rfl tys_ok (by kernel_rfl) ?_
  conv => whnf
  repeat (first | refine ACode.seq ?_ | (refine ACode.s_reg tys_ok ?_; conv => whnf) | refine ACode.s_block ?_ | refine ACode.s_scope ?_ | (refine ACode.s_cond ?_; conv => whnf) | (refine ACode.s_exit ?_; conv => whnf) | (refine ACode.s_ret ?_; conv => whnf) | (refine ACode.s_skip ?_; conv => whnf) | (refine ACode.s_label ?_; conv => whnf))
  refine ⟨fun h => ?_, fun h => ?_⟩
  · have h : n.length ≠ t.length := by simp at h; omega
    conv => whnf
    repeat (first | refine ACode.seq ?_ | (refine ACode.s_reg tys_ok ?_; conv => whnf) | refine ACode.s_block ?_ | refine ACode.s_scope ?_ | (refine ACode.s_cond ?_; conv => whnf) | (refine ACode.s_exit ?_; conv => whnf) | (refine ACode.s_ret ?_; conv => whnf) | (refine ACode.s_skip ?_; conv => whnf) | (refine ACode.s_label ?_; conv => whnf))
    rw [eqF_len h]
  · have h : n.length = t.length := by simp at h; omega
    have hlg := low_get h
    conv => whnf
    repeat (first | refine ACode.seq ?_ | (refine ACode.s_reg tys_ok ?_; conv => whnf) | refine ACode.s_block ?_ | refine ACode.s_scope ?_ | (refine ACode.s_cond ?_; conv => whnf) | (refine ACode.s_exit ?_; conv => whnf) | (refine ACode.s_ret ?_; conv => whnf) | (refine ACode.s_skip ?_; conv => whnf) | (refine ACode.s_label ?_; conv => whnf))
    refine ACode.loopD (fun k : Nat => mk 30 [(0, .str n), (1, .at_ [.str t]), (2, .at_ [.fn 37 []]), (4, .lit false), (13, .sl 1 (bytesA n)), (14, .int .i64 n.length), (15, .int .i64 k)]) (fun _ => []) (fun k => k ≤ n.length ∧ ∀ (i : Nat) (hi : i < n.length), i < k → lowC n[i] = lowC (t[i]'(by omega))) (fun k => n.length - k) (fun _ _ => ⟨rfl, trivial⟩) ⟨0, ?_⟩ (fun _ => rfl) fun k hk => ?_
    · conv => whnf
      repeat (refine And.intro ?_ ?_; (focus (first | rfl | (simp; done))); conv => whnf)
      exact fun i hi h => by omega
    · obtain ⟨hk, ha⟩ := hk
      repeat (first | refine ACode.seq ?_ | (refine ACode.s_reg tys_ok ?_; conv => whnf) | refine ACode.s_block ?_ | refine ACode.s_scope ?_ | (refine ACode.s_cond ?_; conv => whnf) | (refine ACode.s_exit ?_; conv => whnf) | (refine ACode.s_ret ?_; conv => whnf) | (refine ACode.s_skip ?_; conv => whnf) | (refine ACode.s_label ?_; conv => whnf))
      refine ⟨fun g => ?_, fun g => ?_⟩
      · have g : k < n.length := by simpa using g
        have hw1 : Wr .i64 ((k : Int) + 1) = ((k + 1 : Nat) : Int) := by rw [Wr64 _ (by omega) (by omega)]; rfl
        conv => whnf
        repeat (first | refine ACode.seq ?_ | (refine ACode.s_reg tys_ok ?_; conv => whnf) | refine ACode.s_block ?_ | refine ACode.s_scope ?_ | (refine ACode.s_cond ?_; conv => whnf) | (refine ACode.s_exit ?_; conv => whnf) | (refine ACode.s_ret ?_; conv => whnf) | (refine ACode.s_skip ?_; conv => whnf) | (refine ACode.s_label ?_; conv => whnf))
        refine ⟨by omega, _, bytes_get n k g, ?_⟩
        conv => whnf
        repeat (first | refine ACode.seq ?_ | (refine ACode.s_reg tys_ok ?_; conv => whnf) | refine ACode.s_block ?_ | refine ACode.s_scope ?_ | (refine ACode.s_cond ?_; conv => whnf) | (refine ACode.s_exit ?_; conv => whnf) | (refine ACode.s_ret ?_; conv => whnf) | (refine ACode.s_skip ?_; conv => whnf) | (refine ACode.s_label ?_; conv => whnf))
        have hgt : t.getD (k : Int).toNat 0 = t[k]'(by omega) := by simp [List.getD, show k < t.length by omega]
        refine ACode.draw [] tys_ok (by kernel_rfl) (by kernel_rfl) ?_
        conv => whnf
        refine ⟨_, ⟨fold_spec n[k], rfl⟩, ?_⟩
        conv => whnf
        refine ⟨⟨by omega, by omega⟩, ?_⟩
        rw [hgt]
        conv => whnf
        refine ⟨_, ⟨fold_spec (t[k]'(by omega)), rfl⟩, ?_⟩
        conv => whnf
        refine ⟨fun g2 => ?_, fun g2 => ?_⟩
        · have g2 : ¬ lowC n[k] = lowC (t[k]'(by omega)) := fun e => by rw [e] at g2; simp at g2
          conv => whnf
          repeat (first | refine ACode.seq ?_ | (refine ACode.s_reg tys_ok ?_; conv => whnf) | refine ACode.s_block ?_ | refine ACode.s_scope ?_ | (refine ACode.s_cond ?_; conv => whnf) | (refine ACode.s_exit ?_; conv => whnf) | (refine ACode.s_ret ?_; conv => whnf) | (refine ACode.s_skip ?_; conv => whnf) | (refine ACode.s_label ?_; conv => whnf))
          repeat' (first | (refine And.intro (fun _ => ?_) (fun _ => ?_) <;> conv => whnf) | refine ACode.seq ?_ | (refine ACode.s_reg tys_ok ?_; conv => whnf) | refine ACode.s_block ?_ | refine ACode.s_scope ?_ | (refine ACode.s_cond ?_; conv => whnf) | (refine ACode.s_exit ?_; conv => whnf) | (refine ACode.s_ret ?_; conv => whnf) | (refine ACode.s_skip ?_; conv => whnf) | (refine ACode.s_label ?_; conv => whnf))
          refine congrArg AV.bool ?_
          cases hq : eqF n t with
          | false => rfl
          | true => exact absurd (hlg.1 hq k g) g2
        · have g2 : lowC n[k] = lowC (t[k]'(by omega)) := by
            have g3 : ((lowC n[k]).toNat : Int) = (lowC (t[k]'(by omega))).toNat := by simpa using g2
            exact UInt8.toNat_inj.1 (by omega)
          conv => whnf
          repeat (first | refine ACode.seq ?_ | (refine ACode.s_reg tys_ok ?_; conv => whnf) | refine ACode.s_block ?_ | refine ACode.s_scope ?_ | (refine ACode.s_cond ?_; conv => whnf) | (refine ACode.s_exit ?_; conv => whnf) | (refine ACode.s_ret ?_; conv => whnf) | (refine ACode.s_skip ?_; conv => whnf) | (refine ACode.s_label ?_; conv => whnf))
          repeat' (first | (refine And.intro (fun _ => ?_) (fun _ => ?_) <;> conv => whnf) | refine ACode.seq ?_ | (refine ACode.s_reg tys_ok ?_; conv => whnf) | refine ACode.s_block ?_ | refine ACode.s_scope ?_ | (refine ACode.s_cond ?_; conv => whnf) | (refine ACode.s_exit ?_; conv => whnf) | (refine ACode.s_ret ?_; conv => whnf) | (refine ACode.s_skip ?_; conv => whnf) | (refine ACode.s_label ?_; conv => whnf))
          refine ⟨k + 1, ?_⟩
          conv => whnf
          repeat (refine And.intro ?_ ?_; (focus (first | rfl | (simp; done) | (first | exact hw1; done))); conv => whnf)
          refine ⟨⟨g, fun i hi h2 => ?_⟩, by omega⟩
          rcases Nat.lt_or_ge i k with h3 | h3
          · exact ha i hi h3
          · obtain rfl : i = k := by omega
            exact g2
      · have g : k = n.length := by simp at g; omega
        conv => whnf
        repeat (first | refine ACode.seq ?_ | (refine ACode.s_reg tys_ok ?_; conv => whnf) | refine ACode.s_block ?_ | refine ACode.s_scope ?_ | (refine ACode.s_cond ?_; conv => whnf) | (refine ACode.s_exit ?_; conv => whnf) | (refine ACode.s_ret ?_; conv => whnf) | (refine ACode.s_skip ?_; conv => whnf) | (refine ACode.s_label ?_; conv => whnf))
        rw [hlg.2 fun i hi => ha i hi (by omega)]
/-- Is one of some texts such that a function says so? -/
theorem indexFunc_spec (l : List Bs) (g : Nat) (cap : List AV) (p : Bs → Bool) (hl : l.length ≤ 100000) (hc : closeds cap = true) (hw : withins [] cap = true) (hp : ∀ x ∈ l, Ctr Tryd.prog g (.str x :: cap) (fun r => r = .bool (p x))) :
    Ctr Tryd.prog 53 [.sl 1 (strs l), .fn g cap] (fun r => ∃ i : Int, r = .int .i64 i ∧ decide (0 ≤ i) = l.any p) := by
  refine Ctr.of_body Tryd.func53 rfl tys_ok (by kernel_rfl) ?_
  conv => whnf
  repeat (first | refine ACode.seq ?_ | (refine ACode.s_reg tys_ok ?_; conv => whnf) | refine ACode.s_block ?_ | refine ACode.s_scope ?_ | (refine ACode.s_cond ?_; conv => whnf) | (refine ACode.s_exit ?_; conv => whnf) | (refine ACode.s_ret ?_; conv => whnf) | (refine ACode.s_skip ?_; conv => whnf) | (refine ACode.s_label ?_; conv => whnf))
  have hsl := strs_len l
  refine ACode.loopD (fun k : Nat => mk 19 [(0, .sl 1 (strs l)), (1, .fn g cap), (7, .int .i64 l.length), (8, .int .i64 k)]) (fun _ => []) (fun k => k ≤ l.length ∧ (l.take k).any p = false) (fun k => l.length - k) (fun _ _ => ⟨by show (withins [] cap && _) = true; rw [hw]; rfl, trivial⟩) ⟨0, ?_⟩ (fun _ => rfl) fun k hk => ?_
  · conv => whnf
    repeat (refine And.intro ?_ ?_; (focus (first | rfl | (simp; done))); conv => whnf)
    rfl
  · obtain ⟨hk, ha⟩ := hk
    repeat (first | refine ACode.seq ?_ | (refine ACode.s_reg tys_ok ?_; conv => whnf) | refine ACode.s_block ?_ | refine ACode.s_scope ?_ | (refine ACode.s_cond ?_; conv => whnf) | (refine ACode.s_exit ?_; conv => whnf) | (refine ACode.s_ret ?_; conv => whnf) | (refine ACode.s_skip ?_; conv => whnf) | (refine ACode.s_label ?_; conv => whnf))
    refine ⟨fun h => ?_, fun h => ?_⟩
    · have h : k < l.length := by simpa using h
      have hw1 : Wr .i64 ((k : Int) + 1) = ((k + 1 : Nat) : Int) := by rw [Wr64 _ (by omega) (by omega)]; rfl
      conv => whnf
      repeat (first | refine ACode.seq ?_ | (refine ACode.s_reg tys_ok ?_; conv => whnf) | refine ACode.s_block ?_ | refine ACode.s_scope ?_ | (refine ACode.s_cond ?_; conv => whnf) | (refine ACode.s_exit ?_; conv => whnf) | (refine ACode.s_ret ?_; conv => whnf) | (refine ACode.s_skip ?_; conv => whnf) | (refine ACode.s_label ?_; conv => whnf))
      refine ⟨by omega, _, strs_get l k h, ?_⟩
      conv => whnf
      repeat (first | refine ACode.seq ?_ | (refine ACode.s_reg tys_ok ?_; conv => whnf) | refine ACode.s_block ?_ | refine ACode.s_scope ?_ | (refine ACode.s_cond ?_; conv => whnf) | (refine ACode.s_exit ?_; conv => whnf) | (refine ACode.s_ret ?_; conv => whnf) | (refine ACode.s_skip ?_; conv => whnf) | (refine ACode.s_label ?_; conv => whnf))
      refine ACall.of_spec (hp l[k] (List.getElem_mem h)) (by simp [closeds, closed, hc]) fun r hr => ?_
      subst hr
      conv => whnf
      repeat (first | refine ACode.seq ?_ | (refine ACode.s_reg tys_ok ?_; conv => whnf) | refine ACode.s_block ?_ | refine ACode.s_scope ?_ | (refine ACode.s_cond ?_; conv => whnf) | (refine ACode.s_exit ?_; conv => whnf) | (refine ACode.s_ret ?_; conv => whnf) | (refine ACode.s_skip ?_; conv => whnf) | (refine ACode.s_label ?_; conv => whnf))
      repeat' (first | (refine And.intro (fun _ => ?_) (fun _ => ?_) <;> conv => whnf) | refine ACode.seq ?_ | (refine ACode.s_reg tys_ok ?_; conv => whnf) | refine ACode.s_block ?_ | refine ACode.s_scope ?_ | (refine ACode.s_cond ?_; conv => whnf) | (refine ACode.s_exit ?_; conv => whnf) | (refine ACode.s_ret ?_; conv => whnf) | (refine ACode.s_skip ?_; conv => whnf) | (refine ACode.s_label ?_; conv => whnf))
      · rename_i h5
        exact ⟨_, rfl, by rw [show l.any p = true from List.any_eq_true.2 ⟨l[k], List.getElem_mem h, h5⟩]; simp⟩
      · rename_i h5
        refine ⟨k + 1, ?_⟩
        conv => whnf
        repeat (refine And.intro ?_ ?_; (focus (first | rfl | (simp; done) | (first | exact hw1; done))); conv => whnf)
        exact ⟨⟨by omega, by rw [List.take_succ_eq_append_getElem h, List.any_append, ha]; simpa using h5⟩, by omega⟩
    · have h : k = l.length := by simp at h; omega
      rw [h, List.take_length] at ha
      conv => whnf
      repeat (first | refine ACode.seq ?_ | (refine ACode.s_reg tys_ok ?_; conv => whnf) | refine ACode.s_block ?_ | refine ACode.s_scope ?_ | (refine ACode.s_cond ?_; conv => whnf) | (refine ACode.s_exit ?_; conv => whnf) | (refine ACode.s_ret ?_; conv => whnf) | (refine ACode.s_skip ?_; conv => whnf) | (refine ACode.s_label ?_; conv => whnf))
      exact ⟨_, rfl, by rw [ha]; decide⟩
set_option maxRecDepth 100000 in
theorem containsFunc_spec (l : List Bs) (g : Nat) (cap : List AV) (p : Bs → Bool) (hl : l.length ≤ 100000) (hc : closeds cap = true) (hw : withins [] cap = true) (hp : ∀ x ∈ l, Ctr Tryd.prog g (.str x :: cap) (fun r => r = .bool (p x))) :
    Ctr Tryd.prog 40 [.sl 1 (strs l), .fn g cap] (fun r => r = .bool (l.any p)) := by
  refine Ctr.of_body Tryd.func40 rfl tys_ok (by kernel_rfl) ?_
  conv => whnf
  repeat (first | refine ACode.seq ?_ | (refine ACode.s_reg tys_ok ?_; conv => whnf) | refine ACode.s_block ?_ | refine ACode.s_scope ?_ | (refine ACode.s_cond ?_; conv => whnf) | (refine ACode.s_exit ?_; conv => whnf) | (refine ACode.s_ret ?_; conv => whnf) | (refine ACode.s_skip ?_; conv => whnf) | (refine ACode.s_label ?_; conv => whnf))
  refine ACall.of_spec (indexFunc_spec l g cap p hl hc hw hp) (by simp [closeds, closed, hc]) fun r hr => ?_
  obtain ⟨i, rfl, hi⟩ := hr
  conv => whnf
  repeat (first | refine ACode.seq ?_ | (refine ACode.s_reg tys_ok ?_; conv => whnf) | refine ACode.s_block ?_ | refine ACode.s_scope ?_ | (refine ACode.s_cond ?_; conv => whnf) | (refine ACode.s_exit ?_; conv => whnf) | (refine ACode.s_ret ?_; conv => whnf) | (refine ACode.s_skip ?_; conv => whnf) | (refine ACode.s_label ?_; conv => whnf))
  rw [← hi]
set_option maxRecDepth 100000 in
theorem hasName_spec (s : St) (t : Bs) (hs : s.al.length ≤ 1000) (hsn : s.na.length ≤ 1000) (hsa : ∀ x ∈ s.al, x.length ≤ 1000) : Ctr Tryd.prog 26 [s.v, .str t] (fun r => r = .bool (namedS s t)) := by
  refine Ctr.of_body Tryd.func26 rfl tys_ok (by kernel_rfl) ?_
  conv => whnf
  repeat (first | refine ACode.seq ?_ | (refine ACode.s_reg tys_ok ?_; conv => whnf) | refine ACode.s_block ?_ | refine ACode.s_scope ?_ | (refine ACode.s_cond ?_; conv => whnf) | (refine ACode.s_exit ?_; conv => whnf) | (refine ACode.s_ret ?_; conv => whnf) | (refine ACode.s_skip ?_; conv => whnf) | (refine ACode.s_label ?_; conv => whnf))
  refine ACall.of_look (as' := [.str s.na, .at_ [.str t], .at_ [.fn 37 []]]) ⟨vx_c rfl, vx_p rfl (viewCs_closed _ rfl), vx_p rfl (viewCs_closed _ rfl), trivial⟩ (same_spec s.na t (by omega)) rfl ?_
  conv => whnf
  refine ⟨fun h => ?_, fun h => ?_⟩
  · conv => whnf
    repeat (first | refine ACode.seq ?_ | (refine ACode.s_reg tys_ok ?_; conv => whnf) | refine ACode.s_block ?_ | refine ACode.s_scope ?_ | (refine ACode.s_cond ?_; conv => whnf) | (refine ACode.s_exit ?_; conv => whnf) | (refine ACode.s_ret ?_; conv => whnf) | (refine ACode.s_skip ?_; conv => whnf) | (refine ACode.s_label ?_; conv => whnf))
    refine ACall.of_look (as' := [.sl 1 (strs s.al), .fn 39 [.at_ [.str t], .at_ [.fn 37 []]]]) ⟨vx_c rfl, vx_f ⟨vv_p rfl (viewCs_closed _ rfl), vv_p rfl (viewCs_closed _ rfl), trivial⟩, trivial⟩ (containsFunc_spec s.al _ _ (fun a => eqF a t) (by omega) rfl rfl fun x hx => same_spec x t (by have := hsa x hx; omega)) rfl ?_
    conv => whnf
    repeat (first | refine ACode.seq ?_ | (refine ACode.s_reg tys_ok ?_; conv => whnf) | refine ACode.s_block ?_ | refine ACode.s_scope ?_ | (refine ACode.s_cond ?_; conv => whnf) | (refine ACode.s_exit ?_; conv => whnf) | (refine ACode.s_ret ?_; conv => whnf) | (refine ACode.s_skip ?_; conv => whnf) | (refine ACode.s_label ?_; conv => whnf))
    unfold namedS
    rw [h]
    rfl
  · conv => whnf
    repeat (first | refine ACode.seq ?_ | (refine ACode.s_reg tys_ok ?_; conv => whnf) | refine ACode.s_block ?_ | refine ACode.s_scope ?_ | (refine ACode.s_cond ?_; conv => whnf) | (refine ACode.s_exit ?_; conv => whnf) | (refine ACode.s_ret ?_; conv => whnf) | (refine ACode.s_skip ?_; conv => whnf) | (refine ACode.s_label ?_; conv => whnf))
    unfold namedS
    rw [h]
    rfl
end Go.Proofs.YtkmhjamdgncpoaaDoor
