/-
  The law: folding.
-/
import Derived.Test.YtkmhjamdgncpoaaDoorG5
import Derived.Test.YtkmhjamdgncpoaaDoorAv62
set_option linter.unusedVariables false
set_option linter.unusedSimpArgs false
namespace Go.Proofs.YtkmhjamdgncpoaaDoor
open Go.Av Go.Shelf Pl Go.RowKit
theorem find_same {r : List Ch} (day : Int) {a : Ad} (t o : Bs) (ht : lowB t = lowB a.st) : findP r day ⟨o, t, a.nu, a.co, o⟩ = findP r day a := by
  unfold findP findL
  have : meansS ⟨o, t, a.nu, a.co, o⟩ = meansS a := by
    funext s
    rw [Bool.eq_iff_iff, means_iff, means_iff]
    simp only
    rw [named_of ht]
  rw [this]
theorem bytes_closed (l : Bs) : ∀ e ∈ bytesA l, closed e = true := by
  intro e he
  obtain ⟨b, _, rfl⟩ := List.mem_map.1 he
  rfl
theorem low_turn {c : UInt8} (h1 : 97 ≤ c.toNat) (h2 : c.toNat ≤ 122) : lowC (c - 32) = lowC c := by
  have h3 : (c - 32).toNat = c.toNat - 32 := by
    rw [UInt8.toNat_sub_of_le _ _ (by rw [UInt8.le_iff_toNat_le]; show 32 ≤ c.toNat; omega)]
    rfl
  have e1 : lowC c = c := by
    unfold lowC capB
    rw [decide_eq_false (show ¬ c.toNat ≤ 90 by omega), Bool.and_false]
    rfl
  have e2 : lowC (c - 32) = c - 32 + 32 := by
    unfold lowC capB
    rw [h3, decide_eq_true (show 65 ≤ c.toNat - 32 by omega), decide_eq_true (show c.toNat - 32 ≤ 90 by omega)]
    rfl
  rw [e1, e2, UInt8.sub_add_cancel]
theorem low_set {l : Bs} {i : Nat} (hi : i < l.length) {c : UInt8} (h : lowC c = lowC l[i]) : lowB (l.set i c) = lowB l := by
  unfold lowB
  rw [List.map_set, h]
  apply List.ext_getElem
  · simp
  · intro k h1 h2
    by_cases hk : i = k
    · subst hk; simp
    · simp [List.getElem_set_ne hk]
set_option maxRecDepth 100000 in
theorem turned_spec (s : Bs) (n : Int) (hn : inK .u32 n) (hs : s.length ≤ 1000) : Ctr Tryd.prog 19 [.str s, .int .u32 n] (fun x => ∃ t, x = .str t ∧ lowB t = lowB s) := by
  refine Ctr.of_body Tryd.func19 rfl tys_ok (by kernel_rfl) ?_
  conv => whnf
  refine ACode.seq ?_
  refine ACode.s_reg tys_ok ?_
  conv => whnf
  refine ACode.seq ?_
  refine ACode.s_regO [1] tys_ok ?_
  conv => whnf
  repeat (first | refine ACode.seq ?_ | (refine ACode.s_reg tys_ok ?_; conv => whnf) | refine ACode.s_block ?_ | refine ACode.s_scope ?_ | (refine ACode.s_cond ?_; conv => whnf) | (refine ACode.s_exit ?_; conv => whnf) | (refine ACode.s_ret ?_; conv => whnf) | (refine ACode.s_skip ?_; conv => whnf) | (refine ACode.s_label ?_; conv => whnf))
  refine ACode.loopD (fun x : Bs × Nat × Int => mk 48 [(1, .int .u32 x.2.2), (5, .own 0 1 0 s.length), (6, .int .i64 x.2.1)]) (fun x => [.arr 5 1 (bytesA x.1)]) (fun x => x.1.length = s.length ∧ lowB x.1 = lowB s ∧ x.2.1 ≤ s.length ∧ inK .u32 x.2.2) (fun x => s.length - x.2.1) (fun _ _ => ⟨rfl, by (conv => whnf); exact ⟨fun a ha => bytes_closed _ a ha, trivial⟩⟩) ⟨(s, 0, n), ?_⟩ (fun _ => rfl) fun x hx => ?_
  · conv => whnf
    repeat (refine And.intro ?_ ?_; (focus (first | rfl | (simp; done))); conv => whnf)
    exact hn
  obtain ⟨l, i, m⟩ := x
  simp only at hx
  obtain ⟨h1, h2, h3, h4⟩ := hx
  have hw1 : Wr .i64 ((i : Int) + 1) = ((i + 1 : Nat) : Int) := by rw [Wr64 _ (by omega) (by omega)]; rfl
  conv => whnf
  repeat (first | refine ACode.seq ?_ | (refine ACode.s_reg tys_ok ?_; conv => whnf) | refine ACode.s_block ?_ | refine ACode.s_scope ?_ | (refine ACode.s_cond ?_; conv => whnf) | (refine ACode.s_exit ?_; conv => whnf) | (refine ACode.s_ret ?_; conv => whnf) | (refine ACode.s_skip ?_; conv => whnf) | (refine ACode.s_label ?_; conv => whnf))
  refine ⟨fun k1 => ?_, fun k1 => ?_⟩
  · have k1 : i < l.length := by simp at k1; omega
    have gi : (bytesA l)[0 + ((i : Nat) : Int).toNat]? = some (.int .u8 l[i].toNat) := by simp [k1]
    have hlt := l[i].toNat_lt
    conv => whnf
    repeat (first | refine ACode.seq ?_ | (refine ACode.s_reg tys_ok ?_; conv => whnf) | refine ACode.s_block ?_ | refine ACode.s_scope ?_ | (refine ACode.s_cond ?_; conv => whnf) | (refine ACode.s_exit ?_; conv => whnf) | (refine ACode.s_ret ?_; conv => whnf) | (refine ACode.s_skip ?_; conv => whnf) | (refine ACode.s_label ?_; conv => whnf))
    repeat' (first | (refine And.intro (fun _ => ?_) (fun _ => ?_) <;> conv => whnf) | (refine ⟨⟨by (simp only; omega), by (simp only; omega)⟩, ?_⟩; conv => whnf) | (refine ⟨_, gi, ?_⟩; conv => whnf) | (refine ⟨by decide, ?_⟩; conv => whnf) | refine ACode.seq ?_ | (refine ACode.s_reg tys_ok ?_; conv => whnf) | refine ACode.s_block ?_ | refine ACode.s_scope ?_ | (refine ACode.s_cond ?_; conv => whnf) | (refine ACode.s_exit ?_; conv => whnf) | (refine ACode.s_skip ?_; conv => whnf))
    · rename_i g1 g2 g3
      have g1 : 97 ≤ l[i].toNat := by simp at g1; omega
      have g2 : l[i].toNat ≤ 122 := by simp at g2; omega
      have hv : Wr .u8 ((l[i].toNat : Int) - 32) = ((l[i] - 32).toNat : Int) := by
        rw [WrU8 _ (by omega) (by omega), UInt8.toNat_sub_of_le _ _ (by rw [UInt8.le_iff_toNat_le]; show 32 ≤ l[i].toNat; omega)]
        show (l[i].toNat : Int) - 32 = ((l[i].toNat - 32 : Nat) : Int)
        omega
      refine ⟨(l.set i (l[i] - 32), i + 1, Wr .u32 (Wr .u32 (m.tdiv 2) + Wr .u32 (m.tmod 2 * 2147483648))), ?_⟩
      conv => whnf
      repeat (refine And.intro ?_ ?_; (focus (first | rfl | (simp; done) | (exact hw1; done))); conv => whnf)
      refine ⟨by rw [hv]; simp [List.map_set], ⟨by simp [h1], ?_, by simp only; omega, inK_Wr _ _⟩, by simp only; omega⟩
      rw [low_set k1 (low_turn g1 g2), h2]
    all_goals (
      refine ⟨(l, i + 1, Wr .u32 (Wr .u32 (m.tdiv 2) + Wr .u32 (m.tmod 2 * 2147483648))), ?_⟩
      conv => whnf
      repeat (refine And.intro ?_ ?_; (focus (first | rfl | (simp; done) | (exact hw1; done))); conv => whnf)
      exact ⟨⟨h1, h2, by simp only; omega, inK_Wr _ _⟩, by simp only; omega⟩)
  · have k1 : i = s.length := by simp at k1; omega
    conv => whnf
    repeat (first | refine ACode.seq ?_ | (refine ACode.s_reg tys_ok ?_; conv => whnf) | refine ACode.s_block ?_ | refine ACode.s_scope ?_ | (refine ACode.s_cond ?_; conv => whnf) | (refine ACode.s_exit ?_; conv => whnf) | (refine ACode.s_ret ?_; conv => whnf) | (refine ACode.s_skip ?_; conv => whnf) | (refine ACode.s_label ?_; conv => whnf))
    refine ⟨by simp [h1], l, ⟨rfl, by omega⟩, ?_⟩
    conv => whnf
    repeat (first | refine ACode.seq ?_ | (refine ACode.s_reg tys_ok ?_; conv => whnf) | refine ACode.s_block ?_ | refine ACode.s_scope ?_ | (refine ACode.s_cond ?_; conv => whnf) | (refine ACode.s_exit ?_; conv => whnf) | (refine ACode.s_ret ?_; conv => whnf) | (refine ACode.s_skip ?_; conv => whnf) | (refine ACode.s_label ?_; conv => whnf))
    exact ⟨l, rfl, h2⟩
set_option maxRecDepth 100000 in
theorem folding_law (r : List Ch) (day : Int) (a : Ad) (n : Int) (hn : inK .u32 n) (o : Bs) : Ctr Tryd.prog 7 [chs r, .int .i64 day, a.v, .int .u32 n, .str o] (fun x => x = .bool true) := by
  refine Ctr.of_body Tryd.func7 rfl tys_ok (by kernel_rfl) ?_
  conv => whnf
  repeat (first | refine ACode.seq ?_ | (refine ACode.s_reg tys_ok ?_; conv => whnf) | refine ACode.s_block ?_ | refine ACode.s_scope ?_ | (refine ACode.s_cond ?_; conv => whnf) | (refine ACode.s_exit ?_; conv => whnf) | (refine ACode.s_ret ?_; conv => whnf) | (refine ACode.s_skip ?_; conv => whnf) | (refine ACode.s_label ?_; conv => whnf))
  refine ACall.of_spec (head_spec) rfl fun r hr => ?_
  subst hr
  conv => whnf
  repeat (first | refine ACode.seq ?_ | (refine ACode.s_reg tys_ok ?_; conv => whnf) | refine ACode.s_block ?_ | refine ACode.s_scope ?_ | (refine ACode.s_cond ?_; conv => whnf) | (refine ACode.s_exit ?_; conv => whnf) | (refine ACode.s_ret ?_; conv => whnf) | (refine ACode.s_skip ?_; conv => whnf) | (refine ACode.s_label ?_; conv => whnf))
  refine ACall.of_spec (Sound_spec r) rfl fun r hr => ?_
  subst hr
  conv => whnf
  repeat (first | refine ACode.seq ?_ | (refine ACode.s_reg tys_ok ?_; conv => whnf) | refine ACode.s_block ?_ | refine ACode.s_scope ?_ | (refine ACode.s_cond ?_; conv => whnf) | (refine ACode.s_exit ?_; conv => whnf) | (refine ACode.s_ret ?_; conv => whnf) | (refine ACode.s_skip ?_; conv => whnf) | (refine ACode.s_label ?_; conv => whnf))
  refine ⟨fun h => ?_, fun h => ?_⟩; rotate_left
  · conv => whnf
    repeat (first | refine ACode.seq ?_ | (refine ACode.s_reg tys_ok ?_; conv => whnf) | refine ACode.s_block ?_ | refine ACode.s_scope ?_ | (refine ACode.s_cond ?_; conv => whnf) | (refine ACode.s_exit ?_; conv => whnf) | (refine ACode.s_ret ?_; conv => whnf) | (refine ACode.s_skip ?_; conv => whnf) | (refine ACode.s_label ?_; conv => whnf))
  have hs := sound_of h
  clear h
  conv => whnf
  repeat (first | refine ACode.seq ?_ | (refine ACode.s_reg tys_ok ?_; conv => whnf) | refine ACode.s_block ?_ | refine ACode.s_scope ?_ | (refine ACode.s_cond ?_; conv => whnf) | (refine ACode.s_exit ?_; conv => whnf) | (refine ACode.s_ret ?_; conv => whnf) | (refine ACode.s_skip ?_; conv => whnf) | (refine ACode.s_label ?_; conv => whnf))
  refine ⟨fun h0 => ?_, fun h0 => ?_⟩
  · conv => whnf
    repeat (first | refine ACode.seq ?_ | (refine ACode.s_reg tys_ok ?_; conv => whnf) | refine ACode.s_block ?_ | refine ACode.s_scope ?_ | (refine ACode.s_cond ?_; conv => whnf) | (refine ACode.s_exit ?_; conv => whnf) | (refine ACode.s_ret ?_; conv => whnf) | (refine ACode.s_skip ?_; conv => whnf) | (refine ACode.s_label ?_; conv => whnf))
  conv => whnf
  repeat (first | refine ACode.seq ?_ | (refine ACode.s_reg tys_ok ?_; conv => whnf) | refine ACode.s_block ?_ | refine ACode.s_scope ?_ | (refine ACode.s_cond ?_; conv => whnf) | (refine ACode.s_exit ?_; conv => whnf) | (refine ACode.s_ret ?_; conv => whnf) | (refine ACode.s_skip ?_; conv => whnf) | (refine ACode.s_label ?_; conv => whnf))
  obtain ⟨y, e, hy⟩ : ∃ y e, findP r day a = (y, e) := ⟨_, _, rfl⟩
  refine ACall.of_spec (find_t hy) rfl fun r hr => ?_
  subst hr
  conv => whnf
  repeat (first | refine ACode.seq ?_ | (refine ACode.s_reg tys_ok ?_; conv => whnf) | refine ACode.s_block ?_ | refine ACode.s_scope ?_ | (refine ACode.s_cond ?_; conv => whnf) | (refine ACode.s_exit ?_; conv => whnf) | (refine ACode.s_ret ?_; conv => whnf) | (refine ACode.s_skip ?_; conv => whnf) | (refine ACode.s_label ?_; conv => whnf))
  have h0 : a.st.length ≤ 100 := by simp at h0; omega
  refine ACall.of_spec (turned_spec a.st n hn (by omega)) rfl fun x hx => ?_
  obtain ⟨t, rfl, ht⟩ := hx
  conv => whnf
  repeat (first | refine ACode.seq ?_ | (refine ACode.s_reg tys_ok ?_; conv => whnf) | refine ACode.s_block ?_ | refine ACode.s_scope ?_ | (refine ACode.s_cond ?_; conv => whnf) | (refine ACode.s_exit ?_; conv => whnf) | (refine ACode.s_ret ?_; conv => whnf) | (refine ACode.s_skip ?_; conv => whnf) | (refine ACode.s_label ?_; conv => whnf))
  refine ACall.of_spec (find_t ((find_same day t o ht).trans hy)) rfl fun r hr => ?_
  subst hr
  conv => whnf
  repeat (first | refine ACode.seq ?_ | (refine ACode.s_reg tys_ok ?_; conv => whnf) | refine ACode.s_block ?_ | refine ACode.s_scope ?_ | (refine ACode.s_cond ?_; conv => whnf) | (refine ACode.s_exit ?_; conv => whnf) | (refine ACode.s_ret ?_; conv => whnf) | (refine ACode.s_skip ?_; conv => whnf) | (refine ACode.s_label ?_; conv => whnf))
  repeat (first | (refine ⟨fun _ => ?_, fun h => absurd h (by decide +kernel)⟩; conv => whnf) | (refine ⟨fun h => absurd h (by decide +kernel), fun _ => ?_⟩; conv => whnf) | (refine ⟨by decide, _, rfl, ?_⟩; conv => whnf) | refine ACode.seq ?_ | (refine ACode.s_reg tys_ok ?_; conv => whnf) | refine ACode.s_block ?_ | refine ACode.s_scope ?_ | (refine ACode.s_cond ?_; conv => whnf) | (refine ACode.s_exit ?_; conv => whnf) | (refine ACode.s_ret ?_; conv => whnf) | (refine ACode.s_skip ?_; conv => whnf) | (refine ACode.s_label ?_; conv => whnf))
  refine And.intro (fun _ => ?_) (fun h => absurd h (by simp))
  conv => whnf
  repeat (first | refine ACode.seq ?_ | (refine ACode.s_reg tys_ok ?_; conv => whnf) | refine ACode.s_block ?_ | refine ACode.s_scope ?_ | (refine ACode.s_cond ?_; conv => whnf) | (refine ACode.s_exit ?_; conv => whnf) | (refine ACode.s_ret ?_; conv => whnf) | (refine ACode.s_skip ?_; conv => whnf) | (refine ACode.s_label ?_; conv => whnf))
  simp
end Go.Proofs.YtkmhjamdgncpoaaDoor
