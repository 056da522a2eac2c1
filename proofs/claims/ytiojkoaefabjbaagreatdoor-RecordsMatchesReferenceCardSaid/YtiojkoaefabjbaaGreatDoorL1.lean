/-
  RecordsOrder.
-/
import Derived.Test.YtiojkoaefabjbaaGreatDoorG5
set_option linter.unusedVariables false
set_option linter.unusedSimpArgs false
namespace Go.Proofs.YtiojkoaefabjbaaGreatDoor
open Go.Av Go.Shelf Pl Go.RowKit
theorem short_ok {r : Rc} (h : shortB r = true) : RcOK r := by
  unfold shortB at h
  simp only [Bool.and_eq_true, decide_eq_true_eq, List.all_eq_true] at h
  obtain ⟨⟨h1, h2⟩, h3⟩ := h
  exact ⟨by omega, by omega, fun x hx => by have := h3 x hx; omega⟩
theorem _root_.Go.Av.no_br {P Q X Y : Prop} (h : ¬ Q) (h2 : P → X) : (P → X) ∧ (Q → Y) := ⟨h2, fun q => absurd q h⟩
theorem _root_.Go.Av.yes_br {P Q X Y : Prop} (h : ¬ P) (h2 : Q → Y) : (P → X) ∧ (Q → Y) := ⟨fun q => absurd q h, h2⟩
set_option maxHeartbeats 4000000 in
set_option maxRecDepth 100000 in
theorem order_law (a b c : Rc) : Ctr Tryz.prog 4 [a.v, b.v, c.v] (fun r => r = .bool true) := by
  refine Ctr.lits ?_
  refine Ctr.of_body Tryz.func4 rfl tys_ok (by kernel_rfl) ?_
  conv => whnf
  repeat (first | refine ACode.seq ?_ | (refine ACode.s_reg tys_ok ?_; conv => whnf) | refine ACode.s_block ?_ | refine ACode.s_scope ?_ | (refine ACode.s_cond ?_; conv => whnf) | (refine ACode.s_exit ?_; conv => whnf) | (refine ACode.s_ret ?_; conv => whnf) | (refine ACode.s_skip ?_; conv => whnf) | (refine ACode.s_label ?_; conv => whnf))
  refine ACall.of_spec (head_spec) rfl fun r hr => ?_
  subst hr
  conv => whnf
  repeat (first | refine ACode.seq ?_ | (refine ACode.s_reg tys_ok ?_; conv => whnf) | refine ACode.s_block ?_ | refine ACode.s_scope ?_ | (refine ACode.s_cond ?_; conv => whnf) | (refine ACode.s_exit ?_; conv => whnf) | (refine ACode.s_ret ?_; conv => whnf) | (refine ACode.s_skip ?_; conv => whnf) | (refine ACode.s_label ?_; conv => whnf))
  repeat' (first | (refine And.intro (fun _ => ?_) (fun _ => ?_) <;> conv => whnf) | (refine ACall.of_spec (short_spec a) rfl fun r hr => ?_; subst hr; conv => whnf) | (refine ACall.of_spec (short_spec b) rfl fun r hr => ?_; subst hr; conv => whnf) | (refine ACall.of_spec (short_spec c) rfl fun r hr => ?_; subst hr; conv => whnf) | refine ACode.seq ?_ | (refine ACode.s_reg tys_ok ?_; conv => whnf) | refine ACode.s_block ?_ | refine ACode.s_scope ?_ | (refine ACode.s_cond ?_; conv => whnf) | (refine ACode.s_exit ?_; conv => whnf) | (refine ACode.s_ret ?_; conv => whnf) | (refine ACode.s_skip ?_; conv => whnf) | (refine ACode.s_label ?_; conv => whnf))
  all_goals (try exact .inr rfl)
  rename_i h1 h2 h3
  have ha := short_ok (r := a) (by simpa using h1)
  have hb := short_ok (r := b) (by simpa using h2)
  have hc := short_ok (r := c) (by simpa using h3)
  have hba := cmpR_ok.anti a b
  have hrng := cmpR_ok.rng a b
  have hw : Wr .i64 (0 - cmpR b a) = cmpR a b := by rw [Wr64 _ (by omega) (by omega)]; omega
  have hw3 : Wr .i64 (-cmpR b a) = cmpR a b := by rw [← hw]; simp
  have hw2 : Wr .i64 (cmpR a b + cmpR b c) = cmpR a b + cmpR b c := by have := cmpR_ok.rng b c; exact Wr64 _ (by omega) (by omega)
  have hself := cmpR_ok.self a
  have hxx : (cmpR a b ≠ 0 ∧ (¬ cmpR a b ≤ 0 ∨ ¬ cmpR b c ≤ 0 ∨ cmpR a c < 0)) ∨ (a = b ∧ cmpR b c = cmpR a c) := by
    rcases cmpR_ok.rng a b with h | h | h
    · refine .inl ⟨by omega, ?_⟩
      rcases cmpR_ok.rng b c with k | k | k
      · have := cmpR_ok.tr _ _ _ h k; omega
      · have := (cmpR_ok.eq0 _ _).1 k; subst this; omega
      · omega
    · have := (cmpR_ok.eq0 _ _).1 h; subst this; exact .inr ⟨rfl, rfl⟩
    · exact .inl ⟨by omega, by omega⟩
  refine ACall.of_spec (compare_spec a b ha.co) rfl fun r hr => ?_
  subst hr
  conv => whnf
  repeat (first | refine ACode.seq ?_ | (refine ACode.s_reg tys_ok ?_; conv => whnf) | refine ACode.s_block ?_ | refine ACode.s_scope ?_ | (refine ACode.s_cond ?_; conv => whnf) | (refine ACode.s_exit ?_; conv => whnf) | (refine ACode.s_ret ?_; conv => whnf) | (refine ACode.s_skip ?_; conv => whnf) | (refine ACode.s_label ?_; conv => whnf))
  refine ACall.of_spec (compare_spec b c hb.co) rfl fun r hr => ?_
  subst hr
  conv => whnf
  repeat (first | refine ACode.seq ?_ | (refine ACode.s_reg tys_ok ?_; conv => whnf) | refine ACode.s_block ?_ | refine ACode.s_scope ?_ | (refine ACode.s_cond ?_; conv => whnf) | (refine ACode.s_exit ?_; conv => whnf) | (refine ACode.s_ret ?_; conv => whnf) | (refine ACode.s_skip ?_; conv => whnf) | (refine ACode.s_label ?_; conv => whnf))
  refine ACall.of_spec (compare_spec a c ha.co) rfl fun r hr => ?_
  subst hr
  conv => whnf
  repeat (first | refine ACode.seq ?_ | (refine ACode.s_reg tys_ok ?_; conv => whnf) | refine ACode.s_block ?_ | refine ACode.s_scope ?_ | (refine ACode.s_cond ?_; conv => whnf) | (refine ACode.s_exit ?_; conv => whnf) | (refine ACode.s_ret ?_; conv => whnf) | (refine ACode.s_skip ?_; conv => whnf) | (refine ACode.s_label ?_; conv => whnf))
  rcases hxx with ⟨hx, hy⟩ | ⟨hx, hy⟩
  · rcases hy with hy | hy | hy
    · repeat (first | (refine ACall.of_spec (compare_spec b a hb.co) rfl fun r hr => ?_; subst hr; conv => whnf) | (refine ACall.of_spec (compare_spec a a ha.co) rfl fun r hr => ?_; subst hr; conv => whnf) | (refine no_br ?_ (fun _ => ?_); (focus (first | (simp [hw3, hw2]; done) | (simp [hw3, hw2]; omega) | omega; done)); conv => whnf) | (refine yes_br ?_ (fun _ => ?_); (focus (first | (simp [hw3, hw2]; done) | (simp [hw3, hw2]; omega) | omega; done)); conv => whnf) | refine ACode.seq ?_ | (refine ACode.s_reg tys_ok ?_; conv => whnf) | refine ACode.s_block ?_ | refine ACode.s_scope ?_ | (refine ACode.s_cond ?_; conv => whnf) | (refine ACode.s_exit ?_; conv => whnf) | (refine ACode.s_ret ?_; conv => whnf) | (refine ACode.s_skip ?_; conv => whnf) | (refine ACode.s_label ?_; conv => whnf))
      exact .inr rfl
    · have hd : cmpR a b = -1 ∨ cmpR a b = 1 := by omega
      rcases hd with hd | hd
      · repeat (first | (refine ACall.of_spec (compare_spec b a hb.co) rfl fun r hr => ?_; subst hr; conv => whnf) | (refine ACall.of_spec (compare_spec a a ha.co) rfl fun r hr => ?_; subst hr; conv => whnf) | (refine no_br ?_ (fun _ => ?_); (focus (first | (simp [hw3, hw2]; done) | (simp [hw3, hw2]; omega) | omega; done)); conv => whnf) | (refine yes_br ?_ (fun _ => ?_); (focus (first | (simp [hw3, hw2]; done) | (simp [hw3, hw2]; omega) | omega; done)); conv => whnf) | refine ACode.seq ?_ | (refine ACode.s_reg tys_ok ?_; conv => whnf) | refine ACode.s_block ?_ | refine ACode.s_scope ?_ | (refine ACode.s_cond ?_; conv => whnf) | (refine ACode.s_exit ?_; conv => whnf) | (refine ACode.s_ret ?_; conv => whnf) | (refine ACode.s_skip ?_; conv => whnf) | (refine ACode.s_label ?_; conv => whnf))
        exact .inr rfl
      · repeat (first | (refine ACall.of_spec (compare_spec b a hb.co) rfl fun r hr => ?_; subst hr; conv => whnf) | (refine ACall.of_spec (compare_spec a a ha.co) rfl fun r hr => ?_; subst hr; conv => whnf) | (refine no_br ?_ (fun _ => ?_); (focus (first | (simp [hw3, hw2]; done) | (simp [hw3, hw2]; omega) | omega; done)); conv => whnf) | (refine yes_br ?_ (fun _ => ?_); (focus (first | (simp [hw3, hw2]; done) | (simp [hw3, hw2]; omega) | omega; done)); conv => whnf) | refine ACode.seq ?_ | (refine ACode.s_reg tys_ok ?_; conv => whnf) | refine ACode.s_block ?_ | refine ACode.s_scope ?_ | (refine ACode.s_cond ?_; conv => whnf) | (refine ACode.s_exit ?_; conv => whnf) | (refine ACode.s_ret ?_; conv => whnf) | (refine ACode.s_skip ?_; conv => whnf) | (refine ACode.s_label ?_; conv => whnf))
        exact .inr rfl
    · have hd : cmpR a b = -1 ∨ cmpR a b = 1 := by omega
      rcases hd with hd | hd
      · by_cases he : cmpR b c ≤ 0
        · repeat (first | (refine ACall.of_spec (compare_spec b a hb.co) rfl fun r hr => ?_; subst hr; conv => whnf) | (refine ACall.of_spec (compare_spec a a ha.co) rfl fun r hr => ?_; subst hr; conv => whnf) | (refine no_br ?_ (fun _ => ?_); (focus (first | (simp [hw3, hw2]; done) | (simp [hw3, hw2]; omega) | omega; done)); conv => whnf) | (refine yes_br ?_ (fun _ => ?_); (focus (first | (simp [hw3, hw2]; done) | (simp [hw3, hw2]; omega) | omega; done)); conv => whnf) | refine ACode.seq ?_ | (refine ACode.s_reg tys_ok ?_; conv => whnf) | refine ACode.s_block ?_ | refine ACode.s_scope ?_ | (refine ACode.s_cond ?_; conv => whnf) | (refine ACode.s_exit ?_; conv => whnf) | (refine ACode.s_ret ?_; conv => whnf) | (refine ACode.s_skip ?_; conv => whnf) | (refine ACode.s_label ?_; conv => whnf))
          exact .inr rfl
        · repeat (first | (refine ACall.of_spec (compare_spec b a hb.co) rfl fun r hr => ?_; subst hr; conv => whnf) | (refine ACall.of_spec (compare_spec a a ha.co) rfl fun r hr => ?_; subst hr; conv => whnf) | (refine no_br ?_ (fun _ => ?_); (focus (first | (simp [hw3, hw2]; done) | (simp [hw3, hw2]; omega) | omega; done)); conv => whnf) | (refine yes_br ?_ (fun _ => ?_); (focus (first | (simp [hw3, hw2]; done) | (simp [hw3, hw2]; omega) | omega; done)); conv => whnf) | refine ACode.seq ?_ | (refine ACode.s_reg tys_ok ?_; conv => whnf) | refine ACode.s_block ?_ | refine ACode.s_scope ?_ | (refine ACode.s_cond ?_; conv => whnf) | (refine ACode.s_exit ?_; conv => whnf) | (refine ACode.s_ret ?_; conv => whnf) | (refine ACode.s_skip ?_; conv => whnf) | (refine ACode.s_label ?_; conv => whnf))
          exact .inr rfl
      · repeat (first | (refine ACall.of_spec (compare_spec b a hb.co) rfl fun r hr => ?_; subst hr; conv => whnf) | (refine ACall.of_spec (compare_spec a a ha.co) rfl fun r hr => ?_; subst hr; conv => whnf) | (refine no_br ?_ (fun _ => ?_); (focus (first | (simp [hw3, hw2]; done) | (simp [hw3, hw2]; omega) | omega; done)); conv => whnf) | (refine yes_br ?_ (fun _ => ?_); (focus (first | (simp [hw3, hw2]; done) | (simp [hw3, hw2]; omega) | omega; done)); conv => whnf) | refine ACode.seq ?_ | (refine ACode.s_reg tys_ok ?_; conv => whnf) | refine ACode.s_block ?_ | refine ACode.s_scope ?_ | (refine ACode.s_cond ?_; conv => whnf) | (refine ACode.s_exit ?_; conv => whnf) | (refine ACode.s_ret ?_; conv => whnf) | (refine ACode.s_skip ?_; conv => whnf) | (refine ACode.s_label ?_; conv => whnf))
        exact .inr rfl
  · subst hx
    by_cases he : cmpR a c ≤ 0
    · by_cases hf : cmpR a c = 0
      · repeat (first | (refine ACall.of_spec (compare_spec b a hb.co) rfl fun r hr => ?_; subst hr; conv => whnf) | (refine ACall.of_spec (compare_spec a a ha.co) rfl fun r hr => ?_; subst hr; conv => whnf) | (refine no_br ?_ (fun _ => ?_); (focus (first | (simp [hw3, hw2]; done) | (simp [hw3, hw2]; omega) | omega; done)); conv => whnf) | (refine yes_br ?_ (fun _ => ?_); (focus (first | (simp [hw3, hw2]; done) | (simp [hw3, hw2]; omega) | omega; done)); conv => whnf) | refine ACode.seq ?_ | (refine ACode.s_reg tys_ok ?_; conv => whnf) | refine ACode.s_block ?_ | refine ACode.s_scope ?_ | (refine ACode.s_cond ?_; conv => whnf) | (refine ACode.s_exit ?_; conv => whnf) | (refine ACode.s_ret ?_; conv => whnf) | (refine ACode.s_skip ?_; conv => whnf) | (refine ACode.s_label ?_; conv => whnf))
        refine ACode.loopD (fun k : Nat => mk 142 [(3, .ptr 0 0), (4, .ptr 1 0), (6, .lit false), (7, .bool true), (11, .int .i64 k)]) (fun _ => [.cells [.int .i64 a.sc, .int .i64 a.nu, .int .i64 a.ki, .int .i64 a.ti, .str a.la, .sl 1 (strs a.co)], .cells [.int .i64 a.sc, .int .i64 a.nu, .int .i64 a.ki, .int .i64 a.ti, .str a.la, .sl 1 (strs a.co)], .cells [.int .i64 c.sc, .int .i64 c.nu, .int .i64 c.ki, .int .i64 c.ti, .str c.la, .sl 1 (strs c.co)]])
          (fun k => k ≤ a.co.length) (fun k => a.co.length - k) (fun _ _ => ⟨rfl, rfl, rfl, rfl, trivial⟩) ⟨0, ?_⟩ (fun _ => rfl) fun k hk => ?_
        · conv => whnf
          repeat (refine And.intro ?_ ?_; (focus (first | rfl | (simp; done))); conv => whnf)
          exact Nat.zero_le _
        · repeat (first | refine ACode.seq ?_ | (refine ACode.s_reg tys_ok ?_; conv => whnf) | refine ACode.s_block ?_ | refine ACode.s_scope ?_ | (refine ACode.s_cond ?_; conv => whnf) | (refine ACode.s_exit ?_; conv => whnf) | (refine ACode.s_ret ?_; conv => whnf) | (refine ACode.s_skip ?_; conv => whnf) | (refine ACode.s_label ?_; conv => whnf))
          rw [strs_len]
          refine ⟨fun h => ?_, fun h => ?_⟩
          · have h : k < a.co.length := by simpa using h
            have hal := ha.co
            conv => whnf
            repeat (first | refine ACode.seq ?_ | (refine ACode.s_reg tys_ok ?_; conv => whnf) | refine ACode.s_block ?_ | refine ACode.s_scope ?_ | (refine ACode.s_cond ?_; conv => whnf) | (refine ACode.s_exit ?_; conv => whnf) | (refine ACode.s_ret ?_; conv => whnf) | (refine ACode.s_skip ?_; conv => whnf) | (refine ACode.s_label ?_; conv => whnf))
            refine ACode.draw [] tys_ok (by kernel_rfl) (by kernel_rfl) ?_
            conv => whnf
            refine ⟨by omega, _, strs_get a.co k h, ?_⟩
            conv => whnf
            refine ⟨by omega, _, strs_get a.co k h, ?_⟩
            conv => whnf
            repeat (first | refine ACode.seq ?_ | (refine ACode.s_reg tys_ok ?_; conv => whnf) | refine ACode.s_block ?_ | refine ACode.s_scope ?_ | (refine ACode.s_cond ?_; conv => whnf) | (refine ACode.s_exit ?_; conv => whnf) | (refine ACode.s_ret ?_; conv => whnf) | (refine ACode.s_skip ?_; conv => whnf) | (refine ACode.s_label ?_; conv => whnf))
            refine ⟨fun h9 => absurd h9 (by simp), fun _ => ?_⟩
            conv => whnf
            repeat (first | refine ACode.seq ?_ | (refine ACode.s_reg tys_ok ?_; conv => whnf) | refine ACode.s_block ?_ | refine ACode.s_scope ?_ | (refine ACode.s_cond ?_; conv => whnf) | (refine ACode.s_exit ?_; conv => whnf) | (refine ACode.s_ret ?_; conv => whnf) | (refine ACode.s_skip ?_; conv => whnf) | (refine ACode.s_label ?_; conv => whnf))
            refine ⟨k + 1, ?_⟩
            conv => whnf
            repeat (refine And.intro ?_ ?_; (focus (first | rfl | (simp; done) | (first | (rw [Wr64 _ (by omega) (by omega)]; done) | (rw [Wr64 _ (by omega) (by omega)]; rfl); done))); conv => whnf)
            exact ⟨by omega, by omega⟩
          · conv => whnf
            repeat (first | refine ACode.seq ?_ | (refine ACode.s_reg tys_ok ?_; conv => whnf) | refine ACode.s_block ?_ | refine ACode.s_scope ?_ | (refine ACode.s_cond ?_; conv => whnf) | (refine ACode.s_exit ?_; conv => whnf) | (refine ACode.s_ret ?_; conv => whnf) | (refine ACode.s_skip ?_; conv => whnf) | (refine ACode.s_label ?_; conv => whnf))
            exact .inr rfl
      · repeat (first | (refine ACall.of_spec (compare_spec b a hb.co) rfl fun r hr => ?_; subst hr; conv => whnf) | (refine ACall.of_spec (compare_spec a a ha.co) rfl fun r hr => ?_; subst hr; conv => whnf) | (refine no_br ?_ (fun _ => ?_); (focus (first | (simp [hw3, hw2]; done) | (simp [hw3, hw2]; omega) | omega; done)); conv => whnf) | (refine yes_br ?_ (fun _ => ?_); (focus (first | (simp [hw3, hw2]; done) | (simp [hw3, hw2]; omega) | omega; done)); conv => whnf) | refine ACode.seq ?_ | (refine ACode.s_reg tys_ok ?_; conv => whnf) | refine ACode.s_block ?_ | refine ACode.s_scope ?_ | (refine ACode.s_cond ?_; conv => whnf) | (refine ACode.s_exit ?_; conv => whnf) | (refine ACode.s_ret ?_; conv => whnf) | (refine ACode.s_skip ?_; conv => whnf) | (refine ACode.s_label ?_; conv => whnf))
        refine ACode.loopD (fun k : Nat => mk 142 [(3, .ptr 0 0), (4, .ptr 1 0), (6, .lit false), (7, .bool true), (11, .int .i64 k)]) (fun _ => [.cells [.int .i64 a.sc, .int .i64 a.nu, .int .i64 a.ki, .int .i64 a.ti, .str a.la, .sl 1 (strs a.co)], .cells [.int .i64 a.sc, .int .i64 a.nu, .int .i64 a.ki, .int .i64 a.ti, .str a.la, .sl 1 (strs a.co)], .cells [.int .i64 c.sc, .int .i64 c.nu, .int .i64 c.ki, .int .i64 c.ti, .str c.la, .sl 1 (strs c.co)]])
          (fun k => k ≤ a.co.length) (fun k => a.co.length - k) (fun _ _ => ⟨rfl, rfl, rfl, rfl, trivial⟩) ⟨0, ?_⟩ (fun _ => rfl) fun k hk => ?_
        · conv => whnf
          repeat (refine And.intro ?_ ?_; (focus (first | rfl | (simp; done))); conv => whnf)
          exact Nat.zero_le _
        · repeat (first | refine ACode.seq ?_ | (refine ACode.s_reg tys_ok ?_; conv => whnf) | refine ACode.s_block ?_ | refine ACode.s_scope ?_ | (refine ACode.s_cond ?_; conv => whnf) | (refine ACode.s_exit ?_; conv => whnf) | (refine ACode.s_ret ?_; conv => whnf) | (refine ACode.s_skip ?_; conv => whnf) | (refine ACode.s_label ?_; conv => whnf))
          rw [strs_len]
          refine ⟨fun h => ?_, fun h => ?_⟩
          · have h : k < a.co.length := by simpa using h
            have hal := ha.co
            conv => whnf
            repeat (first | refine ACode.seq ?_ | (refine ACode.s_reg tys_ok ?_; conv => whnf) | refine ACode.s_block ?_ | refine ACode.s_scope ?_ | (refine ACode.s_cond ?_; conv => whnf) | (refine ACode.s_exit ?_; conv => whnf) | (refine ACode.s_ret ?_; conv => whnf) | (refine ACode.s_skip ?_; conv => whnf) | (refine ACode.s_label ?_; conv => whnf))
            refine ACode.draw [] tys_ok (by kernel_rfl) (by kernel_rfl) ?_
            conv => whnf
            refine ⟨by omega, _, strs_get a.co k h, ?_⟩
            conv => whnf
            refine ⟨by omega, _, strs_get a.co k h, ?_⟩
            conv => whnf
            repeat (first | refine ACode.seq ?_ | (refine ACode.s_reg tys_ok ?_; conv => whnf) | refine ACode.s_block ?_ | refine ACode.s_scope ?_ | (refine ACode.s_cond ?_; conv => whnf) | (refine ACode.s_exit ?_; conv => whnf) | (refine ACode.s_ret ?_; conv => whnf) | (refine ACode.s_skip ?_; conv => whnf) | (refine ACode.s_label ?_; conv => whnf))
            refine ⟨fun h9 => absurd h9 (by simp), fun _ => ?_⟩
            conv => whnf
            repeat (first | refine ACode.seq ?_ | (refine ACode.s_reg tys_ok ?_; conv => whnf) | refine ACode.s_block ?_ | refine ACode.s_scope ?_ | (refine ACode.s_cond ?_; conv => whnf) | (refine ACode.s_exit ?_; conv => whnf) | (refine ACode.s_ret ?_; conv => whnf) | (refine ACode.s_skip ?_; conv => whnf) | (refine ACode.s_label ?_; conv => whnf))
            refine ⟨k + 1, ?_⟩
            conv => whnf
            repeat (refine And.intro ?_ ?_; (focus (first | rfl | (simp; done) | (first | (rw [Wr64 _ (by omega) (by omega)]; done) | (rw [Wr64 _ (by omega) (by omega)]; rfl); done))); conv => whnf)
            exact ⟨by omega, by omega⟩
          · conv => whnf
            repeat (first | refine ACode.seq ?_ | (refine ACode.s_reg tys_ok ?_; conv => whnf) | refine ACode.s_block ?_ | refine ACode.s_scope ?_ | (refine ACode.s_cond ?_; conv => whnf) | (refine ACode.s_exit ?_; conv => whnf) | (refine ACode.s_ret ?_; conv => whnf) | (refine ACode.s_skip ?_; conv => whnf) | (refine ACode.s_label ?_; conv => whnf))
            exact .inr rfl
    · repeat (first | (refine ACall.of_spec (compare_spec b a hb.co) rfl fun r hr => ?_; subst hr; conv => whnf) | (refine ACall.of_spec (compare_spec a a ha.co) rfl fun r hr => ?_; subst hr; conv => whnf) | (refine no_br ?_ (fun _ => ?_); (focus (first | (simp [hw3, hw2]; done) | (simp [hw3, hw2]; omega) | omega; done)); conv => whnf) | (refine yes_br ?_ (fun _ => ?_); (focus (first | (simp [hw3, hw2]; done) | (simp [hw3, hw2]; omega) | omega; done)); conv => whnf) | refine ACode.seq ?_ | (refine ACode.s_reg tys_ok ?_; conv => whnf) | refine ACode.s_block ?_ | refine ACode.s_scope ?_ | (refine ACode.s_cond ?_; conv => whnf) | (refine ACode.s_exit ?_; conv => whnf) | (refine ACode.s_ret ?_; conv => whnf) | (refine ACode.s_skip ?_; conv => whnf) | (refine ACode.s_label ?_; conv => whnf))
      refine ACode.loopD (fun k : Nat => mk 142 [(3, .ptr 0 0), (4, .ptr 1 0), (6, .lit false), (7, .bool true), (11, .int .i64 k)]) (fun _ => [.cells [.int .i64 a.sc, .int .i64 a.nu, .int .i64 a.ki, .int .i64 a.ti, .str a.la, .sl 1 (strs a.co)], .cells [.int .i64 a.sc, .int .i64 a.nu, .int .i64 a.ki, .int .i64 a.ti, .str a.la, .sl 1 (strs a.co)], .cells [.int .i64 c.sc, .int .i64 c.nu, .int .i64 c.ki, .int .i64 c.ti, .str c.la, .sl 1 (strs c.co)]])
        (fun k => k ≤ a.co.length) (fun k => a.co.length - k) (fun _ _ => ⟨rfl, rfl, rfl, rfl, trivial⟩) ⟨0, ?_⟩ (fun _ => rfl) fun k hk => ?_
      · conv => whnf
        repeat (refine And.intro ?_ ?_; (focus (first | rfl | (simp; done))); conv => whnf)
        exact Nat.zero_le _
      · repeat (first | refine ACode.seq ?_ | (refine ACode.s_reg tys_ok ?_; conv => whnf) | refine ACode.s_block ?_ | refine ACode.s_scope ?_ | (refine ACode.s_cond ?_; conv => whnf) | (refine ACode.s_exit ?_; conv => whnf) | (refine ACode.s_ret ?_; conv => whnf) | (refine ACode.s_skip ?_; conv => whnf) | (refine ACode.s_label ?_; conv => whnf))
        rw [strs_len]
        refine ⟨fun h => ?_, fun h => ?_⟩
        · have h : k < a.co.length := by simpa using h
          have hal := ha.co
          conv => whnf
          repeat (first | refine ACode.seq ?_ | (refine ACode.s_reg tys_ok ?_; conv => whnf) | refine ACode.s_block ?_ | refine ACode.s_scope ?_ | (refine ACode.s_cond ?_; conv => whnf) | (refine ACode.s_exit ?_; conv => whnf) | (refine ACode.s_ret ?_; conv => whnf) | (refine ACode.s_skip ?_; conv => whnf) | (refine ACode.s_label ?_; conv => whnf))
          refine ACode.draw [] tys_ok (by kernel_rfl) (by kernel_rfl) ?_
          conv => whnf
          refine ⟨by omega, _, strs_get a.co k h, ?_⟩
          conv => whnf
          refine ⟨by omega, _, strs_get a.co k h, ?_⟩
          conv => whnf
          repeat (first | refine ACode.seq ?_ | (refine ACode.s_reg tys_ok ?_; conv => whnf) | refine ACode.s_block ?_ | refine ACode.s_scope ?_ | (refine ACode.s_cond ?_; conv => whnf) | (refine ACode.s_exit ?_; conv => whnf) | (refine ACode.s_ret ?_; conv => whnf) | (refine ACode.s_skip ?_; conv => whnf) | (refine ACode.s_label ?_; conv => whnf))
          refine ⟨fun h9 => absurd h9 (by simp), fun _ => ?_⟩
          conv => whnf
          repeat (first | refine ACode.seq ?_ | (refine ACode.s_reg tys_ok ?_; conv => whnf) | refine ACode.s_block ?_ | refine ACode.s_scope ?_ | (refine ACode.s_cond ?_; conv => whnf) | (refine ACode.s_exit ?_; conv => whnf) | (refine ACode.s_ret ?_; conv => whnf) | (refine ACode.s_skip ?_; conv => whnf) | (refine ACode.s_label ?_; conv => whnf))
          refine ⟨k + 1, ?_⟩
          conv => whnf
          repeat (refine And.intro ?_ ?_; (focus (first | rfl | (simp; done) | (first | (rw [Wr64 _ (by omega) (by omega)]; done) | (rw [Wr64 _ (by omega) (by omega)]; rfl); done))); conv => whnf)
          exact ⟨by omega, by omega⟩
        · conv => whnf
          repeat (first | refine ACode.seq ?_ | (refine ACode.s_reg tys_ok ?_; conv => whnf) | refine ACode.s_block ?_ | refine ACode.s_scope ?_ | (refine ACode.s_cond ?_; conv => whnf) | (refine ACode.s_exit ?_; conv => whnf) | (refine ACode.s_ret ?_; conv => whnf) | (refine ACode.s_skip ?_; conv => whnf) | (refine ACode.s_label ?_; conv => whnf))
          exact .inr rfl
end Go.Proofs.YtiojkoaefabjbaaGreatDoor
