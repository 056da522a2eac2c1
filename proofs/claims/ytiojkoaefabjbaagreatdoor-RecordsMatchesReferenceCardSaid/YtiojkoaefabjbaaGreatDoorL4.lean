/-
  RecordsParts.
-/
import Derived.Test.YtiojkoaefabjbaaGreatDoorL3
set_option linter.unusedVariables false
set_option linter.unusedSimpArgs false
namespace Go.Proofs.YtiojkoaefabjbaaGreatDoor
open Go.Av Go.Shelf Pl Go.RowKit
theorem few_ok {l : List Sn} {r : List Rc} (h1 : fewB l r 12 = true) : l.length ≤ 30 ∧ r.length ≤ 12 ∧ ∀ y ∈ r, RcOK y := by
  unfold fewB at h1
  simp only [Bool.and_eq_true, decide_eq_true_eq, List.all_eq_true] at h1
  exact ⟨h1.1.1, by omega, fun y hy => short_ok (h1.2 y hy)⟩
set_option maxHeartbeats 4000000 in
set_option maxRecDepth 100000 in
theorem parts_law (l : List Sn) (a b : List Rc) : Ctr Tryz.prog 6 [sns l, rcs a, rcs b] (fun x => x = .bool true) := by
  refine Ctr.lits ?_
  refine Ctr.of_body Tryz.func6 rfl tys_ok (by kernel_rfl) ?_
  conv => whnf
  repeat (first | refine ACode.seq ?_ | (refine ACode.s_reg tys_ok ?_; conv => whnf) | refine ACode.s_block ?_ | refine ACode.s_scope ?_ | (refine ACode.s_cond ?_; conv => whnf) | (refine ACode.s_exit ?_; conv => whnf) | (refine ACode.s_ret ?_; conv => whnf) | (refine ACode.s_skip ?_; conv => whnf) | (refine ACode.s_label ?_; conv => whnf))
  refine ACall.of_spec (head_spec) rfl fun r hr => ?_
  subst hr
  conv => whnf
  repeat (first | refine ACode.seq ?_ | (refine ACode.s_reg tys_ok ?_; conv => whnf) | refine ACode.s_block ?_ | refine ACode.s_scope ?_ | (refine ACode.s_cond ?_; conv => whnf) | (refine ACode.s_exit ?_; conv => whnf) | (refine ACode.s_ret ?_; conv => whnf) | (refine ACode.s_skip ?_; conv => whnf) | (refine ACode.s_label ?_; conv => whnf))
  repeat' (first | (refine And.intro (fun _ => ?_) (fun _ => ?_) <;> conv => whnf) | (refine ACall.of_spec (few_spec l a 12 (by decide)) rfl fun r hr => ?_; subst hr; conv => whnf) | (refine ACall.of_spec (few_spec l b 12 (by decide)) rfl fun r hr => ?_; subst hr; conv => whnf) | refine ACode.seq ?_ | (refine ACode.s_reg tys_ok ?_; conv => whnf) | refine ACode.s_block ?_ | refine ACode.s_scope ?_ | (refine ACode.s_cond ?_; conv => whnf) | (refine ACode.s_exit ?_; conv => whnf) | (refine ACode.s_ret ?_; conv => whnf) | (refine ACode.s_skip ?_; conv => whnf) | (refine ACode.s_label ?_; conv => whnf))
  · exact .inr rfl
  · rename_i h1 h2
    obtain ⟨_, hal, hax⟩ := few_ok (by simpa using h1)
    obtain ⟨_, hbl, hbx⟩ := few_ok (by simpa using h2)
    refine ⟨⟨rfl, by simp; omega⟩, ?_⟩
    rw [List.nil_append]
    conv => whnf
    repeat (first | refine ACode.seq ?_ | (refine ACode.s_reg tys_ok ?_; conv => whnf) | refine ACode.s_block ?_ | refine ACode.s_scope ?_ | (refine ACode.s_cond ?_; conv => whnf) | (refine ACode.s_exit ?_; conv => whnf) | (refine ACode.s_ret ?_; conv => whnf) | (refine ACode.s_skip ?_; conv => whnf) | (refine ACode.s_label ?_; conv => whnf))
    refine ⟨⟨by simp, by simp; omega⟩, ?_⟩
    rw [show List.map Rc.v a ++ List.map Rc.v b = rv (a ++ b) by simp [rv]]
    conv => whnf
    repeat (first | refine ACode.seq ?_ | (refine ACode.s_reg tys_ok ?_; conv => whnf) | refine ACode.s_block ?_ | refine ACode.s_scope ?_ | (refine ACode.s_cond ?_; conv => whnf) | (refine ACode.s_exit ?_; conv => whnf) | (refine ACode.s_ret ?_; conv => whnf) | (refine ACode.s_skip ?_; conv => whnf) | (refine ACode.s_label ?_; conv => whnf))
    refine ACall.freeze 0 ?_ (by kernel_rfl)
    conv => whnf
    refine ⟨rv_closed _, ?_⟩
    conv => whnf
    repeat (refine ⟨(by first | rfl | (simp; done) : (_ : Nat) = _), ?_⟩; conv => whnf)
    have habx : ∀ y ∈ a ++ b, RcOK y := fun y hy => (List.mem_append.1 hy).elim (hax y) (hbx y)
    refine ACall.of_spec (normalAny_spec l (a ++ b) (by simp; omega) habx) rfl fun x hxx => ?_
    obtain ⟨N, rfl, hN⟩ := hxx
    have hNx : ∀ y ∈ N, RcOK y := fun y hy => habx y ((hN.2 y).1 hy).1
    have hNl : N.length ≤ 24 := Nat.le_trans (norm_len hN) (by simp; omega)
    conv => whnf
    repeat (first | refine ACode.seq ?_ | (refine ACode.s_reg tys_ok ?_; conv => whnf) | refine ACode.s_block ?_ | refine ACode.s_scope ?_ | (refine ACode.s_cond ?_; conv => whnf) | (refine ACode.s_exit ?_; conv => whnf) | (refine ACode.s_ret ?_; conv => whnf) | (refine ACode.s_skip ?_; conv => whnf) | (refine ACode.s_label ?_; conv => whnf))
    refine ACall.of_spec (normalAny_spec l a (by omega) hax) rfl fun x hxx => ?_
    obtain ⟨A, rfl, hA⟩ := hxx
    have hAx : ∀ y ∈ A, RcOK y := fun y hy => hax y ((hA.2 y).1 hy).1
    have hAl : A.length ≤ 12 := Nat.le_trans (norm_len hA) hal
    conv => whnf
    repeat (first | refine ACode.seq ?_ | (refine ACode.s_reg tys_ok ?_; conv => whnf) | refine ACode.s_block ?_ | refine ACode.s_scope ?_ | (refine ACode.s_cond ?_; conv => whnf) | (refine ACode.s_exit ?_; conv => whnf) | (refine ACode.s_ret ?_; conv => whnf) | (refine ACode.s_skip ?_; conv => whnf) | (refine ACode.s_label ?_; conv => whnf))
    refine ACall.of_spec (normalAny_spec l b (by omega) hbx) rfl fun x hxx => ?_
    obtain ⟨B, rfl, hB⟩ := hxx
    have hBx : ∀ y ∈ B, RcOK y := fun y hy => hbx y ((hB.2 y).1 hy).1
    have hBl : B.length ≤ 12 := Nat.le_trans (norm_len hB) hbl
    conv => whnf
    repeat (first | refine ACode.seq ?_ | (refine ACode.s_reg tys_ok ?_; conv => whnf) | refine ACode.s_block ?_ | refine ACode.s_scope ?_ | (refine ACode.s_cond ?_; conv => whnf) | (refine ACode.s_exit ?_; conv => whnf) | (refine ACode.s_ret ?_; conv => whnf) | (refine ACode.s_skip ?_; conv => whnf) | (refine ACode.s_label ?_; conv => whnf))
    refine ⟨fun _ => ?_, fun h => absurd h (by simp)⟩
    conv => whnf
    repeat (first | refine ACode.seq ?_ | (refine ACode.s_reg tys_ok ?_; conv => whnf) | refine ACode.s_block ?_ | refine ACode.s_scope ?_ | (refine ACode.s_cond ?_; conv => whnf) | (refine ACode.s_exit ?_; conv => whnf) | (refine ACode.s_ret ?_; conv => whnf) | (refine ACode.s_skip ?_; conv => whnf) | (refine ACode.s_label ?_; conv => whnf))
    refine ⟨⟨rfl, by simp; omega⟩, ?_⟩
    rw [List.nil_append]
    conv => whnf
    repeat (first | refine ACode.seq ?_ | (refine ACode.s_reg tys_ok ?_; conv => whnf) | refine ACode.s_block ?_ | refine ACode.s_scope ?_ | (refine ACode.s_cond ?_; conv => whnf) | (refine ACode.s_exit ?_; conv => whnf) | (refine ACode.s_ret ?_; conv => whnf) | (refine ACode.s_skip ?_; conv => whnf) | (refine ACode.s_label ?_; conv => whnf))
    refine ⟨⟨by simp, by simp; omega⟩, ?_⟩
    rw [show List.map Rc.v A ++ List.map Rc.v B = rv (A ++ B) by simp [rv]]
    conv => whnf
    repeat (first | refine ACode.seq ?_ | (refine ACode.s_reg tys_ok ?_; conv => whnf) | refine ACode.s_block ?_ | refine ACode.s_scope ?_ | (refine ACode.s_cond ?_; conv => whnf) | (refine ACode.s_exit ?_; conv => whnf) | (refine ACode.s_ret ?_; conv => whnf) | (refine ACode.s_skip ?_; conv => whnf) | (refine ACode.s_label ?_; conv => whnf))
    refine ACall.freeze 1 ?_ (by kernel_rfl)
    conv => whnf
    refine ⟨rv_closed _, ?_⟩
    conv => whnf
    repeat (refine ⟨(by first | rfl | (simp; done) : (_ : Nat) = _), ?_⟩; conv => whnf)
    refine ACall.of_spec (normalAny_spec l (A ++ B) (by simp; omega) (fun y hy => (List.mem_append.1 hy).elim (hAx y) (hBx y))) rfl fun x hxx => ?_
    obtain ⟨M, rfl, hM⟩ := hxx
    have e : M = N := strict_unique cmpR_ok M N hM.1 hN.1 fun y => by
      rw [hM.2, hN.2, List.mem_append, List.mem_append, hA.2, hB.2]
      constructor
      · rintro ⟨⟨h, _⟩ | ⟨h, _⟩, hv⟩
        · exact ⟨by simp [h], hv⟩
        · exact ⟨by simp [h], hv⟩
      · rintro ⟨h | h, hv⟩
        · exact ⟨by simp [h, hv], hv⟩
        · exact ⟨by simp [h, hv], hv⟩
    subst e
    conv => whnf
    repeat (first | refine ACode.seq ?_ | (refine ACode.s_reg tys_ok ?_; conv => whnf) | refine ACode.s_block ?_ | refine ACode.s_scope ?_ | (refine ACode.s_cond ?_; conv => whnf) | (refine ACode.s_exit ?_; conv => whnf) | (refine ACode.s_ret ?_; conv => whnf) | (refine ACode.s_skip ?_; conv => whnf) | (refine ACode.s_label ?_; conv => whnf))
    refine ACall.of_spec (same_spec M M (by omega) (fun y hy => (hNx y hy).co)) rfl fun r hr => ?_
    subst hr
    conv => whnf
    repeat (first | refine ACode.seq ?_ | (refine ACode.s_reg tys_ok ?_; conv => whnf) | refine ACode.s_block ?_ | refine ACode.s_scope ?_ | (refine ACode.s_cond ?_; conv => whnf) | (refine ACode.s_exit ?_; conv => whnf) | (refine ACode.s_ret ?_; conv => whnf) | (refine ACode.s_skip ?_; conv => whnf) | (refine ACode.s_label ?_; conv => whnf))
    refine ⟨fun _ => ?_, fun h => absurd h (by simp)⟩
    conv => whnf
    repeat (first | refine ACode.seq ?_ | (refine ACode.s_reg tys_ok ?_; conv => whnf) | refine ACode.s_block ?_ | refine ACode.s_scope ?_ | (refine ACode.s_cond ?_; conv => whnf) | (refine ACode.s_exit ?_; conv => whnf) | (refine ACode.s_ret ?_; conv => whnf) | (refine ACode.s_skip ?_; conv => whnf) | (refine ACode.s_label ?_; conv => whnf))
    refine ⟨⟨rfl, by simp; omega⟩, ?_⟩
    rw [List.nil_append]
    conv => whnf
    repeat (first | refine ACode.seq ?_ | (refine ACode.s_reg tys_ok ?_; conv => whnf) | refine ACode.s_block ?_ | refine ACode.s_scope ?_ | (refine ACode.s_cond ?_; conv => whnf) | (refine ACode.s_exit ?_; conv => whnf) | (refine ACode.s_ret ?_; conv => whnf) | (refine ACode.s_skip ?_; conv => whnf) | (refine ACode.s_label ?_; conv => whnf))
    refine ⟨⟨by simp, by simp; omega⟩, ?_⟩
    rw [show List.map Rc.v B ++ List.map Rc.v A = rv (B ++ A) by simp [rv]]
    conv => whnf
    repeat (first | refine ACode.seq ?_ | (refine ACode.s_reg tys_ok ?_; conv => whnf) | refine ACode.s_block ?_ | refine ACode.s_scope ?_ | (refine ACode.s_cond ?_; conv => whnf) | (refine ACode.s_exit ?_; conv => whnf) | (refine ACode.s_ret ?_; conv => whnf) | (refine ACode.s_skip ?_; conv => whnf) | (refine ACode.s_label ?_; conv => whnf))
    refine ACall.freeze 2 ?_ (by kernel_rfl)
    conv => whnf
    refine ⟨rv_closed _, ?_⟩
    conv => whnf
    repeat (refine ⟨(by first | rfl | (simp; done) : (_ : Nat) = _), ?_⟩; conv => whnf)
    refine ACall.of_spec (normalAny_spec l (B ++ A) (by simp; omega) (fun y hy => (List.mem_append.1 hy).elim (hBx y) (hAx y))) rfl fun x hxx => ?_
    obtain ⟨M2, rfl, hM2⟩ := hxx
    have e : M2 = M := strict_unique cmpR_ok M2 M hM2.1 hN.1 fun y => by
      rw [hM2.2, hN.2, List.mem_append, List.mem_append, hA.2, hB.2]
      constructor
      · rintro ⟨⟨h, _⟩ | ⟨h, _⟩, hv⟩
        · exact ⟨by simp [h], hv⟩
        · exact ⟨by simp [h], hv⟩
      · rintro ⟨h | h, hv⟩
        · exact ⟨by simp [h, hv], hv⟩
        · exact ⟨by simp [h, hv], hv⟩
    subst e
    conv => whnf
    repeat (first | refine ACode.seq ?_ | (refine ACode.s_reg tys_ok ?_; conv => whnf) | refine ACode.s_block ?_ | refine ACode.s_scope ?_ | (refine ACode.s_cond ?_; conv => whnf) | (refine ACode.s_exit ?_; conv => whnf) | (refine ACode.s_ret ?_; conv => whnf) | (refine ACode.s_skip ?_; conv => whnf) | (refine ACode.s_label ?_; conv => whnf))
    refine ACall.of_spec (same_spec M2 M2 (by omega) (fun y hy => (hNx y hy).co)) rfl fun r hr => ?_
    subst hr
    conv => whnf
    repeat (first | refine ACode.seq ?_ | (refine ACode.s_reg tys_ok ?_; conv => whnf) | refine ACode.s_block ?_ | refine ACode.s_scope ?_ | (refine ACode.s_cond ?_; conv => whnf) | (refine ACode.s_exit ?_; conv => whnf) | (refine ACode.s_ret ?_; conv => whnf) | (refine ACode.s_skip ?_; conv => whnf) | (refine ACode.s_label ?_; conv => whnf))
    exact .inr (by simp)
  · exact .inr rfl
end Go.Proofs.YtiojkoaefabjbaaGreatDoor
