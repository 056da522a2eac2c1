/-
  records.Normal, for 12 records or fewer.
-/
import Derived.Test.YtiojkoaefabjbaaGreatDoorF6
set_option linter.unusedVariables false
set_option linter.unusedSimpArgs false
namespace Go.Proofs.YtiojkoaefabjbaaGreatDoor
open Go.Av Go.Shelf Pl Go.RowKit
/-- What Normal hands back. -/
def NormR (l : List Sn) (r N : List Rc) : Prop := Strict cmpR N ∧ ∀ y, y ∈ N ↔ y ∈ r ∧ validB l y = true
set_option maxRecDepth 100000 in
theorem normal_spec (l : List Sn) (r : List Rc) (hl : r.length ≤ 12) (hx : ∀ y ∈ r, RcOK y) : Ctr Tryz.prog 20 [sns l, rcs r] (fun x => ∃ N, x = rcs N ∧ NormR l r N) := by
  refine Ctr.of_body Tryz.func20 rfl tys_ok (by kernel_rfl) ?_
  conv => whnf
  repeat (first | refine ACode.seq ?_ | (refine ACode.s_reg tys_ok ?_; conv => whnf) | refine ACode.s_block ?_ | refine ACode.s_scope ?_ | (refine ACode.s_cond ?_; conv => whnf) | (refine ACode.s_exit ?_; conv => whnf) | (refine ACode.s_ret ?_; conv => whnf) | (refine ACode.s_skip ?_; conv => whnf) | (refine ACode.s_label ?_; conv => whnf))
  refine ACode.nilArr 5 eT 6 rfl ?_
  refine ACode.loopD (fun k : Nat => mk 44 [(0, sns l), (1, rcs r), (5, .own 0 6 0 ((r.take k).filter (validB l ·)).length), (9, rcs r), (10, .int .i64 r.length), (11, .int .i64 k)]) (fun k => [.arr eT 6 (rv ((r.take k).filter (validB l ·)))]) (fun k => k ≤ r.length) (fun k => r.length - k) (fun _ _ => ⟨rfl, rv_ok _⟩) ⟨0, ?_⟩ (fun _ => rfl) fun k hk => ?_
  · conv => whnf
    repeat (refine And.intro ?_ ?_; (focus (first | rfl | (simp; done) | (first | (simp [rv]; done); done))); conv => whnf)
    exact Nat.zero_le _
  · repeat (first | refine ACode.seq ?_ | (refine ACode.s_reg tys_ok ?_; conv => whnf) | refine ACode.s_block ?_ | refine ACode.s_scope ?_ | (refine ACode.s_cond ?_; conv => whnf) | (refine ACode.s_exit ?_; conv => whnf) | (refine ACode.s_ret ?_; conv => whnf) | (refine ACode.s_skip ?_; conv => whnf) | (refine ACode.s_label ?_; conv => whnf))
    refine ⟨fun h => ?_, fun h => ?_⟩
    · have h : k < r.length := by simpa using h
      conv => whnf
      repeat (first | refine ACode.seq ?_ | (refine ACode.s_reg tys_ok ?_; conv => whnf) | refine ACode.s_block ?_ | refine ACode.s_scope ?_ | (refine ACode.s_cond ?_; conv => whnf) | (refine ACode.s_exit ?_; conv => whnf) | (refine ACode.s_ret ?_; conv => whnf) | (refine ACode.s_skip ?_; conv => whnf) | (refine ACode.s_label ?_; conv => whnf))
      refine ⟨by omega, r[k].v, by rw [Int.toNat_natCast]; exact rv_get r k h, ?_⟩
      conv => whnf
      repeat (first | refine ACode.seq ?_ | (refine ACode.s_reg tys_ok ?_; conv => whnf) | refine ACode.s_block ?_ | refine ACode.s_scope ?_ | (refine ACode.s_cond ?_; conv => whnf) | (refine ACode.s_exit ?_; conv => whnf) | (refine ACode.s_ret ?_; conv => whnf) | (refine ACode.s_skip ?_; conv => whnf) | (refine ACode.s_label ?_; conv => whnf))
      refine ACall.of_spec (valid_spec l r[k] (hx _ (List.getElem_mem h))) rfl fun r hr => ?_
      subst hr
      conv => whnf
      repeat (first | refine ACode.seq ?_ | (refine ACode.s_reg tys_ok ?_; conv => whnf) | refine ACode.s_block ?_ | refine ACode.s_scope ?_ | (refine ACode.s_cond ?_; conv => whnf) | (refine ACode.s_exit ?_; conv => whnf) | (refine ACode.s_ret ?_; conv => whnf) | (refine ACode.s_skip ?_; conv => whnf) | (refine ACode.s_label ?_; conv => whnf))
      refine ⟨fun h2 => ?_, fun h2 => ?_⟩
      · have h2 : validB l r[k] = true := by simpa using h2
        have hf : (r.take (k + 1)).filter (validB l ·) = (r.take k).filter (validB l ·) ++ [r[k]] := by rw [List.take_succ_eq_append_getElem h, List.filter_append]; simp [h2]
        have hfl : ((r.take k).filter (validB l ·)).length ≤ k := Nat.le_trans (List.length_filter_le _ _) (by simp; omega)
        conv => whnf
        repeat (first | refine ACode.seq ?_ | (refine ACode.s_reg tys_ok ?_; conv => whnf) | refine ACode.s_block ?_ | refine ACode.s_scope ?_ | (refine ACode.s_cond ?_; conv => whnf) | (refine ACode.s_exit ?_; conv => whnf) | (refine ACode.s_ret ?_; conv => whnf) | (refine ACode.s_skip ?_; conv => whnf) | (refine ACode.s_label ?_; conv => whnf))
        refine ⟨rfl, ?_⟩
        conv => whnf
        refine ⟨⟨by simp [rv], by simp [rv]; omega⟩, ?_⟩
        conv => whnf
        repeat (first | refine ACode.seq ?_ | (refine ACode.s_reg tys_ok ?_; conv => whnf) | refine ACode.s_block ?_ | refine ACode.s_scope ?_ | (refine ACode.s_cond ?_; conv => whnf) | (refine ACode.s_exit ?_; conv => whnf) | (refine ACode.s_ret ?_; conv => whnf) | (refine ACode.s_skip ?_; conv => whnf) | (refine ACode.s_label ?_; conv => whnf))
        refine ⟨k + 1, ?_⟩
        conv => whnf
        repeat (refine And.intro ?_ ?_; (focus (first | rfl | (simp; done) | (first | (rw [Wr64 _ (by omega) (by omega)]; done) | (rw [hf]; simp [rv]; done) | (rw [Wr64 _ (by omega) (by omega)]; rfl); done))); conv => whnf)
        refine ⟨?_, by omega, by omega⟩
        rw [hf]
        simp [rv, Rc.v]
      · have h2 : validB l r[k] = false := by simpa using h2
        have hf : (r.take (k + 1)).filter (validB l ·) = (r.take k).filter (validB l ·) := by rw [List.take_succ_eq_append_getElem h, List.filter_append]; simp [h2]
        conv => whnf
        repeat (first | refine ACode.seq ?_ | (refine ACode.s_reg tys_ok ?_; conv => whnf) | refine ACode.s_block ?_ | refine ACode.s_scope ?_ | (refine ACode.s_cond ?_; conv => whnf) | (refine ACode.s_exit ?_; conv => whnf) | (refine ACode.s_ret ?_; conv => whnf) | (refine ACode.s_skip ?_; conv => whnf) | (refine ACode.s_label ?_; conv => whnf))
        refine ⟨k + 1, ?_⟩
        conv => whnf
        repeat (refine And.intro ?_ ?_; (focus (first | rfl | (simp; done) | (first | (rw [Wr64 _ (by omega) (by omega)]; done) | (rw [hf]; done) | (rw [Wr64 _ (by omega) (by omega)]; rfl); done))); conv => whnf)
        exact ⟨by omega, by omega⟩
    · have h : k = r.length := by simp at h; omega
      subst h
      conv => whnf
      repeat (first | refine ACode.seq ?_ | (refine ACode.s_reg tys_ok ?_; conv => whnf) | refine ACode.s_block ?_ | refine ACode.s_scope ?_ | (refine ACode.s_cond ?_; conv => whnf) | (refine ACode.s_exit ?_; conv => whnf) | (refine ACode.s_ret ?_; conv => whnf) | (refine ACode.s_skip ?_; conv => whnf) | (refine ACode.s_label ?_; conv => whnf))
      have hF : ∀ y, y ∈ (r.take r.length).filter (validB l ·) ↔ y ∈ r ∧ validB l y = true := by intro y; rw [List.take_length]; exact List.mem_filter
      have hFl : ((r.take r.length).filter (validB l ·)).length ≤ 12 := by rw [List.take_length]; exact Nat.le_trans (List.length_filter_le _ _) hl
      generalize (r.take r.length).filter (validB l ·) = f at *
      have hfx : ∀ y ∈ f, RcOK y := fun y hy => hx y ((hF y).1 hy).1
      refine ACall.of_hf (sort_spec f hFl hfx) rfl ⟨rfl, rv_closed _, trivial⟩ ?_
      rintro r1 es ⟨rfl, f1, rfl, hp, hs⟩ hlen
      have hl1 : f1.length = f.length := hp.length_eq
      conv => whnf
      repeat (first | refine ACode.seq ?_ | (refine ACode.s_reg tys_ok ?_; conv => whnf) | refine ACode.s_block ?_ | refine ACode.s_scope ?_ | (refine ACode.s_cond ?_; conv => whnf) | (refine ACode.s_exit ?_; conv => whnf) | (refine ACode.s_ret ?_; conv => whnf) | (refine ACode.s_skip ?_; conv => whnf) | (refine ACode.s_label ?_; conv => whnf))
      have hf1 : ∀ y ∈ f1, RcOK y := fun y hy => hfx y (hp.mem_iff.1 hy)
      have hc := compactF_spec f1 (by omega) hf1
      rw [hl1] at hc
      refine ACall.of_h hc rfl ⟨rfl, rv_closed _, trivial⟩ ?_ (fun r H1 h => h.elim)
      rintro r2 H1 ⟨z, rfl, rfl⟩
      have hst := compact_strict cmpR_ok f1 hs
      have hmem : ∀ y, y ∈ compactC cmpR f1 ↔ y ∈ r ∧ validB l y = true := fun y => by rw [compact_mem cmpR_ok, hp.mem_iff, hF]
      have hNl := compact_len f1
      generalize compactC cmpR f1 = N at *
      conv => whnf
      repeat (first | refine ACode.seq ?_ | (refine ACode.s_reg tys_ok ?_; conv => whnf) | refine ACode.s_block ?_ | refine ACode.s_scope ?_ | (refine ACode.s_cond ?_; conv => whnf) | (refine ACode.s_exit ?_; conv => whnf) | (refine ACode.s_ret ?_; conv => whnf) | (refine ACode.s_skip ?_; conv => whnf) | (refine ACode.s_label ?_; conv => whnf))
      refine ACode.trunc (E' := []) (H' := []) 0 5 rfl rfl (by simp [rv]) (show (rv N ++ z).take N.length = rv N by rw [List.take_left' (by simp [rv])]) ?_
      conv => whnf
      have hNx : ∀ y ∈ N, RcOK y := fun y hy => hx y ((hmem y).1 hy).1
      refine ACode.loopD (fun k : Nat => mk 44 [(5, .own 0 6 0 N.length), (28, .int .i64 N.length), (29, .int .i64 k)]) (fun k => [.arr eT 6 (rv N)]) (fun k => k ≤ N.length) (fun k => N.length - k) (fun _ _ => ⟨rfl, rv_ok _⟩) ⟨0, ?_⟩ (fun _ => rfl) fun k hk => ?_
      · conv => whnf
        repeat (refine And.intro ?_ ?_; (focus (first | rfl | (simp; done))); conv => whnf)
        exact Nat.zero_le _
      · repeat (first | refine ACode.seq ?_ | (refine ACode.s_reg tys_ok ?_; conv => whnf) | refine ACode.s_block ?_ | refine ACode.s_scope ?_ | (refine ACode.s_cond ?_; conv => whnf) | (refine ACode.s_exit ?_; conv => whnf) | (refine ACode.s_ret ?_; conv => whnf) | (refine ACode.s_skip ?_; conv => whnf) | (refine ACode.s_label ?_; conv => whnf))
        refine ⟨fun h => ?_, fun h => ?_⟩
        · have h : k < N.length := by simpa using h
          have hc := (hNx _ (List.getElem_mem h)).co
          conv => whnf
          repeat (first | refine ACode.seq ?_ | (refine ACode.s_reg tys_ok ?_; conv => whnf) | refine ACode.s_block ?_ | refine ACode.s_scope ?_ | (refine ACode.s_cond ?_; conv => whnf) | (refine ACode.s_exit ?_; conv => whnf) | (refine ACode.s_ret ?_; conv => whnf) | (refine ACode.s_skip ?_; conv => whnf) | (refine ACode.s_label ?_; conv => whnf))
          refine ⟨by omega, ?_⟩
          conv => whnf
          refine ⟨_, by rw [Nat.zero_add, Int.toNat_natCast]; exact rv_get N k h, ?_⟩
          conv => whnf
          repeat (first | refine ACode.seq ?_ | (refine ACode.s_reg tys_ok ?_; conv => whnf) | refine ACode.s_block ?_ | refine ACode.s_scope ?_ | (refine ACode.s_cond ?_; conv => whnf) | (refine ACode.s_exit ?_; conv => whnf) | (refine ACode.s_ret ?_; conv => whnf) | (refine ACode.s_skip ?_; conv => whnf) | (refine ACode.s_label ?_; conv => whnf))
          refine ACall.of_spec (clone_spec N[k].co (by omega)) rfl fun r hr => ?_
          subst hr
          conv => whnf
          repeat (first | refine ACode.seq ?_ | (refine ACode.s_reg tys_ok ?_; conv => whnf) | refine ACode.s_block ?_ | refine ACode.s_scope ?_ | (refine ACode.s_cond ?_; conv => whnf) | (refine ACode.s_exit ?_; conv => whnf) | (refine ACode.s_ret ?_; conv => whnf) | (refine ACode.s_skip ?_; conv => whnf) | (refine ACode.s_label ?_; conv => whnf))
          refine ⟨by omega, ?_⟩
          conv => whnf
          refine ⟨_, by rw [Nat.zero_add, Int.toNat_natCast]; exact rv_get N k h, ?_⟩
          conv => whnf
          repeat (first | refine ACode.seq ?_ | (refine ACode.s_reg tys_ok ?_; conv => whnf) | refine ACode.s_block ?_ | refine ACode.s_scope ?_ | (refine ACode.s_cond ?_; conv => whnf) | (refine ACode.s_exit ?_; conv => whnf) | (refine ACode.s_ret ?_; conv => whnf) | (refine ACode.s_skip ?_; conv => whnf) | (refine ACode.s_label ?_; conv => whnf))
          refine ⟨k + 1, ?_⟩
          conv => whnf
          repeat (refine And.intro ?_ ?_; (focus (first | rfl | (simp; done) | (first | (rw [Wr64 _ (by omega) (by omega)]; done) | (rw [Wr64 _ (by omega) (by omega)]; rfl); done))); conv => whnf)
          refine ⟨?_, by omega, by omega⟩
          refine congrArg (HO.arr eT 6) ?_
          rw [Nat.zero_add, Int.toNat_natCast]
          show (rv N).set k N[k].v = rv N
          apply List.ext_getElem?
          intro i
          by_cases hi : i = k
          · subst hi; rw [List.getElem?_set_self (by simpa [rv] using h), rv_get N _ h]
          · rw [List.getElem?_set_ne (Ne.symm hi)]
        · conv => whnf
          repeat (first | refine ACode.seq ?_ | (refine ACode.s_reg tys_ok ?_; conv => whnf) | refine ACode.s_block ?_ | refine ACode.s_scope ?_ | (refine ACode.s_cond ?_; conv => whnf) | (refine ACode.s_exit ?_; conv => whnf) | (refine ACode.s_ret ?_; conv => whnf) | (refine ACode.s_skip ?_; conv => whnf) | (refine ACode.s_label ?_; conv => whnf))
          refine ⟨⟨by simp [rv], rv_closed N⟩, ?_⟩
          exact ⟨N, rfl, hst, hmem⟩
end Go.Proofs.YtiojkoaefabjbaaGreatDoor
