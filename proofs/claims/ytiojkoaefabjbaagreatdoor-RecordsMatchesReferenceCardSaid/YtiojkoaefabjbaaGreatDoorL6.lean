/-
  RecordsMatchesReference.
-/
import Derived.Test.YtiojkoaefabjbaaGreatDoorG10
import Derived.Test.YtiojkoaefabjbaaGreatDoorS3
set_option linter.unusedVariables false
set_option linter.unusedSimpArgs false
namespace Go.Proofs.YtiojkoaefabjbaaGreatDoor
open Go.Av Go.Shelf Pl Go.RowKit
theorem rnormF_spec (l : List Sn) (r : List Rc) (hl : r.length ≤ 1000) (hx : ∀ y ∈ r, RcOK y) : Ctr Tryz.prog 21 [sns l, rcs r] (fun x => x = rcs (normF l r)) :=
  (rnormal_spec l r hl hx).weak fun x h => by
    obtain ⟨N, rfl, hN⟩ := h
    rw [norm_eq hN (normF_ok l r) fun _ => Iff.rfl]
set_option maxHeartbeats 4000000 in
set_option maxRecDepth 100000 in
theorem matches_law (l : List Sn) (r : List Rc) (text : Bs) (hl : text.length ≤ 9223372036854775807) : Ctr Tryz.prog 3 [sns l, rcs r, .str text] (fun x => x = .bool true) := by
  refine Ctr.lits ?_
  refine Ctr.of_body Tryz.func3 rfl tys_ok (by kernel_rfl) ?_
  conv => whnf
  repeat (first | refine ACode.seq ?_ | (refine ACode.s_reg tys_ok ?_; conv => whnf) | refine ACode.s_block ?_ | refine ACode.s_scope ?_ | (refine ACode.s_cond ?_; conv => whnf) | (refine ACode.s_exit ?_; conv => whnf) | (refine ACode.s_ret ?_; conv => whnf) | (refine ACode.s_skip ?_; conv => whnf) | (refine ACode.s_label ?_; conv => whnf))
  refine ACall.of_spec (head_spec) rfl fun r hr => ?_
  subst hr
  conv => whnf
  repeat (first | refine ACode.seq ?_ | (refine ACode.s_reg tys_ok ?_; conv => whnf) | refine ACode.s_block ?_ | refine ACode.s_scope ?_ | (refine ACode.s_cond ?_; conv => whnf) | (refine ACode.s_exit ?_; conv => whnf) | (refine ACode.s_ret ?_; conv => whnf) | (refine ACode.s_skip ?_; conv => whnf) | (refine ACode.s_label ?_; conv => whnf))
  repeat' (first | (refine And.intro (fun _ => ?_) (fun _ => ?_) <;> conv => whnf) | (refine ACall.of_spec (few_spec l r 12 (by decide)) rfl fun r hr => ?_; subst hr; conv => whnf) | refine ACode.seq ?_ | (refine ACode.s_reg tys_ok ?_; conv => whnf) | refine ACode.s_block ?_ | refine ACode.s_scope ?_ | (refine ACode.s_cond ?_; conv => whnf) | (refine ACode.s_exit ?_; conv => whnf) | (refine ACode.s_ret ?_; conv => whnf) | (refine ACode.s_skip ?_; conv => whnf) | (refine ACode.s_label ?_; conv => whnf))
  · exact .inr rfl
  · rename_i h1 h2
    obtain ⟨_, hrl, hrx⟩ := few_ok (by simpa using h1)
    have htl : text.length ≤ 1500 := by simp at h2; omega
    refine ACall.of_spec (parse_spec text hl) rfl fun z hz => ?_
    rcases hz with ⟨q, hq1, hq2, rfl⟩ | ⟨hq, rfl⟩
    · conv => whnf
      repeat (first | refine ACode.seq ?_ | (refine ACode.s_reg tys_ok ?_; conv => whnf) | refine ACode.s_block ?_ | refine ACode.s_scope ?_ | (refine ACode.s_cond ?_; conv => whnf) | (refine ACode.s_exit ?_; conv => whnf) | (refine ACode.s_ret ?_; conv => whnf) | (refine ACode.s_skip ?_; conv => whnf) | (refine ACode.s_label ?_; conv => whnf))
      refine ACall.of_spec (rparse_spec text htl) rfl fun z hz => ?_
      rcases hz with ⟨q', hq1', hq2', rfl⟩ | ⟨hq', rfl⟩
      · have e : q' = q := text_inj hq1' hq1 (by rw [hq2, hq2'])
        subst e
        conv => whnf
        repeat (first | refine ACode.seq ?_ | (refine ACode.s_reg tys_ok ?_; conv => whnf) | refine ACode.s_block ?_ | refine ACode.s_scope ?_ | (refine ACode.s_cond ?_; conv => whnf) | (refine ACode.s_exit ?_; conv => whnf) | (refine ACode.s_ret ?_; conv => whnf) | (refine ACode.s_skip ?_; conv => whnf) | (refine ACode.s_label ?_; conv => whnf))
        refine ACode.loopD (fun k : Nat => mk 106 [(0, sns l), (1, rcs r), (6, .lit false), (7, .bool true), (8, .ptr 0 0), (9, .int .i64 0), (10, .ptr 1 0), (11, .int .i64 0), (12, .int .i64 k)]) (fun _ => [.cells [.int .i64 q'.sc, .int .i64 q'.nu, .int .i64 q'.ki, .int .i64 q'.ti, .str q'.la, .sl 1 (strs q'.co)], .cells [.int .i64 q'.sc, .int .i64 q'.nu, .int .i64 q'.ki, .int .i64 q'.ti, .str q'.la, .sl 1 (strs q'.co)]]) (fun k => k ≤ r.length) (fun k => r.length - k) (fun _ _ => ⟨rfl, rfl, rfl, trivial⟩) ⟨0, ?_⟩ (fun _ => rfl) fun k hk => ?_
        · conv => whnf
          repeat (refine And.intro ?_ ?_; (focus (first | rfl | (simp; done))); conv => whnf)
          exact Nat.zero_le _
        · repeat (first | refine ACode.seq ?_ | (refine ACode.s_reg tys_ok ?_; conv => whnf) | refine ACode.s_block ?_ | refine ACode.s_scope ?_ | (refine ACode.s_cond ?_; conv => whnf) | (refine ACode.s_exit ?_; conv => whnf) | (refine ACode.s_ret ?_; conv => whnf) | (refine ACode.s_skip ?_; conv => whnf) | (refine ACode.s_label ?_; conv => whnf))
          refine ⟨fun h => ?_, fun h => ?_⟩
          · have h : k < r.length := by simpa using h
            have hxk := hrx _ (List.getElem_mem h)
            have hx0 := hrx _ (List.getElem_mem (show 0 < r.length by omega))
            have hg := rv_get r k h
            have hg0 := rv_get r 0 (by omega)
            have hw1 : Wr .i64 ((k : Int) + 1) = ((k + 1 : Nat) : Int) := by rw [Wr64 _ (by omega) (by omega)]; rfl
            conv => whnf
            repeat (first | refine ACode.seq ?_ | (refine ACode.s_reg tys_ok ?_; conv => whnf) | refine ACode.s_block ?_ | refine ACode.s_scope ?_ | (refine ACode.s_cond ?_; conv => whnf) | (refine ACode.s_exit ?_; conv => whnf) | (refine ACode.s_ret ?_; conv => whnf) | (refine ACode.s_skip ?_; conv => whnf) | (refine ACode.s_label ?_; conv => whnf))
            refine ACode.draw [] tys_ok (by kernel_rfl) (by kernel_rfl) ?_
            conv => whnf
            cases hv : validB l r[k] with
            | false =>
              repeat (first | (refine ⟨by omega, _, (by first | exact hg | exact hg0), ?_⟩; conv => whnf) | (refine ⟨_, ⟨valid_spec l r[k] hxk, rfl⟩, ?_⟩; conv => whnf) | (refine ⟨_, ⟨rvalid_spec l r[k] hxk, rfl⟩, ?_⟩; conv => whnf) | (refine ⟨_, ⟨text_spec r[k] hxk, rfl⟩, ?_⟩; conv => whnf) | (refine ⟨_, ⟨rtext_spec r[k] hxk, rfl⟩, ?_⟩; conv => whnf) | (refine ⟨_, ⟨compare_spec r[0] r[k] hx0.co, rfl⟩, ?_⟩; conv => whnf) | (refine ⟨_, ⟨rcompare_spec r[0] r[k] hx0.co, rfl⟩, ?_⟩; conv => whnf) | (refine no_br ?_ (fun _ => ?_); (focus (first | (simp [hv]; done); done)); conv => whnf) | (refine yes_br ?_ (fun _ => ?_); (focus (first | (simp [hv]; done); done)); conv => whnf) | refine ACode.seq ?_ | (refine ACode.s_reg tys_ok ?_; conv => whnf) | refine ACode.s_block ?_ | refine ACode.s_scope ?_ | (refine ACode.s_cond ?_; conv => whnf) | (refine ACode.s_exit ?_; conv => whnf) | (refine ACode.s_ret ?_; conv => whnf) | (refine ACode.s_skip ?_; conv => whnf) | (refine ACode.s_label ?_; conv => whnf))
              refine ⟨k + 1, ?_⟩
              conv => whnf
              repeat (refine And.intro ?_ ?_; (focus (first | rfl | (simp; done) | (first | exact hw1; done))); conv => whnf)
              exact ⟨by omega, by omega⟩
            | true =>
              repeat (first | (refine ⟨by omega, _, (by first | exact hg | exact hg0), ?_⟩; conv => whnf) | (refine ⟨_, ⟨valid_spec l r[k] hxk, rfl⟩, ?_⟩; conv => whnf) | (refine ⟨_, ⟨rvalid_spec l r[k] hxk, rfl⟩, ?_⟩; conv => whnf) | (refine ⟨_, ⟨text_spec r[k] hxk, rfl⟩, ?_⟩; conv => whnf) | (refine ⟨_, ⟨rtext_spec r[k] hxk, rfl⟩, ?_⟩; conv => whnf) | (refine ⟨_, ⟨compare_spec r[0] r[k] hx0.co, rfl⟩, ?_⟩; conv => whnf) | (refine ⟨_, ⟨rcompare_spec r[0] r[k] hx0.co, rfl⟩, ?_⟩; conv => whnf) | (refine no_br ?_ (fun _ => ?_); (focus (first | (simp [hv]; done); done)); conv => whnf) | (refine yes_br ?_ (fun _ => ?_); (focus (first | (simp [hv]; done); done)); conv => whnf) | refine ACode.seq ?_ | (refine ACode.s_reg tys_ok ?_; conv => whnf) | refine ACode.s_block ?_ | refine ACode.s_scope ?_ | (refine ACode.s_cond ?_; conv => whnf) | (refine ACode.s_exit ?_; conv => whnf) | (refine ACode.s_ret ?_; conv => whnf) | (refine ACode.s_skip ?_; conv => whnf) | (refine ACode.s_label ?_; conv => whnf))
              refine ⟨k + 1, ?_⟩
              conv => whnf
              repeat (refine And.intro ?_ ?_; (focus (first | rfl | (simp; done) | (first | exact hw1; done))); conv => whnf)
              exact ⟨by omega, by omega⟩
          · have h : k = r.length := by simp at h; omega
            have hFx : ∀ y ∈ normF l r, y.co.length ≤ 100000 := fun y hy => (hrx y (((normF_ok l r).2 y).1 hy).1).co
            have hFl : (normF l r).length ≤ 100000 := by have := norm_len (normF_ok l r); omega
            conv => whnf
            repeat (first | refine ACode.seq ?_ | (refine ACode.s_reg tys_ok ?_; conv => whnf) | refine ACode.s_block ?_ | refine ACode.s_scope ?_ | (refine ACode.s_cond ?_; conv => whnf) | (refine ACode.s_exit ?_; conv => whnf) | (refine ACode.s_ret ?_; conv => whnf) | (refine ACode.s_skip ?_; conv => whnf) | (refine ACode.s_label ?_; conv => whnf))
            repeat (first | (refine ACall.of_spec (rcompare_spec q' q' (complete_ok hq1).co) rfl fun r hr => ?_; subst hr; conv => whnf) | (refine ⟨_, ⟨rcompare_spec q' q' (complete_ok hq1).co, rfl⟩, ?_⟩; conv => whnf) | (refine ACall.of_spec (normF_spec l r (by omega) hrx) rfl fun r hr => ?_; subst hr; conv => whnf) | (refine ⟨_, ⟨normF_spec l r (by omega) hrx, rfl⟩, ?_⟩; conv => whnf) | (refine ACall.of_spec (rnormF_spec l r (by omega) hrx) rfl fun r hr => ?_; subst hr; conv => whnf) | (refine ⟨_, ⟨rnormF_spec l r (by omega) hrx, rfl⟩, ?_⟩; conv => whnf) | (refine ACall.of_spec (same_spec (normF l r) (normF l r) hFl hFx) rfl fun r hr => ?_; subst hr; conv => whnf) | (refine ⟨_, ⟨same_spec (normF l r) (normF l r) hFl hFx, rfl⟩, ?_⟩; conv => whnf) | (refine no_br ?_ (fun _ => ?_); (focus (first | (simp [cmpR_ok.self]; done); done)); conv => whnf) | (refine yes_br ?_ (fun _ => ?_); (focus (first | (simp [cmpR_ok.self]; done); done)); conv => whnf) | (refine ACode.draw [] tys_ok (by kernel_rfl) (by kernel_rfl) ?_; conv => whnf) | refine ACode.seq ?_ | (refine ACode.s_reg tys_ok ?_; conv => whnf) | refine ACode.s_block ?_ | refine ACode.s_scope ?_ | (refine ACode.s_cond ?_; conv => whnf) | (refine ACode.s_exit ?_; conv => whnf) | (refine ACode.s_ret ?_; conv => whnf) | (refine ACode.s_skip ?_; conv => whnf) | (refine ACode.s_label ?_; conv => whnf))
            exact .inr (by simp)
      · exact absurd hq2 (hq' q hq1)
    · conv => whnf
      repeat (first | refine ACode.seq ?_ | (refine ACode.s_reg tys_ok ?_; conv => whnf) | refine ACode.s_block ?_ | refine ACode.s_scope ?_ | (refine ACode.s_cond ?_; conv => whnf) | (refine ACode.s_exit ?_; conv => whnf) | (refine ACode.s_ret ?_; conv => whnf) | (refine ACode.s_skip ?_; conv => whnf) | (refine ACode.s_label ?_; conv => whnf))
      refine ACall.of_spec (rparse_spec text htl) rfl fun z hz => ?_
      rcases hz with ⟨q', hq1', hq2', rfl⟩ | ⟨hq', rfl⟩
      · exact absurd hq2' (hq q' hq1')
      · conv => whnf
        repeat (first | refine ACode.seq ?_ | (refine ACode.s_reg tys_ok ?_; conv => whnf) | refine ACode.s_block ?_ | refine ACode.s_scope ?_ | (refine ACode.s_cond ?_; conv => whnf) | (refine ACode.s_exit ?_; conv => whnf) | (refine ACode.s_ret ?_; conv => whnf) | (refine ACode.s_skip ?_; conv => whnf) | (refine ACode.s_label ?_; conv => whnf))
        refine ACode.loopD (fun k : Nat => mk 106 [(0, sns l), (1, rcs r), (6, .lit false), (7, .bool true), (8, .ptr 0 0), (9, .int .i64 1), (10, .ptr 1 0), (11, .int .i64 1), (12, .int .i64 k)]) (fun _ => [.cells [.int .i64 zeroR.sc, .int .i64 zeroR.nu, .int .i64 zeroR.ki, .int .i64 zeroR.ti, .str zeroR.la, .sl 1 (strs zeroR.co)], .cells [.int .i64 zeroR.sc, .int .i64 zeroR.nu, .int .i64 zeroR.ki, .int .i64 zeroR.ti, .str zeroR.la, .sl 1 (strs zeroR.co)]]) (fun k => k ≤ r.length) (fun k => r.length - k) (fun _ _ => ⟨rfl, rfl, rfl, trivial⟩) ⟨0, ?_⟩ (fun _ => rfl) fun k hk => ?_
        · conv => whnf
          repeat (refine And.intro ?_ ?_; (focus (first | rfl | (simp; done))); conv => whnf)
          exact Nat.zero_le _
        · repeat (first | refine ACode.seq ?_ | (refine ACode.s_reg tys_ok ?_; conv => whnf) | refine ACode.s_block ?_ | refine ACode.s_scope ?_ | (refine ACode.s_cond ?_; conv => whnf) | (refine ACode.s_exit ?_; conv => whnf) | (refine ACode.s_ret ?_; conv => whnf) | (refine ACode.s_skip ?_; conv => whnf) | (refine ACode.s_label ?_; conv => whnf))
          refine ⟨fun h => ?_, fun h => ?_⟩
          · have h : k < r.length := by simpa using h
            have hxk := hrx _ (List.getElem_mem h)
            have hx0 := hrx _ (List.getElem_mem (show 0 < r.length by omega))
            have hg := rv_get r k h
            have hg0 := rv_get r 0 (by omega)
            have hw1 : Wr .i64 ((k : Int) + 1) = ((k + 1 : Nat) : Int) := by rw [Wr64 _ (by omega) (by omega)]; rfl
            conv => whnf
            repeat (first | refine ACode.seq ?_ | (refine ACode.s_reg tys_ok ?_; conv => whnf) | refine ACode.s_block ?_ | refine ACode.s_scope ?_ | (refine ACode.s_cond ?_; conv => whnf) | (refine ACode.s_exit ?_; conv => whnf) | (refine ACode.s_ret ?_; conv => whnf) | (refine ACode.s_skip ?_; conv => whnf) | (refine ACode.s_label ?_; conv => whnf))
            refine ACode.draw [] tys_ok (by kernel_rfl) (by kernel_rfl) ?_
            conv => whnf
            cases hv : validB l r[k] with
            | false =>
              repeat (first | (refine ⟨by omega, _, (by first | exact hg | exact hg0), ?_⟩; conv => whnf) | (refine ⟨_, ⟨valid_spec l r[k] hxk, rfl⟩, ?_⟩; conv => whnf) | (refine ⟨_, ⟨rvalid_spec l r[k] hxk, rfl⟩, ?_⟩; conv => whnf) | (refine ⟨_, ⟨text_spec r[k] hxk, rfl⟩, ?_⟩; conv => whnf) | (refine ⟨_, ⟨rtext_spec r[k] hxk, rfl⟩, ?_⟩; conv => whnf) | (refine ⟨_, ⟨compare_spec r[0] r[k] hx0.co, rfl⟩, ?_⟩; conv => whnf) | (refine ⟨_, ⟨rcompare_spec r[0] r[k] hx0.co, rfl⟩, ?_⟩; conv => whnf) | (refine no_br ?_ (fun _ => ?_); (focus (first | (simp [hv]; done); done)); conv => whnf) | (refine yes_br ?_ (fun _ => ?_); (focus (first | (simp [hv]; done); done)); conv => whnf) | refine ACode.seq ?_ | (refine ACode.s_reg tys_ok ?_; conv => whnf) | refine ACode.s_block ?_ | refine ACode.s_scope ?_ | (refine ACode.s_cond ?_; conv => whnf) | (refine ACode.s_exit ?_; conv => whnf) | (refine ACode.s_ret ?_; conv => whnf) | (refine ACode.s_skip ?_; conv => whnf) | (refine ACode.s_label ?_; conv => whnf))
              refine ⟨k + 1, ?_⟩
              conv => whnf
              repeat (refine And.intro ?_ ?_; (focus (first | rfl | (simp; done) | (first | exact hw1; done))); conv => whnf)
              exact ⟨by omega, by omega⟩
            | true =>
              repeat (first | (refine ⟨by omega, _, (by first | exact hg | exact hg0), ?_⟩; conv => whnf) | (refine ⟨_, ⟨valid_spec l r[k] hxk, rfl⟩, ?_⟩; conv => whnf) | (refine ⟨_, ⟨rvalid_spec l r[k] hxk, rfl⟩, ?_⟩; conv => whnf) | (refine ⟨_, ⟨text_spec r[k] hxk, rfl⟩, ?_⟩; conv => whnf) | (refine ⟨_, ⟨rtext_spec r[k] hxk, rfl⟩, ?_⟩; conv => whnf) | (refine ⟨_, ⟨compare_spec r[0] r[k] hx0.co, rfl⟩, ?_⟩; conv => whnf) | (refine ⟨_, ⟨rcompare_spec r[0] r[k] hx0.co, rfl⟩, ?_⟩; conv => whnf) | (refine no_br ?_ (fun _ => ?_); (focus (first | (simp [hv]; done); done)); conv => whnf) | (refine yes_br ?_ (fun _ => ?_); (focus (first | (simp [hv]; done); done)); conv => whnf) | refine ACode.seq ?_ | (refine ACode.s_reg tys_ok ?_; conv => whnf) | refine ACode.s_block ?_ | refine ACode.s_scope ?_ | (refine ACode.s_cond ?_; conv => whnf) | (refine ACode.s_exit ?_; conv => whnf) | (refine ACode.s_ret ?_; conv => whnf) | (refine ACode.s_skip ?_; conv => whnf) | (refine ACode.s_label ?_; conv => whnf))
              refine ⟨k + 1, ?_⟩
              conv => whnf
              repeat (refine And.intro ?_ ?_; (focus (first | rfl | (simp; done) | (first | exact hw1; done))); conv => whnf)
              exact ⟨by omega, by omega⟩
          · have h : k = r.length := by simp at h; omega
            have hFx : ∀ y ∈ normF l r, y.co.length ≤ 100000 := fun y hy => (hrx y (((normF_ok l r).2 y).1 hy).1).co
            have hFl : (normF l r).length ≤ 100000 := by have := norm_len (normF_ok l r); omega
            conv => whnf
            repeat (first | refine ACode.seq ?_ | (refine ACode.s_reg tys_ok ?_; conv => whnf) | refine ACode.s_block ?_ | refine ACode.s_scope ?_ | (refine ACode.s_cond ?_; conv => whnf) | (refine ACode.s_exit ?_; conv => whnf) | (refine ACode.s_ret ?_; conv => whnf) | (refine ACode.s_skip ?_; conv => whnf) | (refine ACode.s_label ?_; conv => whnf))
            repeat (first | (refine ACall.of_spec (rcompare_spec zeroR zeroR (by decide)) rfl fun r hr => ?_; subst hr; conv => whnf) | (refine ⟨_, ⟨rcompare_spec zeroR zeroR (by decide), rfl⟩, ?_⟩; conv => whnf) | (refine ACall.of_spec (normF_spec l r (by omega) hrx) rfl fun r hr => ?_; subst hr; conv => whnf) | (refine ⟨_, ⟨normF_spec l r (by omega) hrx, rfl⟩, ?_⟩; conv => whnf) | (refine ACall.of_spec (rnormF_spec l r (by omega) hrx) rfl fun r hr => ?_; subst hr; conv => whnf) | (refine ⟨_, ⟨rnormF_spec l r (by omega) hrx, rfl⟩, ?_⟩; conv => whnf) | (refine ACall.of_spec (same_spec (normF l r) (normF l r) hFl hFx) rfl fun r hr => ?_; subst hr; conv => whnf) | (refine ⟨_, ⟨same_spec (normF l r) (normF l r) hFl hFx, rfl⟩, ?_⟩; conv => whnf) | (refine no_br ?_ (fun _ => ?_); (focus (first | (simp [cmpR_ok.self]; done); done)); conv => whnf) | (refine yes_br ?_ (fun _ => ?_); (focus (first | (simp [cmpR_ok.self]; done); done)); conv => whnf) | (refine ACode.draw [] tys_ok (by kernel_rfl) (by kernel_rfl) ?_; conv => whnf) | refine ACode.seq ?_ | (refine ACode.s_reg tys_ok ?_; conv => whnf) | refine ACode.s_block ?_ | refine ACode.s_scope ?_ | (refine ACode.s_cond ?_; conv => whnf) | (refine ACode.s_exit ?_; conv => whnf) | (refine ACode.s_ret ?_; conv => whnf) | (refine ACode.s_skip ?_; conv => whnf) | (refine ACode.s_label ?_; conv => whnf))
            exact .inr (by simp)
  · exact .inr rfl
end Go.Proofs.YtiojkoaefabjbaaGreatDoor
