/-
  FormatOrder: the law.
-/
import Derived.Test.YtbodeejogdckgaaGreatDoorL4
set_option linter.unusedVariables false
set_option linter.unusedSimpArgs false
namespace Go.Proofs.YtbodeejogdckgaaGreatDoor
open Go.Av Go.Shelf Pl
/-- What parsing answers: every reading fits and is printed; they are in order. -/
theorem parse_all (f : Fm) (ls : List Bs) : (∀ x ∈ (parseR f ls).1, validF f = true ∧ ls.length = f.lines.length ∧ fitsF f x = true ∧ ((printF f x).map fun s => wordsW (upB s)) = ls.map fun s => wordsW (upB s)) ∧ (parseR f ls).1.Pairwise (LessA f.lines.flatten) := by
  have e0 : (∀ x ∈ ([] : List Ad), validF f = true ∧ ls.length = f.lines.length ∧ fitsF f x = true ∧ ((printF f x).map fun s => wordsW (upB s)) = ls.map fun s => wordsW (upB s)) ∧ ([] : List Ad).Pairwise (LessA f.lines.flatten) := ⟨fun x hx => (by cases hx), List.Pairwise.nil⟩
  unfold parseR
  split
  · rename_i hv
    split
    · split
      · rename_i hl
        obtain ⟨hg, hn, hp⟩ := valid_good hv
        refine ⟨fun x hx => ?_, readF_ord f.lines _ _ hg hn fun ws h w hw => ?_⟩
        · obtain ⟨r1, r2⟩ := read_print hv hl.2 hx
          refine ⟨hv, hl.1, r1, r2.trans ?_⟩
          rw [List.map_map]
          exact List.map_congr_left fun s _ => (words_up s).symm
        · obtain ⟨s, _, rfl⟩ := List.mem_map.1 h
          exact words_mem hw
      · exact e0
    · exact e0
  · exact e0
theorem ads_get (l : List Ad) (k : Nat) (h : k < l.length) : (l.map Ad.v)[k]? = some l[k].v := by simp [h]
set_option maxRecDepth 100000 in
theorem order_law (f : Fm) (ls : List Bs) : Ctr Tryz.prog 6 [f.v, strsA ls] (fun r => r = .bool true) := by
  refine Ctr.of_body Tryz.func6 rfl tys_ok (by kernel_rfl) ?_
  conv => whnf
  repeat (first | refine ACode.seq ?_ | (refine ACode.s_reg tys_ok ?_; conv => whnf) | refine ACode.s_block ?_ | refine ACode.s_scope ?_ | (refine ACode.s_cond ?_; conv => whnf) | (refine ACode.s_exit ?_; conv => whnf) | (refine ACode.s_ret ?_; conv => whnf) | (refine ACode.s_skip ?_; conv => whnf) | (refine ACode.s_label ?_; conv => whnf))
  refine ACall.of_spec (head_spec) rfl fun r hr => ?_
  subst hr
  conv => whnf
  repeat (first | refine ACode.seq ?_ | (refine ACode.s_reg tys_ok ?_; conv => whnf) | refine ACode.s_block ?_ | refine ACode.s_scope ?_ | (refine ACode.s_cond ?_; conv => whnf) | (refine ACode.s_exit ?_; conv => whnf) | (refine ACode.s_ret ?_; conv => whnf) | (refine ACode.s_skip ?_; conv => whnf) | (refine ACode.s_label ?_; conv => whnf))
  repeat' (first | (refine And.intro (fun _ => ?_) (fun _ => ?_) <;> conv => whnf) | (refine ACall.of_spec (few_spec f ls) rfl fun r hr => ?_; subst hr; conv => whnf) | refine ACode.seq ?_ | (refine ACode.s_reg tys_ok ?_; conv => whnf) | refine ACode.s_block ?_ | refine ACode.s_scope ?_ | (refine ACode.s_cond ?_; conv => whnf) | (refine ACode.s_exit ?_; conv => whnf) | (refine ACode.s_ret ?_; conv => whnf) | (refine ACode.s_skip ?_; conv => whnf) | (refine ACode.s_label ?_; conv => whnf))
  rename_i hfew
  have hfew : fewB f ls = true := by simpa using hfew
  obtain ⟨hs, hn8, hn200, hL10, hP10⟩ := few_small hfew
  refine ACall.of_spec (parse_spec f ls hs (by omega) (fun l hl => by have := hn200 l hl; omega)) rfl fun r hr => ?_
  subst hr
  conv => whnf
  repeat (first | refine ACode.seq ?_ | (refine ACode.s_reg tys_ok ?_; conv => whnf) | refine ACode.s_block ?_ | refine ACode.s_scope ?_ | (refine ACode.s_cond ?_; conv => whnf) | (refine ACode.s_exit ?_; conv => whnf) | (refine ACode.s_ret ?_; conv => whnf) | (refine ACode.s_skip ?_; conv => whnf) | (refine ACode.s_label ?_; conv => whnf))
  obtain ⟨hall, hord⟩ := parse_all f ls
  have h16 := parse_few f ls
  have hcl : ∀ x ∈ f.lines.map ptsA, closed x = true := fun x hx => by
    obtain ⟨y, _, rfl⟩ := List.mem_map.1 hx
    rfl
  have hct : ∀ x ∈ (parseR f ls).1, Ctr Tryz.prog 25 [f.v, x.v] (fun r => r = intsA (cntL f.lines.flatten x)) := fun x hx => by
    obtain ⟨h1, _, h2, _⟩ := hall x hx
    have := fits_small (valid_good h1).2.2 h2
    exact counts_spec f x hs ⟨by omega, by omega, by omega⟩
  have hlt := List.pairwise_iff_getElem.1 hord
  have hcn : ∀ x, (cntL f.lines.flatten x).length ≤ 100000 := fun x => by
    have h5 : (cntL f.lines.flatten x).length ≤ f.lines.flatten.length := List.length_filterMap_le _ _
    have := flat_len' f.lines hs.l2
    omega
  generalize (parseR f ls).1 = R at *
  have hmR : (R.map Ad.v).length = R.length := by simp
  refine ACode.loopD (fun n : Nat => mk 43 [(2, .ptr 0 0), (4, .lit false), (5, .bool true), (6, .sl 5 (R.map Ad.v)), (8, .int .i64 (n + 1))]) (fun i => [.cells [.str f.name, .sl 1 (f.lines.map ptsA)]]) (fun n => n ≤ R.length) (fun n => R.length - n) (fun _ _ => ⟨rfl, rfl, trivial⟩) ⟨0, ?_⟩ (fun _ => rfl) fun n hn => ?_
  · conv => whnf
    repeat (refine And.intro ?_ ?_; (focus (first | rfl | (simp; done))); conv => whnf)
    exact Nat.zero_le _
  · repeat (first | refine ACode.seq ?_ | (refine ACode.s_reg tys_ok ?_; conv => whnf) | refine ACode.s_block ?_ | refine ACode.s_scope ?_ | (refine ACode.s_cond ?_; conv => whnf) | (refine ACode.s_exit ?_; conv => whnf) | (refine ACode.s_ret ?_; conv => whnf) | (refine ACode.s_skip ?_; conv => whnf) | (refine ACode.s_label ?_; conv => whnf))
    refine ⟨fun h => ?_, fun h => ?_⟩
    · have h : n + 1 < R.length := by have := of_decide_eq_true h; omega
      have hw1 : Wr .i64 ((n : Int) + 1 + 1) = ((n + 1 : Nat) : Int) + 1 := by rw [Wr64 _ (by omega) (by omega)]; rfl
      have hw2 : Wr .i64 ((n : Int) + 1 - 1) = (n : Int) := by rw [Wr64 _ (by omega) (by omega)]; omega
      have hR0 : R[n] ∈ R := List.getElem_mem (by omega)
      have hR1 : R[n + 1] ∈ R := List.getElem_mem h
      have hl1 : lessB (cntL f.lines.flatten R[n]) (cntL f.lines.flatten R[n + 1]) = true := hlt n (n + 1) (by omega) h (by omega)
      have hg1 : (R.map Ad.v)[((n : Int) + 1).toNat]? = some R[n + 1].v := by
        rw [show ((n : Int) + 1).toNat = n + 1 by omega]
        exact ads_get R (n + 1) h
      conv => whnf
      repeat (first | refine ACode.seq ?_ | (refine ACode.s_reg tys_ok ?_; conv => whnf) | refine ACode.s_block ?_ | refine ACode.s_scope ?_ | (refine ACode.s_cond ?_; conv => whnf) | (refine ACode.s_exit ?_; conv => whnf) | (refine ACode.s_ret ?_; conv => whnf) | (refine ACode.s_skip ?_; conv => whnf) | (refine ACode.s_label ?_; conv => whnf))
      refine ACode.draw [] tys_ok (by kernel_rfl) (by kernel_rfl) ?_
      conv => whnf
      rw [hw2]
      refine ⟨by omega, _, ads_get R n (by omega), ?_⟩
      conv => whnf
      refine ⟨_, ⟨hct _ hR0, rfl⟩, ?_⟩
      conv => whnf
      refine ⟨by omega, _, hg1, ?_⟩
      conv => whnf
      refine ⟨_, ⟨hct _ hR1, rfl⟩, ?_⟩
      conv => whnf
      refine ⟨_, ⟨less_spec _ _ (hcn _) (hcn _), rfl⟩, ?_⟩
      conv => whnf
      rw [hl1]
      refine ⟨fun _ => ?_, fun h => by cases h⟩
      conv => whnf
      repeat (first | refine ACode.seq ?_ | (refine ACode.s_reg tys_ok ?_; conv => whnf) | refine ACode.s_block ?_ | refine ACode.s_scope ?_ | (refine ACode.s_cond ?_; conv => whnf) | (refine ACode.s_exit ?_; conv => whnf) | (refine ACode.s_ret ?_; conv => whnf) | (refine ACode.s_skip ?_; conv => whnf) | (refine ACode.s_label ?_; conv => whnf))
      repeat' (first | (refine And.intro (fun _ => ?_) (fun _ => ?_) <;> conv => whnf) | refine ACode.seq ?_ | (refine ACode.s_reg tys_ok ?_; conv => whnf) | refine ACode.s_block ?_ | refine ACode.s_scope ?_ | (refine ACode.s_cond ?_; conv => whnf) | (refine ACode.s_exit ?_; conv => whnf) | (refine ACode.s_ret ?_; conv => whnf) | (refine ACode.s_skip ?_; conv => whnf) | (refine ACode.s_label ?_; conv => whnf))
      refine ⟨n + 1, ?_⟩
      conv => whnf
      repeat (refine And.intro ?_ ?_; (focus (first | rfl | (simp; done) | (first | exact hw1; done))); conv => whnf)
      exact ⟨by omega, by omega⟩
    · conv => whnf
      repeat (first | refine ACode.seq ?_ | (refine ACode.s_reg tys_ok ?_; conv => whnf) | refine ACode.s_block ?_ | refine ACode.s_scope ?_ | (refine ACode.s_cond ?_; conv => whnf) | (refine ACode.s_exit ?_; conv => whnf) | (refine ACode.s_ret ?_; conv => whnf) | (refine ACode.s_skip ?_; conv => whnf) | (refine ACode.s_label ?_; conv => whnf))
end Go.Proofs.YtbodeejogdckgaaGreatDoor
