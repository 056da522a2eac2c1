/-
  FormatBlanks, FormatOne.
-/
import Derived.Test.YtbodeejogdckgaaGreatDoorG5
import Derived.Test.YtbodeejogdckgaaGreatDoorP10
import Derived.Test.YtbodeejogdckgaaGreatDoorP9
set_option linter.unusedVariables false
set_option linter.unusedSimpArgs false
namespace Go.Proofs.YtbodeejogdckgaaGreatDoor
open Go.Av Go.Shelf Pl
theorem few_small {f : Fm} {ls : List Bs} (h : fewB f ls = true) : SmallF f ∧ ls.length ≤ 8 ∧ (∀ l ∈ ls, l.length ≤ 200) ∧ f.lines.length ≤ 10 ∧ (∀ l ∈ f.lines, l.length ≤ 10) := by
  unfold fewB at h
  simp only [Bool.and_eq_true, decide_eq_true_eq, List.all_eq_true] at h
  obtain ⟨⟨⟨⟨⟨h1, h2⟩, h3⟩, h4⟩, h5⟩, h6⟩ := h
  refine ⟨⟨by omega, by omega, fun l hl => by have := h4 l hl; omega, fun l hl p hp => by have := h5 p (List.mem_flatten.2 ⟨l, hl, hp⟩); omega⟩, h1, h6, h2, h4⟩
theorem sevN_take (L : List Pt) (i : Nat) (h : i < L.length) : sevN (L.take (i + 1)) = sevN (L.take i) + (if 4 ≤ L[i].k then 1 else 0) := by
  unfold sevN
  rw [List.take_succ_eq_append_getElem h, List.filter_append, List.length_append]
  by_cases hk : 4 ≤ L[i].k
  · simp [hk]
  · simp [hk]
theorem sevN_le (L : List Pt) : sevN L ≤ L.length := List.length_filter_le _ _
theorem parse_one {f : Fm} (hv : validF f = true) (ha : ∀ l ∈ f.lines, sevN l ≤ 1) (ls : List Bs) : (parseR f ls).1.length ≤ 1 := by
  unfold parseR
  rw [if_pos hv]
  split
  · split
    · exact readF_one (valid_good hv).1 ha _ _
    · exact Nat.zero_le _
  · exact Nat.zero_le _
theorem parse_few (f : Fm) (ls : List Bs) : (parseR f ls).1.length ≤ 16 := by
  unfold parseR
  split
  · rename_i hv
    split
    · split
      · exact readF_few (valid_good hv).1 (valid_good hv).2.1 _ _
      · exact Nat.zero_le _
    · exact Nat.zero_le _
  · exact Nat.zero_le _
theorem parse_len (f : Fm) (ls : List Bs) : (parseR f ls).1 ≠ [] → ls.length = f.lines.length := by
  unfold parseR
  intro h
  split at h
  · split at h
    · split at h
      · rename_i h1; exact h1.1
      · exact absurd rfl h
    · exact absurd rfl h
  · exact absurd rfl h
theorem parse_err {f : Fm} (hv : validF f = true) (ls : List Bs) : (parseR f ls).2 = 0 ∨ (parseR f ls).2 = 2 := by
  unfold parseR
  rw [if_pos hv]
  split
  · split
    · exact .inl rfl
    · exact .inl rfl
  · exact .inr rfl
set_option maxRecDepth 100000 in
theorem one_law (f : Fm) (ls : List Bs) : Ctr Tryz.prog 8 [f.v, strsA ls] (fun r => r = .bool true) := by
  refine Ctr.of_body Tryz.func8 rfl tys_ok (by kernel_rfl) ?_
  conv => whnf
  repeat (first | refine ACode.seq ?_ | (refine ACode.s_reg tys_ok ?_; conv => whnf) | refine ACode.s_block ?_ | refine ACode.s_scope ?_ | (refine ACode.s_cond ?_; conv => whnf) | (refine ACode.s_exit ?_; conv => whnf) | (refine ACode.s_ret ?_; conv => whnf) | (refine ACode.s_skip ?_; conv => whnf) | (refine ACode.s_label ?_; conv => whnf))
  refine ACall.of_spec (head_spec) rfl fun r hr => ?_
  subst hr
  conv => whnf
  repeat (first | refine ACode.seq ?_ | (refine ACode.s_reg tys_ok ?_; conv => whnf) | refine ACode.s_block ?_ | refine ACode.s_scope ?_ | (refine ACode.s_cond ?_; conv => whnf) | (refine ACode.s_exit ?_; conv => whnf) | (refine ACode.s_ret ?_; conv => whnf) | (refine ACode.s_skip ?_; conv => whnf) | (refine ACode.s_label ?_; conv => whnf))
  repeat' (first | (refine And.intro (fun _ => ?_) (fun _ => ?_) <;> conv => whnf) | (refine ACall.of_spec (few_spec f ls) rfl fun r hr => ?_; subst hr; conv => whnf) | refine ACode.seq ?_ | (refine ACode.s_reg tys_ok ?_; conv => whnf) | refine ACode.s_block ?_ | refine ACode.s_scope ?_ | (refine ACode.s_cond ?_; conv => whnf) | (refine ACode.s_exit ?_; conv => whnf) | (refine ACode.s_ret ?_; conv => whnf) | (refine ACode.s_skip ?_; conv => whnf) | (refine ACode.s_label ?_; conv => whnf))
  rename_i hfew
  have hfew : fewB f ls = true := by simpa using hfew
  obtain ⟨hs, hn8, hn200, hL10, hP10⟩ := few_small hfew
  have hll : (f.lines.map ptsA).length = f.lines.length := by simp
  have hsl : (strs ls).length = ls.length := by simp
  refine ACall.of_spec (rvalid_spec f hs) rfl fun r hr => ?_
  subst hr
  conv => whnf
  repeat (first | refine ACode.seq ?_ | (refine ACode.s_reg tys_ok ?_; conv => whnf) | refine ACode.s_block ?_ | refine ACode.s_scope ?_ | (refine ACode.s_cond ?_; conv => whnf) | (refine ACode.s_exit ?_; conv => whnf) | (refine ACode.s_ret ?_; conv => whnf) | (refine ACode.s_skip ?_; conv => whnf) | (refine ACode.s_label ?_; conv => whnf))
  repeat' (first | (refine And.intro (fun _ => ?_) (fun _ => ?_) <;> conv => whnf) | refine ACode.seq ?_ | (refine ACode.s_reg tys_ok ?_; conv => whnf) | refine ACode.s_block ?_ | refine ACode.s_scope ?_ | (refine ACode.s_cond ?_; conv => whnf) | (refine ACode.s_exit ?_; conv => whnf) | (refine ACode.s_ret ?_; conv => whnf) | (refine ACode.s_skip ?_; conv => whnf) | (refine ACode.s_label ?_; conv => whnf))
  rename_i hv
  have hv : validF f = true := by simpa using hv
  refine ACode.loopD (fun i : Nat => mk 103 [(1, strsA ls), (2, .ptr 0 0), (4, .lit false), (5, .bool true), (6, .int .i64 i)]) (fun i => [.cells [.str f.name, .sl 1 (f.lines.map ptsA)]]) (fun i => i ≤ f.lines.length ∧ (∀ l ∈ f.lines.take i, sevN l ≤ 1)) (fun i => f.lines.length - i) (fun _ _ => ⟨rfl, rfl, trivial⟩) ⟨0, ?_⟩ (fun _ => rfl) fun i hi => ?_
  · conv => whnf
    repeat (refine And.intro ?_ ?_; (focus (first | rfl | (simp; done))); conv => whnf)
    intro l hl
    cases hl
  · obtain ⟨hi, ha⟩ := hi
    repeat (first | refine ACode.seq ?_ | (refine ACode.s_reg tys_ok ?_; conv => whnf) | refine ACode.s_block ?_ | refine ACode.s_scope ?_ | (refine ACode.s_cond ?_; conv => whnf) | (refine ACode.s_exit ?_; conv => whnf) | (refine ACode.s_ret ?_; conv => whnf) | (refine ACode.s_skip ?_; conv => whnf) | (refine ACode.s_label ?_; conv => whnf))
    refine ⟨fun h => ?_, fun h => ?_⟩
    · have h : i < f.lines.length := by have := of_decide_eq_true h; omega
      have hw1 : Wr .i64 ((i : Int) + 1) = ((i + 1 : Nat) : Int) := by rw [Wr64 _ (by omega) (by omega)]; rfl
      have hLi := hP10 f.lines[i] (List.getElem_mem h)
      repeat (first | refine ACode.seq ?_ | (refine ACode.s_reg tys_ok ?_; conv => whnf) | refine ACode.s_block ?_ | refine ACode.s_scope ?_ | (refine ACode.s_cond ?_; conv => whnf) | (refine ACode.s_exit ?_; conv => whnf) | (refine ACode.s_ret ?_; conv => whnf) | (refine ACode.s_skip ?_; conv => whnf) | (refine ACode.s_label ?_; conv => whnf))
      generalize hLe : f.lines[i] = L at *
      have hLm : (L.map Pt.v).length = L.length := by simp
      have hget : (f.lines.map ptsA)[i]? = some (ptsA L) := by rw [lines_get f i h, hLe]
      have hsv : sevN L ≤ 1 → ∀ l ∈ f.lines.take (i + 1), sevN l ≤ 1 := fun hx l hl => by
        rw [List.take_succ_eq_append_getElem h, hLe] at hl
        rcases List.mem_append.1 hl with hl | hl
        · exact ha l hl
        · rw [List.mem_singleton.1 hl]; exact hx
      refine ACode.loopD (fun k : Nat => mk 103 [(1, strsA ls), (2, .ptr 0 0), (4, .lit false), (5, .bool true), (6, .int .i64 i), (7, .int .i64 (sevN (L.take k))), (8, .int .i64 k)]) (fun k => [.cells [.str f.name, .sl 1 (f.lines.map ptsA)]]) (fun k => k ≤ L.length) (fun k => L.length - k) (fun _ _ => ⟨rfl, rfl, trivial⟩) ⟨0, ?_⟩ (fun _ => rfl) fun k hk => ?_
      · conv => whnf
        repeat (refine And.intro ?_ ?_; (focus (first | rfl | (simp; done))); conv => whnf)
        exact Nat.zero_le _
      · repeat (first | refine ACode.seq ?_ | (refine ACode.s_reg tys_ok ?_; conv => whnf) | refine ACode.s_block ?_ | refine ACode.s_scope ?_ | (refine ACode.s_cond ?_; conv => whnf) | (refine ACode.s_exit ?_; conv => whnf) | (refine ACode.s_ret ?_; conv => whnf) | (refine ACode.s_skip ?_; conv => whnf) | (refine ACode.s_label ?_; conv => whnf))
        refine ⟨by omega, _, hget, ?_⟩
        repeat (first | refine ACode.seq ?_ | (refine ACode.s_reg tys_ok ?_; conv => whnf) | refine ACode.s_block ?_ | refine ACode.s_scope ?_ | (refine ACode.s_cond ?_; conv => whnf) | (refine ACode.s_exit ?_; conv => whnf) | (refine ACode.s_ret ?_; conv => whnf) | (refine ACode.s_skip ?_; conv => whnf) | (refine ACode.s_label ?_; conv => whnf))
        refine ⟨fun h2 => ?_, fun h2 => ?_⟩
        · have h2 : k < L.length := by have := of_decide_eq_true h2; omega
          have hw2 : Wr .i64 ((k : Int) + 1) = ((k + 1 : Nat) : Int) := by rw [Wr64 _ (by omega) (by omega)]; rfl
          have hn := sevN_take L k h2
          have hnl : sevN (L.take k) ≤ 10 := by have := sevN_le (L.take k); rw [List.length_take] at this; omega
          have hw3 : Wr .i64 (((sevN (L.take k) : Nat) : Int) + 1) = ((sevN (L.take k) + 1 : Nat) : Int) := by rw [Wr64 _ (by omega) (by omega)]; rfl
          conv => whnf
          repeat (first | refine ACode.seq ?_ | (refine ACode.s_reg tys_ok ?_; conv => whnf) | refine ACode.s_block ?_ | refine ACode.s_scope ?_ | (refine ACode.s_cond ?_; conv => whnf) | (refine ACode.s_exit ?_; conv => whnf) | (refine ACode.s_ret ?_; conv => whnf) | (refine ACode.s_skip ?_; conv => whnf) | (refine ACode.s_label ?_; conv => whnf))
          refine ⟨by omega, _, hget, ?_⟩
          conv => whnf
          repeat (first | refine ACode.seq ?_ | (refine ACode.s_reg tys_ok ?_; conv => whnf) | refine ACode.s_block ?_ | refine ACode.s_scope ?_ | (refine ACode.s_cond ?_; conv => whnf) | (refine ACode.s_exit ?_; conv => whnf) | (refine ACode.s_ret ?_; conv => whnf) | (refine ACode.s_skip ?_; conv => whnf) | (refine ACode.s_label ?_; conv => whnf))
          refine ⟨by omega, _, pts_get L k h2, ?_⟩
          conv => whnf
          repeat (first | refine ACode.seq ?_ | (refine ACode.s_reg tys_ok ?_; conv => whnf) | refine ACode.s_block ?_ | refine ACode.s_scope ?_ | (refine ACode.s_cond ?_; conv => whnf) | (refine ACode.s_exit ?_; conv => whnf) | (refine ACode.s_ret ?_; conv => whnf) | (refine ACode.s_skip ?_; conv => whnf) | (refine ACode.s_label ?_; conv => whnf))
          repeat' (first | (refine And.intro (fun _ => ?_) (fun _ => ?_) <;> conv => whnf) | refine ACode.seq ?_ | (refine ACode.s_reg tys_ok ?_; conv => whnf) | refine ACode.s_block ?_ | refine ACode.s_scope ?_ | (refine ACode.s_cond ?_; conv => whnf) | (refine ACode.s_exit ?_; conv => whnf) | (refine ACode.s_ret ?_; conv => whnf) | (refine ACode.s_skip ?_; conv => whnf) | (refine ACode.s_label ?_; conv => whnf))
          · rename_i hk4
            have hk4 : 4 ≤ L[k].k := by simpa using hk4
            rw [if_pos hk4] at hn
            refine ⟨k + 1, ?_⟩
            conv => whnf
            repeat (refine And.intro ?_ ?_; (focus (first | rfl | (simp; done) | (first | exact hw2 | (rw [hw3, hn]); done))); conv => whnf)
            exact ⟨h2, by omega⟩
          · rename_i hk4
            have hk4 : ¬ 4 ≤ L[k].k := by simpa using hk4
            rw [if_neg hk4] at hn
            refine ⟨k + 1, ?_⟩
            conv => whnf
            repeat (refine And.intro ?_ ?_; (focus (first | rfl | (simp; done) | (first | exact hw2 | (rw [hn]; rfl); done))); conv => whnf)
            exact ⟨h2, by omega⟩
        · have h2 : k = L.length := by have := of_decide_eq_false h2; omega
          rw [h2, List.take_length]
          repeat (first | refine ACode.seq ?_ | (refine ACode.s_reg tys_ok ?_; conv => whnf) | refine ACode.s_block ?_ | refine ACode.s_scope ?_ | (refine ACode.s_cond ?_; conv => whnf) | (refine ACode.s_exit ?_; conv => whnf) | (refine ACode.s_ret ?_; conv => whnf) | (refine ACode.s_skip ?_; conv => whnf) | (refine ACode.s_label ?_; conv => whnf))
          repeat' (first | (refine And.intro (fun _ => ?_) (fun _ => ?_) <;> conv => whnf) | refine ACode.seq ?_ | (refine ACode.s_reg tys_ok ?_; conv => whnf) | refine ACode.s_block ?_ | refine ACode.s_scope ?_ | (refine ACode.s_cond ?_; conv => whnf) | (refine ACode.s_exit ?_; conv => whnf) | (refine ACode.s_ret ?_; conv => whnf) | (refine ACode.s_skip ?_; conv => whnf) | (refine ACode.s_label ?_; conv => whnf))
          rename_i h3
          have h3 : sevN L ≤ 1 := by have := of_decide_eq_false h3; omega
          refine ⟨i + 1, ?_⟩
          conv => whnf
          repeat (refine And.intro ?_ ?_; (focus (first | rfl | (simp; done) | (first | exact hw1; done))); conv => whnf)
          exact ⟨⟨h, hsv h3⟩, by omega⟩
    · have h : i = f.lines.length := by have := of_decide_eq_false h; omega
      subst h
      rw [List.take_length] at ha
      have hone := parse_one hv ha ls
      have hlen1 := parse_len f ls
      have hlen2 := parse_len f (ls ++ [[120]])
      rw [List.length_append] at hlen2
      have he1 := parse_err hv ls
      have he2 := parse_err hv (ls ++ [[120]])
      repeat (first | refine ACode.seq ?_ | (refine ACode.s_reg tys_ok ?_; conv => whnf) | refine ACode.s_block ?_ | refine ACode.s_scope ?_ | (refine ACode.s_cond ?_; conv => whnf) | (refine ACode.s_exit ?_; conv => whnf) | (refine ACode.s_ret ?_; conv => whnf) | (refine ACode.s_skip ?_; conv => whnf) | (refine ACode.s_label ?_; conv => whnf))
      refine ACall.of_spec (parse_spec f ls hs (by omega) (fun l hl => by have := hn200 l hl; omega)) rfl fun r hr => ?_
      subst hr
      conv => whnf
      repeat (first | refine ACode.seq ?_ | (refine ACode.s_reg tys_ok ?_; conv => whnf) | refine ACode.s_block ?_ | refine ACode.s_scope ?_ | (refine ACode.s_cond ?_; conv => whnf) | (refine ACode.s_exit ?_; conv => whnf) | (refine ACode.s_ret ?_; conv => whnf) | (refine ACode.s_skip ?_; conv => whnf) | (refine ACode.s_label ?_; conv => whnf))
      refine ACode.drawO [0, 1, 2, 4, 3, 5, 6, 7, 8, 9, 10, 11] [4] [3, 5, 6] [0, 4] tys_ok (by kernel_rfl) (by kernel_rfl) ?_
      conv => whnf
      refine ⟨rfl, ?_⟩
      conv => whnf
      refine ⟨⟨rfl, rfl⟩, ?_⟩
      conv => whnf
      refine ⟨rfl, ?_⟩
      conv => whnf
      refine ⟨⟨rfl, rfl⟩, ?_⟩
      conv => whnf
      refine ⟨⟨rfl, by simp; omega⟩, ?_⟩
      rw [List.nil_append]
      conv => whnf
      refine ⟨⟨by simp, by simp; omega⟩, ?_⟩
      rw [show strs ls ++ [AV.str (⟨#[120]⟩ : ByteArray).data.toList] = strs (ls ++ [[120]]) by simp]
      conv => whnf
      refine ACall.freeze 2 ?_ (by kernel_rfl)
      conv => whnf
      refine ⟨strs_closed _, ?_⟩
      conv => whnf
      repeat (refine ⟨(by first | rfl | (simp; done) : (_ : Nat) = _), ?_⟩; conv => whnf)
      refine ACall.of_spec (parse_spec f (ls ++ [[120]]) hs (by simp; omega) (fun l hl => by
        rcases List.mem_append.1 hl with hl | hl
        · have := hn200 l hl; omega
        · rw [List.mem_singleton.1 hl]; decide)) rfl fun r hr => ?_
      subst hr
      conv => whnf
      repeat (first | refine ACode.seq ?_ | (refine ACode.s_reg tys_ok ?_; conv => whnf) | refine ACode.s_block ?_ | refine ACode.s_scope ?_ | (refine ACode.s_cond ?_; conv => whnf) | (refine ACode.s_exit ?_; conv => whnf) | (refine ACode.s_ret ?_; conv => whnf) | (refine ACode.s_skip ?_; conv => whnf) | (refine ACode.s_label ?_; conv => whnf))
      generalize parseR f ls = R1 at *
      generalize parseR f (ls ++ [[120]]) = R2 at *
      have hor : R1.1 = [] ∨ R2.1 = [] := by
        by_cases h1 : R1.1 = []
        · exact .inl h1
        · refine .inr (Classical.byContradiction fun h2 => ?_)
          have e1 := hlen1 h1
          have e2 := hlen2 h2
          have : ([[120]] : List Bs).length = 1 := rfl
          omega
      clear hlen1 hlen2
      repeat' (first | (refine And.intro (fun _ => ?_) (fun _ => ?_) <;> conv => whnf) | refine ACode.seq ?_ | (refine ACode.s_reg tys_ok ?_; conv => whnf) | refine ACode.s_block ?_ | refine ACode.s_scope ?_ | (refine ACode.s_cond ?_; conv => whnf) | (refine ACode.s_exit ?_; conv => whnf) | (refine ACode.s_ret ?_; conv => whnf) | (refine ACode.s_skip ?_; conv => whnf) | (refine ACode.s_label ?_; conv => whnf))
      all_goals clear hs hn200 hP10 ha hll hsl hfew hv
      all_goals refine congrArg AV.bool ?_
      all_goals first | (simp at *; done) | (simp at *; omega) | (simp_all; done) | trace_state
end Go.Proofs.YtbodeejogdckgaaGreatDoor
