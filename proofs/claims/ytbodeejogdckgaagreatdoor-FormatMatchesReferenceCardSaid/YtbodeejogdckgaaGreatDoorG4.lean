/-
  The reference: Few.
-/
import Derived.Test.YtbodeejogdckgaaGreatDoorG3
set_option linter.unusedVariables false
set_option linter.unusedSimpArgs false
namespace Go.Proofs.YtbodeejogdckgaaGreatDoor
open Go.Av Go.Shelf Pl
/-- Which formats and lines are few. -/
def fewB (f : Fm) (ls : List Bs) : Bool := decide (ls.length ≤ 8) && decide (f.lines.length ≤ 10) && decide (f.name.length ≤ 40) && f.lines.all (fun l => decide (l.length ≤ 10)) && f.lines.flatten.all (fun p => decide (p.t.length ≤ 40)) && ls.all (fun l => decide (l.length ≤ 200))
set_option maxRecDepth 100000 in
theorem few_spec (f : Fm) (ls : List Bs) : Ctr Tryz.prog 11 [f.v, strsA ls] (fun r => r = .bool (fewB f ls)) := by
  refine Ctr.of_body Tryz.func11 rfl tys_ok (by kernel_rfl) ?_
  conv => whnf
  repeat (first | refine ACode.seq ?_ | (refine ACode.s_reg tys_ok ?_; conv => whnf) | refine ACode.s_block ?_ | refine ACode.s_scope ?_ | (refine ACode.s_cond ?_; conv => whnf) | (refine ACode.s_exit ?_; conv => whnf) | (refine ACode.s_ret ?_; conv => whnf) | (refine ACode.s_skip ?_; conv => whnf) | (refine ACode.s_label ?_; conv => whnf))
  have hll : (f.lines.map ptsA).length = f.lines.length := by simp
  have hsl : (strs ls).length = ls.length := by simp
  repeat' (first | (refine And.intro (fun _ => ?_) (fun _ => ?_) <;> conv => whnf) | refine ACode.seq ?_ | (refine ACode.s_reg tys_ok ?_; conv => whnf) | refine ACode.s_block ?_ | refine ACode.s_scope ?_ | (refine ACode.s_cond ?_; conv => whnf) | (refine ACode.s_exit ?_; conv => whnf) | (refine ACode.s_ret ?_; conv => whnf) | (refine ACode.s_skip ?_; conv => whnf) | (refine ACode.s_label ?_; conv => whnf))
  · rename_i h0 h1 h2
    exact congrArg AV.bool (by unfold fewB; rw [decide_eq_false (p := f.name.length ≤ 40) (by simp at h2; omega)]; simp)
  rotate_left
  · rename_i h0 h1
    exact congrArg AV.bool (by unfold fewB; rw [decide_eq_false (p := f.lines.length ≤ 10) (by simp at h1; omega)]; simp)
  · rename_i h0
    exact congrArg AV.bool (by unfold fewB; rw [decide_eq_false (p := ls.length ≤ 8) (by simp at h0; omega)]; simp)
  · rename_i h0 h1 h2
    have hv : fewB f ls = (f.lines.all (fun l => decide (l.length ≤ 10)) && f.lines.flatten.all (fun p => decide (p.t.length ≤ 40)) && ls.all (fun l => decide (l.length ≤ 200))) := by
      unfold fewB
      rw [decide_eq_true (p := f.name.length ≤ 40) (by simp at h2; omega), decide_eq_true (p := f.lines.length ≤ 10) (by simp at h1; omega), decide_eq_true (p := ls.length ≤ 8) (by simp at h0; omega)]; simp
    have hL10 : f.lines.length ≤ 10 := by simp at h1; omega
    have hS8 : ls.length ≤ 8 := by simp at h0; omega
    conv => whnf
    refine ACode.loopD (fun i : Nat => mk 65 [(1, strsA ls), (2, .ptr 0 0), (4, .lit false), (5, .int .i64 i)]) (fun i => [.cells [.str f.name, .sl 1 (f.lines.map ptsA)]]) (fun i => i ≤ f.lines.length ∧ (f.lines.take i).all (fun l => decide (l.length ≤ 10)) = true) (fun i => f.lines.length - i) (fun _ _ => ⟨rfl, rfl, trivial⟩) ⟨0, ?_⟩ (fun _ => rfl) fun i hi => ?_
    · conv => whnf
      repeat (refine And.intro ?_ ?_; (focus (first | rfl | (simp; done))); conv => whnf)
      rfl
    · obtain ⟨hi, ha⟩ := hi
      repeat (first | refine ACode.seq ?_ | (refine ACode.s_reg tys_ok ?_; conv => whnf) | refine ACode.s_block ?_ | refine ACode.s_scope ?_ | (refine ACode.s_cond ?_; conv => whnf) | (refine ACode.s_exit ?_; conv => whnf) | (refine ACode.s_ret ?_; conv => whnf) | (refine ACode.s_skip ?_; conv => whnf) | (refine ACode.s_label ?_; conv => whnf))
      refine ⟨fun h => ?_, fun h => ?_⟩
      · have h : i < f.lines.length := by have := of_decide_eq_true h; omega
        have hw1 : Wr .i64 ((i : Int) + 1) = ((i + 1 : Nat) : Int) := by rw [Wr64 _ (by omega) (by omega)]; rfl
        have htk : f.lines.take (i + 1) = f.lines.take i ++ [f.lines[i]] := List.take_succ_eq_append_getElem h
        conv => whnf
        repeat (first | refine ACode.seq ?_ | (refine ACode.s_reg tys_ok ?_; conv => whnf) | refine ACode.s_block ?_ | refine ACode.s_scope ?_ | (refine ACode.s_cond ?_; conv => whnf) | (refine ACode.s_exit ?_; conv => whnf) | (refine ACode.s_ret ?_; conv => whnf) | (refine ACode.s_skip ?_; conv => whnf) | (refine ACode.s_label ?_; conv => whnf))
        refine ⟨by omega, _, lines_get f i h, ?_⟩
        conv => whnf
        repeat (first | refine ACode.seq ?_ | (refine ACode.s_reg tys_ok ?_; conv => whnf) | refine ACode.s_block ?_ | refine ACode.s_scope ?_ | (refine ACode.s_cond ?_; conv => whnf) | (refine ACode.s_exit ?_; conv => whnf) | (refine ACode.s_ret ?_; conv => whnf) | (refine ACode.s_skip ?_; conv => whnf) | (refine ACode.s_label ?_; conv => whnf))
        repeat' (first | (refine And.intro (fun _ => ?_) (fun _ => ?_) <;> conv => whnf) | refine ACode.seq ?_ | (refine ACode.s_reg tys_ok ?_; conv => whnf) | refine ACode.s_block ?_ | refine ACode.s_scope ?_ | (refine ACode.s_cond ?_; conv => whnf) | (refine ACode.s_exit ?_; conv => whnf) | (refine ACode.s_ret ?_; conv => whnf) | (refine ACode.s_skip ?_; conv => whnf) | (refine ACode.s_label ?_; conv => whnf))
        · rename_i g
          rw [hv, List.all_eq_false.2 ⟨f.lines[i], List.getElem_mem h, by simp at g; simp; omega⟩]
          rfl
        · rename_i g
          refine ⟨i + 1, ?_⟩
          conv => whnf
          repeat (refine And.intro ?_ ?_; (focus (first | rfl | (simp; done) | (first | exact hw1; done))); conv => whnf)
          refine ⟨⟨h, ?_⟩, by omega⟩
          rw [htk, List.all_append, ha]
          simp at g
          simp
          omega
      · have h : i = f.lines.length := by have := of_decide_eq_false h; omega
        subst h
        rw [List.take_length] at ha
        rw [ha, Bool.true_and] at hv
        have hl2 : ∀ l ∈ f.lines, l.length ≤ 1000 := fun l hl => by have := List.all_eq_true.1 ha l hl; simp at this; omega
        repeat (first | refine ACode.seq ?_ | (refine ACode.s_reg tys_ok ?_; conv => whnf) | refine ACode.s_block ?_ | refine ACode.s_scope ?_ | (refine ACode.s_cond ?_; conv => whnf) | (refine ACode.s_exit ?_; conv => whnf) | (refine ACode.s_ret ?_; conv => whnf) | (refine ACode.s_skip ?_; conv => whnf) | (refine ACode.s_label ?_; conv => whnf))
        refine ACall.of_spec (rparts_spec f (by omega) hl2) rfl fun r hr => ?_
        subst hr
        conv => whnf
        repeat (first | refine ACode.seq ?_ | (refine ACode.s_reg tys_ok ?_; conv => whnf) | refine ACode.s_block ?_ | refine ACode.s_scope ?_ | (refine ACode.s_cond ?_; conv => whnf) | (refine ACode.s_exit ?_; conv => whnf) | (refine ACode.s_ret ?_; conv => whnf) | (refine ACode.s_skip ?_; conv => whnf) | (refine ACode.s_label ?_; conv => whnf))
        have hfl := flat_len' f.lines hl2
        have hfl2 : f.lines.flatten.length ≤ 10000 := by omega
        generalize hL : f.lines.flatten = L at *
        have hmL : (L.map Pt.v).length = L.length := by simp
        refine ACode.loopD (fun i : Nat => mk 65 [(1, strsA ls), (4, .lit false), (6, ptsA L), (7, .int .i64 i)]) (fun i => [.cells [.str f.name, .sl 1 (f.lines.map ptsA)]]) (fun i => i ≤ L.length ∧ (L.take i).all (fun p => decide (p.t.length ≤ 40)) = true) (fun i => L.length - i) (fun _ _ => ⟨rfl, rfl, trivial⟩) ⟨0, ?_⟩ (fun _ => rfl) fun i hi => ?_
        · conv => whnf
          repeat (refine And.intro ?_ ?_; (focus (first | rfl | (simp; done))); conv => whnf)
          rfl
        · obtain ⟨hi, hb⟩ := hi
          repeat (first | refine ACode.seq ?_ | (refine ACode.s_reg tys_ok ?_; conv => whnf) | refine ACode.s_block ?_ | refine ACode.s_scope ?_ | (refine ACode.s_cond ?_; conv => whnf) | (refine ACode.s_exit ?_; conv => whnf) | (refine ACode.s_ret ?_; conv => whnf) | (refine ACode.s_skip ?_; conv => whnf) | (refine ACode.s_label ?_; conv => whnf))
          refine ⟨fun h => ?_, fun h => ?_⟩
          · have h : i < L.length := by have := of_decide_eq_true h; omega
            have hw1 : Wr .i64 ((i : Int) + 1) = ((i + 1 : Nat) : Int) := by rw [Wr64 _ (by omega) (by omega)]; rfl
            have htk : L.take (i + 1) = L.take i ++ [L[i]] := List.take_succ_eq_append_getElem h
            conv => whnf
            repeat (first | refine ACode.seq ?_ | (refine ACode.s_reg tys_ok ?_; conv => whnf) | refine ACode.s_block ?_ | refine ACode.s_scope ?_ | (refine ACode.s_cond ?_; conv => whnf) | (refine ACode.s_exit ?_; conv => whnf) | (refine ACode.s_ret ?_; conv => whnf) | (refine ACode.s_skip ?_; conv => whnf) | (refine ACode.s_label ?_; conv => whnf))
            refine ⟨by omega, _, pts_get L i h, ?_⟩
            conv => whnf
            repeat (first | refine ACode.seq ?_ | (refine ACode.s_reg tys_ok ?_; conv => whnf) | refine ACode.s_block ?_ | refine ACode.s_scope ?_ | (refine ACode.s_cond ?_; conv => whnf) | (refine ACode.s_exit ?_; conv => whnf) | (refine ACode.s_ret ?_; conv => whnf) | (refine ACode.s_skip ?_; conv => whnf) | (refine ACode.s_label ?_; conv => whnf))
            repeat' (first | (refine And.intro (fun _ => ?_) (fun _ => ?_) <;> conv => whnf) | refine ACode.seq ?_ | (refine ACode.s_reg tys_ok ?_; conv => whnf) | refine ACode.s_block ?_ | refine ACode.s_scope ?_ | (refine ACode.s_cond ?_; conv => whnf) | (refine ACode.s_exit ?_; conv => whnf) | (refine ACode.s_ret ?_; conv => whnf) | (refine ACode.s_skip ?_; conv => whnf) | (refine ACode.s_label ?_; conv => whnf))
            · rename_i g
              rw [hv, List.all_eq_false.2 ⟨L[i], List.getElem_mem h, by simp at g; simp; omega⟩]
              rfl
            · rename_i g
              refine ⟨i + 1, ?_⟩
              conv => whnf
              repeat (refine And.intro ?_ ?_; (focus (first | rfl | (simp; done) | (first | exact hw1; done))); conv => whnf)
              refine ⟨⟨h, ?_⟩, by omega⟩
              rw [htk, List.all_append, hb]
              simp at g
              simp
              omega
          · have h : i = L.length := by have := of_decide_eq_false h; omega
            rw [h, List.take_length] at hb
            rw [hb, Bool.true_and] at hv
            repeat (first | refine ACode.seq ?_ | (refine ACode.s_reg tys_ok ?_; conv => whnf) | refine ACode.s_block ?_ | refine ACode.s_scope ?_ | (refine ACode.s_cond ?_; conv => whnf) | (refine ACode.s_exit ?_; conv => whnf) | (refine ACode.s_ret ?_; conv => whnf) | (refine ACode.s_skip ?_; conv => whnf) | (refine ACode.s_label ?_; conv => whnf))
            refine ACode.loopD (fun i : Nat => mk 65 [(1, strsA ls), (4, .lit false), (8, .int .i64 i)]) (fun i => [.cells [.str f.name, .sl 1 (f.lines.map ptsA)]]) (fun i => i ≤ ls.length ∧ (ls.take i).all (fun l => decide (l.length ≤ 200)) = true) (fun i => ls.length - i) (fun _ _ => ⟨rfl, rfl, trivial⟩) ⟨0, ?_⟩ (fun _ => rfl) fun i hi => ?_
            · conv => whnf
              repeat (refine And.intro ?_ ?_; (focus (first | rfl | (simp; done))); conv => whnf)
              rfl
            · obtain ⟨hi, hb⟩ := hi
              repeat (first | refine ACode.seq ?_ | (refine ACode.s_reg tys_ok ?_; conv => whnf) | refine ACode.s_block ?_ | refine ACode.s_scope ?_ | (refine ACode.s_cond ?_; conv => whnf) | (refine ACode.s_exit ?_; conv => whnf) | (refine ACode.s_ret ?_; conv => whnf) | (refine ACode.s_skip ?_; conv => whnf) | (refine ACode.s_label ?_; conv => whnf))
              refine ⟨fun h => ?_, fun h => ?_⟩
              · have h : i < ls.length := by have := of_decide_eq_true h; omega
                have hw1 : Wr .i64 ((i : Int) + 1) = ((i + 1 : Nat) : Int) := by rw [Wr64 _ (by omega) (by omega)]; rfl
                have htk : ls.take (i + 1) = ls.take i ++ [ls[i]] := List.take_succ_eq_append_getElem h
                conv => whnf
                repeat (first | refine ACode.seq ?_ | (refine ACode.s_reg tys_ok ?_; conv => whnf) | refine ACode.s_block ?_ | refine ACode.s_scope ?_ | (refine ACode.s_cond ?_; conv => whnf) | (refine ACode.s_exit ?_; conv => whnf) | (refine ACode.s_ret ?_; conv => whnf) | (refine ACode.s_skip ?_; conv => whnf) | (refine ACode.s_label ?_; conv => whnf))
                refine ⟨by omega, _, strs_get ls i h, ?_⟩
                conv => whnf
                repeat (first | refine ACode.seq ?_ | (refine ACode.s_reg tys_ok ?_; conv => whnf) | refine ACode.s_block ?_ | refine ACode.s_scope ?_ | (refine ACode.s_cond ?_; conv => whnf) | (refine ACode.s_exit ?_; conv => whnf) | (refine ACode.s_ret ?_; conv => whnf) | (refine ACode.s_skip ?_; conv => whnf) | (refine ACode.s_label ?_; conv => whnf))
                repeat' (first | (refine And.intro (fun _ => ?_) (fun _ => ?_) <;> conv => whnf) | refine ACode.seq ?_ | (refine ACode.s_reg tys_ok ?_; conv => whnf) | refine ACode.s_block ?_ | refine ACode.s_scope ?_ | (refine ACode.s_cond ?_; conv => whnf) | (refine ACode.s_exit ?_; conv => whnf) | (refine ACode.s_ret ?_; conv => whnf) | (refine ACode.s_skip ?_; conv => whnf) | (refine ACode.s_label ?_; conv => whnf))
                · rename_i g
                  rw [hv, List.all_eq_false.2 ⟨ls[i], List.getElem_mem h, by simp at g; simp; omega⟩]
                · rename_i g
                  refine ⟨i + 1, ?_⟩
                  conv => whnf
                  repeat (refine And.intro ?_ ?_; (focus (first | rfl | (simp; done) | (first | exact hw1; done))); conv => whnf)
                  refine ⟨⟨h, ?_⟩, by omega⟩
                  rw [htk, List.all_append, hb]
                  simp at g
                  simp
                  omega
              · have h : i = ls.length := by have := of_decide_eq_false h; omega
                rw [h, List.take_length] at hb
                conv => whnf
                repeat (first | refine ACode.seq ?_ | (refine ACode.s_reg tys_ok ?_; conv => whnf) | refine ACode.s_block ?_ | refine ACode.s_scope ?_ | (refine ACode.s_cond ?_; conv => whnf) | (refine ACode.s_exit ?_; conv => whnf) | (refine ACode.s_ret ?_; conv => whnf) | (refine ACode.s_skip ?_; conv => whnf) | (refine ACode.s_label ?_; conv => whnf))
                rw [hv, hb]
end Go.Proofs.YtbodeejogdckgaaGreatDoor
