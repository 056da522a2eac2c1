/-
  validPart, Valid.
-/
import Derived.Test.YtbodeejogdckgaaGreatDoorA1
import Derived.Test.YtbodeejogdckgaaGreatDoorAv54
set_option linter.unusedVariables false
set_option linter.unusedSimpArgs false
namespace Go.Proofs.YtbodeejogdckgaaGreatDoor
open Go.Av Pl
set_option maxRecDepth 100000 in
theorem validPart_spec (p : Pt) (ht : p.t.length ≤ 1000) : Ctr Tryz.prog 43 [p.v] (fun r => r = .bool (partB p)) := by
  refine Ctr.of_body Tryz.func43 rfl tys_ok (by kernel_rfl) ?_
  conv => whnf
  repeat (first | refine ACode.seq ?_ | (refine ACode.s_reg tys_ok ?_; conv => whnf) | refine ACode.s_block ?_ | refine ACode.s_scope ?_ | (refine ACode.s_cond ?_; conv => whnf) | (refine ACode.s_exit ?_; conv => whnf) | (refine ACode.s_ret ?_; conv => whnf) | (refine ACode.s_skip ?_; conv => whnf) | (refine ACode.s_label ?_; conv => whnf))
  repeat' (first | (refine And.intro (fun _ => ?_) (fun _ => ?_) <;> conv => whnf) | (refine ACall.of_spec (isFit_spec p.t (by omega)) rfl fun r hr => ?_; subst hr; conv => whnf) | (refine ACall.of_spec (trim_spec p.t ht) rfl fun r hr => ?_; subst hr; conv => whnf) | refine ACode.seq ?_ | (refine ACode.s_reg tys_ok ?_; conv => whnf) | refine ACode.s_block ?_ | refine ACode.s_scope ?_ | (refine ACode.s_cond ?_; conv => whnf) | (refine ACode.s_exit ?_; conv => whnf) | (refine ACode.s_ret ?_; conv => whnf) | (refine ACode.s_skip ?_; conv => whnf) | (refine ACode.s_label ?_; conv => whnf))
  all_goals
    refine congrArg AV.bool ?_
    have htr := trim_pat p.t
    unfold partB patB
    try simp only [decide_eq_true_eq, decide_eq_false_iff_not] at *
    try simp only [*, if_true, if_false, reduceIte, or_self, or_false, false_or, true_or, or_true]
    try first | done | (rw [Bool.eq_iff_iff]; simp_all; done) | (rw [Bool.eq_iff_iff]; simp_all <;> omega) | trace_state
def seenK (l : List Pt) (j : Nat) : Bool := l.any fun p => decide (p.k = (j : Int))
theorem seenK_app (l : List Pt) (p : Pt) (j : Nat) : seenK (l ++ [p]) j = (seenK l j || decide (p.k = (j : Int))) := by unfold seenK; rw [List.any_append]; simp
def okP (l : List Pt) : Bool := l.all partB && decide (kindsR l).Nodup
theorem okP_app (l : List Pt) (p : Pt) : okP (l ++ [p]) = (okP l && partB p && (decide (p.k = 1) || !l.any fun q => decide (q.k = p.k))) := by
  unfold okP kindsR
  rw [List.all_append, List.filter_append, List.map_append]
  by_cases h : p.k = 1
  · have e : ([p].filter fun p => decide (p.k ≠ 1)) = [] := by simp [h]
    rw [e]
    simp only [List.map_nil, List.append_nil, List.all_cons, List.all_nil, Bool.and_true, decide_eq_true h, Bool.true_or]
    cases l.all partB <;> cases partB p <;> simp
  · have e : ([p].filter fun p => decide (p.k ≠ 1)) = [p] := by simp [h]
    rw [e, Bool.eq_iff_iff]
    simp only [List.map_cons, List.map_nil, Bool.and_eq_true, decide_eq_true_eq, List.nodup_append, List.all_cons, List.all_nil, Bool.and_true, Bool.or_eq_true, h, false_or, Bool.not_eq_true', List.any_eq_false]
    constructor
    · rintro ⟨⟨h1, h2⟩, h3, _, h5⟩
      refine ⟨⟨⟨h1, h3⟩, h2⟩, fun q hq hk => ?_⟩
      have hk : q.k = p.k := by simpa using hk
      exact h5 q.k (List.mem_map.2 ⟨q, List.mem_filter.2 ⟨hq, by simp; omega⟩, rfl⟩) p.k (by simp) hk
    · rintro ⟨⟨⟨h1, h3⟩, h2⟩, h4⟩
      refine ⟨⟨h1, h2⟩, h3, by simp, fun a ha b hb hab => ?_⟩
      obtain ⟨q, hq, rfl⟩ := List.mem_map.1 ha
      simp only [List.mem_singleton] at hb
      exact h4 q (List.mem_filter.1 hq).1 (by first | omega | exact decide_eq_true (by omega))
theorem okP_pre (l r : List Pt) (h : okP l = false) : okP (l ++ r) = false := by
  unfold okP kindsR at *
  rw [List.all_append, List.filter_append, List.map_append]
  rw [Bool.and_eq_false_iff] at *
  rcases h with h | h
  · left; rw [h]; rfl
  · right
    simp only [decide_eq_false_iff_not] at *
    intro hn
    exact h (List.nodup_append.1 hn).1
theorem part_kind {p : Pt} (h : partB p = true) : p.k = 1 ∨ p.k = 2 ∨ p.k = 3 ∨ p.k = 4 ∨ p.k = 5 ∨ p.k = 6 := by
  unfold partB at h
  split at h
  · omega
  · split at h
    · omega
    · split at h
      · omega
      · cases h
def lenOK (l : List Pt) : Bool := decide (1 ≤ l.length) && decide (l.length ≤ 8)
theorem validF_eq (f : Fm) : validF f = (nameB f.name && decide (1 ≤ f.lines.length) && decide (f.lines.length ≤ 8) && f.lines.all lenOK && okP f.lines.flatten) := by
  unfold validF okP
  rw [Bool.and_assoc]; rfl
abbrev seenA (l : List Pt) : List AV := [.bool (seenK l 0), .bool (seenK l 1), .bool (seenK l 2), .bool (seenK l 3), .bool (seenK l 4), .bool (seenK l 5), .bool (seenK l 6)]
theorem lines_get (f : Fm) (k : Nat) (h : k < f.lines.length) : (f.lines.map ptsA)[k]? = some (ptsA f.lines[k]) := by simp [h]
theorem pts_get (l : List Pt) (k : Nat) (h : k < l.length) : (l.map Pt.v)[k]? = some l[k].v := by simp [h]
set_option maxRecDepth 100000 in
theorem valid_spec (f : Fm) (hn : f.name.length ≤ 1000) (ht : ∀ l ∈ f.lines, ∀ p ∈ l, p.t.length ≤ 1000) (hl : f.lines.length ≤ 1000) (hl2 : ∀ l ∈ f.lines, l.length ≤ 1000) : Ctr Tryz.prog 20 [f.v] (fun r => r = .bool (validF f)) := by
  refine Ctr.of_body Tryz.func20 rfl tys_ok (by kernel_rfl) ?_
  conv => whnf
  repeat (first | refine ACode.seq ?_ | (refine ACode.s_reg tys_ok ?_; conv => whnf) | refine ACode.s_block ?_ | refine ACode.s_scope ?_ | (refine ACode.s_cond ?_; conv => whnf) | (refine ACode.s_exit ?_; conv => whnf) | (refine ACode.s_ret ?_; conv => whnf) | (refine ACode.s_skip ?_; conv => whnf) | (refine ACode.s_label ?_; conv => whnf))
  repeat' (first | (refine And.intro (fun _ => ?_) (fun _ => ?_) <;> conv => whnf) | (refine ACall.of_spec (isName_spec f.name (by omega)) rfl fun r hr => ?_; subst hr; conv => whnf) | refine ACode.seq ?_ | (refine ACode.s_reg tys_ok ?_; conv => whnf) | refine ACode.s_block ?_ | refine ACode.s_scope ?_ | (refine ACode.s_cond ?_; conv => whnf) | (refine ACode.s_exit ?_; conv => whnf) | (refine ACode.s_ret ?_; conv => whnf) | (refine ACode.s_skip ?_; conv => whnf) | (refine ACode.s_label ?_; conv => whnf))
  · rename_i h0 h1 h2
    refine congrArg AV.bool ?_
    rw [validF_eq, decide_eq_false (p := f.lines.length ≤ 8) (by simp at h2; omega)]; simp
  rotate_left
  · rename_i h0 h1
    refine congrArg AV.bool ?_
    rw [validF_eq, decide_eq_false (p := 1 ≤ f.lines.length) (by simp at h1; omega)]; simp
  · rename_i h0
    refine congrArg AV.bool ?_
    rw [validF_eq, show nameB f.name = false by simpa using h0]; simp
  · rename_i h0 h1 h2
    have hv : validF f = (f.lines.all lenOK && okP f.lines.flatten) := by
      rw [validF_eq, decide_eq_true (p := f.lines.length ≤ 8) (by simp at h2; omega), decide_eq_true (p := 1 ≤ f.lines.length) (by simp at h1; omega), show nameB f.name = true by simpa using h0]; simp
    refine ACode.weakC 1 rfl (cs' := seenA []) (by repeat' first | exact trivial | exact weakA.lit rfl | constructor) ?_
    conv => whnf
    have hll : (f.lines.map ptsA).length = f.lines.length := by simp
    refine ACode.loopD (fun i : Nat => mk 64 [(1, .ptr 0 0), (3, .ptr 1 0), (25, .sl 1 (f.lines.map ptsA)), (26, .int .i64 f.lines.length), (27, .int .i64 i)]) (fun i => [.cells [.str f.name, .sl 1 (f.lines.map ptsA)], .cells (seenA (f.lines.take i).flatten)]) (fun i => i ≤ f.lines.length ∧ (f.lines.take i).all lenOK = true ∧ okP (f.lines.take i).flatten = true) (fun i => f.lines.length - i) (fun _ _ => ⟨rfl, rfl, rfl, trivial⟩) ⟨0, ?_⟩ (fun _ => rfl) fun i hi => ?_
    · conv => whnf
      repeat (refine And.intro ?_ ?_; (focus (first | rfl | (simp; done))); conv => whnf)
      exact (by decide : okP [] = true)
    · obtain ⟨hi, ha, hb⟩ := hi
      repeat (first | refine ACode.seq ?_ | (refine ACode.s_reg tys_ok ?_; conv => whnf) | refine ACode.s_block ?_ | refine ACode.s_scope ?_ | (refine ACode.s_cond ?_; conv => whnf) | (refine ACode.s_exit ?_; conv => whnf) | (refine ACode.s_ret ?_; conv => whnf) | (refine ACode.s_skip ?_; conv => whnf) | (refine ACode.s_label ?_; conv => whnf))
      refine ⟨fun h => ?_, fun h => ?_⟩
      · have h : i < f.lines.length := by simp at h; omega
        have hw1 : Wr .i64 ((i : Int) + 1) = ((i + 1 : Nat) : Int) := by rw [Wr64 _ (by omega) (by omega)]; rfl
        have htk : f.lines.take (i + 1) = f.lines.take i ++ [f.lines[i]] := List.take_succ_eq_append_getElem h
        conv => whnf
        repeat (first | refine ACode.seq ?_ | (refine ACode.s_reg tys_ok ?_; conv => whnf) | refine ACode.s_block ?_ | refine ACode.s_scope ?_ | (refine ACode.s_cond ?_; conv => whnf) | (refine ACode.s_exit ?_; conv => whnf) | (refine ACode.s_ret ?_; conv => whnf) | (refine ACode.s_skip ?_; conv => whnf) | (refine ACode.s_label ?_; conv => whnf))
        refine ⟨by omega, _, lines_get f i h, ?_⟩
        conv => whnf
        repeat (first | refine ACode.seq ?_ | (refine ACode.s_reg tys_ok ?_; conv => whnf) | refine ACode.s_block ?_ | refine ACode.s_scope ?_ | (refine ACode.s_cond ?_; conv => whnf) | (refine ACode.s_exit ?_; conv => whnf) | (refine ACode.s_ret ?_; conv => whnf) | (refine ACode.s_skip ?_; conv => whnf) | (refine ACode.s_label ?_; conv => whnf))
        have hlen2 : ¬ lenOK f.lines[i] = true → validF f = false := fun hx => by
          rw [hv, show f.lines.all lenOK = false from List.all_eq_false.2 ⟨f.lines[i], List.getElem_mem h, by simpa using hx⟩]; rfl
        have hokx : ∀ k, k < f.lines[i].length → okP ((f.lines.take i).flatten ++ f.lines[i].take (k + 1)) = false → validF f = false := fun k hk hx => by
          have e : f.lines.flatten = ((f.lines.take i).flatten ++ f.lines[i].take (k + 1)) ++ (f.lines[i].drop (k + 1) ++ (f.lines.drop (i + 1)).flatten) := by
            have e1 : f.lines = f.lines.take i ++ f.lines[i] :: f.lines.drop (i + 1) := by
              rw [← List.drop_eq_getElem_cons h, List.take_append_drop]
            conv => lhs; rw [e1]
            rw [List.flatten_append, List.flatten_cons]
            simp only [List.append_assoc]
            congr 1
            rw [← List.append_assoc, List.take_append_drop]
          rw [hv, e, okP_pre _ _ hx, Bool.and_false]
        repeat' (first | (refine And.intro (fun _ => ?_) (fun _ => ?_) <;> conv => whnf) | refine ACode.seq ?_ | (refine ACode.s_reg tys_ok ?_; conv => whnf) | refine ACode.s_block ?_ | refine ACode.s_scope ?_ | (refine ACode.s_cond ?_; conv => whnf) | (refine ACode.s_exit ?_; conv => whnf) | (refine ACode.s_ret ?_; conv => whnf) | (refine ACode.s_skip ?_; conv => whnf) | (refine ACode.s_label ?_; conv => whnf))
        · rename_i g1 g2
          exact congrArg AV.bool (hlen2 (by simp at g2; simp [lenOK]; omega)).symm
        rotate_left
        · rename_i g1
          exact congrArg AV.bool (hlen2 (by simp at g1; simp [lenOK]; omega)).symm
        · rename_i g1 g2
          have hlo : lenOK f.lines[i] = true := by simp at g1 g2; simp [lenOK]; omega
          have hLl : f.lines[i].length ≤ 8 := by simp at g2; omega
          have hmem := List.getElem_mem h
          generalize f.lines[i] = L at *
          have hBL : (f.lines.take (i + 1)).flatten = (f.lines.take i).flatten ++ L := by rw [htk]; simp
          generalize (f.lines.take i).flatten = B at *
          refine ACode.loopD (fun k : Nat => mk 64 [(1, .ptr 0 0), (3, .ptr 1 0), (25, .sl 1 (f.lines.map ptsA)), (26, .int .i64 f.lines.length), (27, .int .i64 i), (39, .sl 2 (L.map Pt.v)), (40, .int .i64 L.length), (41, .int .i64 k)]) (fun k => [.cells [.str f.name, .sl 1 (f.lines.map ptsA)], .cells (seenA (B ++ L.take k))]) (fun k => k ≤ L.length ∧ okP (B ++ L.take k) = true) (fun k => L.length - k) (fun _ _ => ⟨rfl, rfl, rfl, trivial⟩) ⟨0, ?_⟩ (fun _ => rfl) fun k hk => ?_
          · conv => whnf
            repeat (refine And.intro ?_ ?_; (focus (first | rfl | (simp; done))); conv => whnf)
            rw [List.take_zero, List.append_nil]; exact hb
          · obtain ⟨hk, hc⟩ := hk
            repeat (first | refine ACode.seq ?_ | (refine ACode.s_reg tys_ok ?_; conv => whnf) | refine ACode.s_block ?_ | refine ACode.s_scope ?_ | (refine ACode.s_cond ?_; conv => whnf) | (refine ACode.s_exit ?_; conv => whnf) | (refine ACode.s_ret ?_; conv => whnf) | (refine ACode.s_skip ?_; conv => whnf) | (refine ACode.s_label ?_; conv => whnf))
            refine ⟨fun h3 => ?_, fun h3 => ?_⟩
            · have h3 : k < L.length := by simp at h3; omega
              conv => whnf
              repeat (first | refine ACode.seq ?_ | (refine ACode.s_reg tys_ok ?_; conv => whnf) | refine ACode.s_block ?_ | refine ACode.s_scope ?_ | (refine ACode.s_cond ?_; conv => whnf) | (refine ACode.s_exit ?_; conv => whnf) | (refine ACode.s_ret ?_; conv => whnf) | (refine ACode.s_skip ?_; conv => whnf) | (refine ACode.s_label ?_; conv => whnf))
              refine ⟨by omega, _, pts_get L k h3, ?_⟩
              conv => whnf
              repeat (first | refine ACode.seq ?_ | (refine ACode.s_reg tys_ok ?_; conv => whnf) | refine ACode.s_block ?_ | refine ACode.s_scope ?_ | (refine ACode.s_cond ?_; conv => whnf) | (refine ACode.s_exit ?_; conv => whnf) | (refine ACode.s_ret ?_; conv => whnf) | (refine ACode.s_skip ?_; conv => whnf) | (refine ACode.s_label ?_; conv => whnf))
              refine ACall.of_spec (validPart_spec L[k] (ht _ hmem _ (List.getElem_mem h3))) rfl fun r hr => ?_
              subst hr
              have htk2 : B ++ L.take (k + 1) = (B ++ L.take k) ++ [L[k]] := by rw [List.take_succ_eq_append_getElem h3, List.append_assoc]
              have hok2 := okP_app (B ++ L.take k) L[k]
              have hokx := hokx k h3
              rw [htk2, hok2, hc] at hokx
              have hw2 : Wr .i64 ((k : Int) + 1) = ((k + 1 : Nat) : Int) := by rw [Wr64 _ (by omega) (by omega)]; rfl
              conv => whnf
              repeat (first | refine ACode.seq ?_ | (refine ACode.s_reg tys_ok ?_; conv => whnf) | refine ACode.s_block ?_ | refine ACode.s_scope ?_ | (refine ACode.s_cond ?_; conv => whnf) | (refine ACode.s_exit ?_; conv => whnf) | (refine ACode.s_ret ?_; conv => whnf) | (refine ACode.s_skip ?_; conv => whnf) | (refine ACode.s_label ?_; conv => whnf))
              refine ⟨fun h4 => ?_, fun h4 => ?_⟩
              · have h4 : partB L[k] = true := by simpa using h4
                have hkk := part_kind h4
                rw [h4] at hokx
                conv => whnf
                repeat (first | refine ACode.seq ?_ | (refine ACode.s_reg tys_ok ?_; conv => whnf) | refine ACode.s_block ?_ | refine ACode.s_scope ?_ | (refine ACode.s_cond ?_; conv => whnf) | (refine ACode.s_exit ?_; conv => whnf) | (refine ACode.s_ret ?_; conv => whnf) | (refine ACode.s_skip ?_; conv => whnf) | (refine ACode.s_label ?_; conv => whnf))
                refine ⟨fun h5 => ?_, fun h5 => ?_⟩
                · have h5 : ¬ L[k].k = 1 := by simpa using h5
                  generalize hK : L[k].k = K at *
                  rcases hkk with rfl | rfl | rfl | rfl | rfl | rfl
                  · exact absurd rfl h5
                  all_goals
                    rw [← hK] at hokx hok2
                    conv => whnf
                    repeat (first | refine ACode.seq ?_ | (refine ACode.s_reg tys_ok ?_; conv => whnf) | refine ACode.s_block ?_ | refine ACode.s_scope ?_ | (refine ACode.s_cond ?_; conv => whnf) | (refine ACode.s_exit ?_; conv => whnf) | (refine ACode.s_ret ?_; conv => whnf) | (refine ACode.s_skip ?_; conv => whnf) | (refine ACode.s_label ?_; conv => whnf))
                    refine ⟨⟨by decide, by decide⟩, ?_⟩
                    conv => whnf
                    repeat (first | refine ACode.seq ?_ | (refine ACode.s_reg tys_ok ?_; conv => whnf) | refine ACode.s_block ?_ | refine ACode.s_scope ?_ | (refine ACode.s_cond ?_; conv => whnf) | (refine ACode.s_exit ?_; conv => whnf) | (refine ACode.s_ret ?_; conv => whnf) | (refine ACode.s_skip ?_; conv => whnf) | (refine ACode.s_label ?_; conv => whnf))
                    refine ⟨fun h6 => ?_, fun h6 => ?_⟩
                    · have h6 : ((B ++ L.take k).any fun q => decide (q.k = L[k].k)) = true := by rw [hK]; exact h6
                      conv => whnf
                      repeat (first | refine ACode.seq ?_ | (refine ACode.s_reg tys_ok ?_; conv => whnf) | refine ACode.s_block ?_ | refine ACode.s_scope ?_ | (refine ACode.s_cond ?_; conv => whnf) | (refine ACode.s_exit ?_; conv => whnf) | (refine ACode.s_ret ?_; conv => whnf) | (refine ACode.s_skip ?_; conv => whnf) | (refine ACode.s_label ?_; conv => whnf))
                      exact congrArg AV.bool (hokx (by rw [h6, hK]; rfl)).symm
                    · have h6 : ((B ++ L.take k).any fun q => decide (q.k = L[k].k)) = false := by rw [hK]; exact h6
                      conv => whnf
                      repeat (first | refine ACode.seq ?_ | (refine ACode.s_reg tys_ok ?_; conv => whnf) | refine ACode.s_block ?_ | refine ACode.s_scope ?_ | (refine ACode.s_cond ?_; conv => whnf) | (refine ACode.s_exit ?_; conv => whnf) | (refine ACode.s_ret ?_; conv => whnf) | (refine ACode.s_skip ?_; conv => whnf) | (refine ACode.s_label ?_; conv => whnf))
                      refine ⟨⟨by decide, by decide⟩, ?_⟩
                      conv => whnf
                      refine ACode.weakC 1 rfl (cs' := seenA (B ++ L.take (k + 1))) ?_ ?_
                      · rw [htk2]
                        repeat' first | exact trivial | (refine weakA.lit ?_; rw [seenK_app, hK]; simp; done) | (refine weakA.bool ?_; rw [seenK_app, hK]; simp; done) | refine And.intro ?_ ?_
                      conv => whnf
                      repeat (first | refine ACode.seq ?_ | (refine ACode.s_reg tys_ok ?_; conv => whnf) | refine ACode.s_block ?_ | refine ACode.s_scope ?_ | (refine ACode.s_cond ?_; conv => whnf) | (refine ACode.s_exit ?_; conv => whnf) | (refine ACode.s_ret ?_; conv => whnf) | (refine ACode.s_skip ?_; conv => whnf) | (refine ACode.s_label ?_; conv => whnf))
                      refine ⟨k + 1, ?_⟩
                      conv => whnf
                      repeat (refine And.intro ?_ ?_; (focus (first | rfl | (simp; done) | (first | exact hw2; done))); conv => whnf)
                      exact ⟨⟨by omega, by rw [htk2, hok2, hc, h4, h6]; simp⟩, by omega⟩
                · have h5 : L[k].k = 1 := by simpa using h5
                  rw [h5]
                  conv => whnf
                  repeat (first | refine ACode.seq ?_ | (refine ACode.s_reg tys_ok ?_; conv => whnf) | refine ACode.s_block ?_ | refine ACode.s_scope ?_ | (refine ACode.s_cond ?_; conv => whnf) | (refine ACode.s_exit ?_; conv => whnf) | (refine ACode.s_ret ?_; conv => whnf) | (refine ACode.s_skip ?_; conv => whnf) | (refine ACode.s_label ?_; conv => whnf))
                  refine ⟨⟨by decide, by decide⟩, ?_⟩
                  conv => whnf
                  refine ACode.weakC 1 rfl (cs' := seenA (B ++ L.take (k + 1))) ?_ ?_
                  · rw [htk2]
                    repeat' first | exact trivial | (refine weakA.lit ?_; rw [seenK_app, h5]; simp; done) | (refine weakA.bool ?_; rw [seenK_app, h5]; simp; done) | refine And.intro ?_ ?_
                  conv => whnf
                  repeat (first | refine ACode.seq ?_ | (refine ACode.s_reg tys_ok ?_; conv => whnf) | refine ACode.s_block ?_ | refine ACode.s_scope ?_ | (refine ACode.s_cond ?_; conv => whnf) | (refine ACode.s_exit ?_; conv => whnf) | (refine ACode.s_ret ?_; conv => whnf) | (refine ACode.s_skip ?_; conv => whnf) | (refine ACode.s_label ?_; conv => whnf))
                  refine ⟨k + 1, ?_⟩
                  conv => whnf
                  repeat (refine And.intro ?_ ?_; (focus (first | rfl | (simp; done) | (first | exact hw2; done))); conv => whnf)
                  exact ⟨⟨by omega, by rw [htk2, hok2, hc, h4, h5]; rfl⟩, by omega⟩
              · conv => whnf
                repeat (first | refine ACode.seq ?_ | (refine ACode.s_reg tys_ok ?_; conv => whnf) | refine ACode.s_block ?_ | refine ACode.s_scope ?_ | (refine ACode.s_cond ?_; conv => whnf) | (refine ACode.s_exit ?_; conv => whnf) | (refine ACode.s_ret ?_; conv => whnf) | (refine ACode.s_skip ?_; conv => whnf) | (refine ACode.s_label ?_; conv => whnf))
                exact congrArg AV.bool (hokx (by simp at h4; simp [h4])).symm
            · have h3 : k = L.length := by simp at h3; omega
              conv => whnf
              repeat (first | refine ACode.seq ?_ | (refine ACode.s_reg tys_ok ?_; conv => whnf) | refine ACode.s_block ?_ | refine ACode.s_scope ?_ | (refine ACode.s_cond ?_; conv => whnf) | (refine ACode.s_exit ?_; conv => whnf) | (refine ACode.s_ret ?_; conv => whnf) | (refine ACode.s_skip ?_; conv => whnf) | (refine ACode.s_label ?_; conv => whnf))
              refine ⟨i + 1, ?_⟩
              conv => whnf
              repeat (refine And.intro ?_ ?_; (focus (first | rfl | (simp; done) | (first | exact hw1; done))); conv => whnf)
              rw [h3, List.take_length] at hc
              rw [h3, List.take_length]
              refine ⟨by rw [hBL], ⟨by omega, ?_, by rw [hBL]; exact hc⟩, by omega⟩
              rw [htk, List.all_append, ha]
              simp [hlo]
      · have h : i = f.lines.length := by simp at h; omega
        rw [h, List.take_length] at ha hb
        conv => whnf
        repeat (first | refine ACode.seq ?_ | (refine ACode.s_reg tys_ok ?_; conv => whnf) | refine ACode.s_block ?_ | refine ACode.s_scope ?_ | (refine ACode.s_cond ?_; conv => whnf) | (refine ACode.s_exit ?_; conv => whnf) | (refine ACode.s_ret ?_; conv => whnf) | (refine ACode.s_skip ?_; conv => whnf) | (refine ACode.s_label ?_; conv => whnf))
        exact congrArg AV.bool (by rw [hv, ha, hb]; rfl)
end Go.Proofs.YtbodeejogdckgaaGreatDoor
