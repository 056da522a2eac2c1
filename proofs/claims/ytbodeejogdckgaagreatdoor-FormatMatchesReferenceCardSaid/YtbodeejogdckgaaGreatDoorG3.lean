/-
 The reference: Parts, Has, Valid, Few, Same; Strings.
-/
import Derived.Test.YtbodeejogdckgaaGreatDoorG2
set_option linter.unusedVariables false
set_option linter.unusedSimpArgs false
namespace Go.Proofs.YtbodeejogdckgaaGreatDoor
open Go.Av Go.Shelf Pl
theorem pts_closed (l : List Pt) : ∀ x ∈ l.map Pt.v, closed x = true := by
 intro x hx
 obtain ⟨y, _, rfl⟩ := List.mem_map.1 hx
 rfl
theorem flat_len : ∀ (ls : List (List Pt)), (∀ l ∈ ls, l.length ≤ 1000) → ∀ i, (ls.take i).flatten.length ≤ 1000 * i
 | [], _, i => by simp
 | l :: ls, h, 0 => by simp
 | l :: ls, h, i + 1 => by
  have := flat_len ls (fun x hx => h x (by simp [hx])) i
  have h1 := h l (by simp)
  rw [List.take_succ_cons, List.flatten_cons, List.length_append]
  omega
theorem flat_len' (ls : List (List Pt)) (h : ∀ l ∈ ls, l.length ≤ 1000) : ls.flatten.length ≤ 1000 * ls.length := by
 have := flat_len ls h ls.length
 rwa [List.take_length] at this
set_option maxRecDepth 100000 in
theorem rparts_spec (f : Fm) (hl : f.lines.length ≤ 1000) (hl2 : ∀ l ∈ f.lines, l.length ≤ 1000) : Ctr Tryz.prog 29 [f.v] (fun r => r = ptsA f.lines.flatten) := by
 refine Ctr.of_body Tryz.func29 rfl tys_ok (by kernel_rfl) ?_
 conv => whnf
 repeat (first | refine ACode.seq ?_ | (refine ACode.s_reg tys_ok ?_; conv => whnf) | refine ACode.s_block ?_ | refine ACode.s_scope ?_ | (refine ACode.s_cond ?_; conv => whnf) | (refine ACode.s_exit ?_; conv => whnf) | (refine ACode.s_ret ?_; conv => whnf) | (refine ACode.s_skip ?_; conv => whnf) | (refine ACode.s_label ?_; conv => whnf))
 have hml : (f.lines.map ptsA).length = f.lines.length := by simp
 refine ACode.loopD (fun i : Nat => mk 21 [(1, .ptr 0 0), (3, .own 1 2 0 (f.lines.take i).flatten.length), (4, .int .i64 i)]) (fun i => [.cells [.str f.name, .sl 1 (f.lines.map ptsA)], .arr 49 2 ((f.lines.take i).flatten.map Pt.v)]) (fun i => i ≤ f.lines.length) (fun i => f.lines.length - i) (fun _ _ => ⟨rfl, rfl, pts_closed _, trivial⟩) ⟨0, ?_⟩ (fun _ => rfl) fun i hi => ?_
 ·conv => whnf
  repeat (refine And.intro ?_ ?_; (focus (first | rfl | (simp; done))); conv => whnf)
  exact Nat.zero_le _
 ·repeat (first | refine ACode.seq ?_ | (refine ACode.s_reg tys_ok ?_; conv => whnf) | refine ACode.s_block ?_ | refine ACode.s_scope ?_ | (refine ACode.s_cond ?_; conv => whnf) | (refine ACode.s_exit ?_; conv => whnf) | (refine ACode.s_ret ?_; conv => whnf) | (refine ACode.s_skip ?_; conv => whnf) | (refine ACode.s_label ?_; conv => whnf))
  refine ⟨fun h => ?_, fun h => ?_⟩
  ·have h : i < f.lines.length := by have := of_decide_eq_true h; omega
   have hw1 : Wr .i64 ((i : Int) + 1) = ((i + 1 : Nat) : Int) := by rw [Wr64 _ (by omega) (by omega)]; rfl
   have hfl := flat_len f.lines hl2 (i + 1)
   have hfe : (f.lines.take (i + 1)).flatten = (f.lines.take i).flatten ++ f.lines[i] := by rw [List.take_succ_eq_append_getElem h, List.flatten_append, List.flatten_cons, List.flatten_nil, List.append_nil]
   rw [hfe] at hfl
   rw [List.length_append] at hfl
   conv => whnf
   repeat (first | refine ACode.seq ?_ | (refine ACode.s_reg tys_ok ?_; conv => whnf) | refine ACode.s_block ?_ | refine ACode.s_scope ?_ | (refine ACode.s_cond ?_; conv => whnf) | (refine ACode.s_exit ?_; conv => whnf) | (refine ACode.s_ret ?_; conv => whnf) | (refine ACode.s_skip ?_; conv => whnf) | (refine ACode.s_label ?_; conv => whnf))
   refine ⟨by omega, _, lines_get f i h, ?_⟩
   conv => whnf
   repeat (first | refine ACode.seq ?_ | (refine ACode.s_reg tys_ok ?_; conv => whnf) | refine ACode.s_block ?_ | refine ACode.s_scope ?_ | (refine ACode.s_cond ?_; conv => whnf) | (refine ACode.s_exit ?_; conv => whnf) | (refine ACode.s_ret ?_; conv => whnf) | (refine ACode.s_skip ?_; conv => whnf) | (refine ACode.s_label ?_; conv => whnf))
   refine ⟨⟨by rw [List.length_map], by rw [List.length_append, List.length_map, List.length_map]; omega⟩, ?_⟩
   rw [← List.map_append, ← hfe]
   conv => whnf
   repeat (first | refine ACode.seq ?_ | (refine ACode.s_reg tys_ok ?_; conv => whnf) | refine ACode.s_block ?_ | refine ACode.s_scope ?_ | (refine ACode.s_cond ?_; conv => whnf) | (refine ACode.s_exit ?_; conv => whnf) | (refine ACode.s_ret ?_; conv => whnf) | (refine ACode.s_skip ?_; conv => whnf) | (refine ACode.s_label ?_; conv => whnf))
   refine ⟨i + 1, ?_⟩
   conv => whnf
   repeat (refine And.intro ?_ ?_; (focus (first | rfl | (simp; done) | (first | exact hw1 | exact congrArg (AV.own 1 2 0) (List.length_map ..); done))); conv => whnf)
   exact ⟨h, by omega⟩
  ·have h : i = f.lines.length := by have := of_decide_eq_false h; omega
   rw [h, List.take_length]
   conv => whnf
   repeat (first | refine ACode.seq ?_ | (refine ACode.s_reg tys_ok ?_; conv => whnf) | refine ACode.s_block ?_ | refine ACode.s_scope ?_ | (refine ACode.s_cond ?_; conv => whnf) | (refine ACode.s_exit ?_; conv => whnf) | (refine ACode.s_ret ?_; conv => whnf) | (refine ACode.s_skip ?_; conv => whnf) | (refine ACode.s_label ?_; conv => whnf))
   refine ⟨⟨by rw [List.length_map], pts_closed _⟩, ?_⟩
   rfl
def hasN (l : List Pt) (k : Int) : Nat := (l.filter fun p => decide (p.k = k)).length
theorem hasN_take (L : List Pt) (k : Int) (i : Nat) (h : i < L.length) : hasN (L.take (i + 1)) k = hasN (L.take i) k + (if L[i].k = k then 1 else 0) := by
 unfold hasN
 rw [List.take_succ_eq_append_getElem h, List.filter_append, List.length_append]
 by_cases hk : L[i].k = k
 ·simp [hk]
 ·simp [hk]
set_option maxRecDepth 100000 in
theorem rhas_spec (f : Fm) (k : Int) (hl : f.lines.length ≤ 1000) (hl2 : ∀ l ∈ f.lines, l.length ≤ 1000) : Ctr Tryz.prog 46 [f.v, .int .i64 k] (fun r => r = .int .i64 (hasN f.lines.flatten k)) := by
 refine Ctr.of_body Tryz.func46 rfl tys_ok (by kernel_rfl) ?_
 conv => whnf
 repeat (first | refine ACode.seq ?_ | (refine ACode.s_reg tys_ok ?_; conv => whnf) | refine ACode.s_block ?_ | refine ACode.s_scope ?_ | (refine ACode.s_cond ?_; conv => whnf) | (refine ACode.s_exit ?_; conv => whnf) | (refine ACode.s_ret ?_; conv => whnf) | (refine ACode.s_skip ?_; conv => whnf) | (refine ACode.s_label ?_; conv => whnf))
 refine ACall.of_spec (rparts_spec f hl hl2) rfl fun r hr => ?_
 subst hr
 conv => whnf
 repeat (first | refine ACode.seq ?_ | (refine ACode.s_reg tys_ok ?_; conv => whnf) | refine ACode.s_block ?_ | refine ACode.s_scope ?_ | (refine ACode.s_cond ?_; conv => whnf) | (refine ACode.s_exit ?_; conv => whnf) | (refine ACode.s_ret ?_; conv => whnf) | (refine ACode.s_skip ?_; conv => whnf) | (refine ACode.s_label ?_; conv => whnf))
 have hfl := flat_len' f.lines hl2
 have hfl2 : f.lines.flatten.length ≤ 1000000 := Nat.le_trans hfl (Nat.mul_le_mul_left 1000 hl)
 have hcl : ∀ x ∈ f.lines.map ptsA, closed x = true := fun x hx => by
  obtain ⟨y, _, rfl⟩ := List.mem_map.1 hx
  rfl
 generalize f.lines.map ptsA = M at *
 generalize f.lines.flatten = L at *
 have hmL : (L.map Pt.v).length = L.length := by simp
 refine ACode.loopD (fun i : Nat => mk 26 [(1, .int .i64 k), (5, .int .i64 (hasN (L.take i) k)), (6, ptsA L), (7, .int .i64 i)]) (fun i => [.cells [.str f.name, .sl 1 M]]) (fun i => i ≤ L.length) (fun i => L.length - i) (fun _ _ => ⟨rfl, rfl, trivial⟩) ⟨0, ?_⟩ (fun _ => rfl) fun i hi => ?_
 ·conv => whnf
  repeat (refine And.intro ?_ ?_; (focus (first | rfl | (simp; done))); conv => whnf)
  exact Nat.zero_le _
 ·repeat (first | refine ACode.seq ?_ | (refine ACode.s_reg tys_ok ?_; conv => whnf) | refine ACode.s_block ?_ | refine ACode.s_scope ?_ | (refine ACode.s_cond ?_; conv => whnf) | (refine ACode.s_exit ?_; conv => whnf) | (refine ACode.s_ret ?_; conv => whnf) | (refine ACode.s_skip ?_; conv => whnf) | (refine ACode.s_label ?_; conv => whnf))
  refine ⟨fun h => ?_, fun h => ?_⟩
  ·have h : i < L.length := by have := of_decide_eq_true h; omega
   have hw1 : Wr .i64 ((i : Int) + 1) = ((i + 1 : Nat) : Int) := by rw [Wr64 _ (by omega) (by omega)]; rfl
   have hn := hasN_take L k i h
   have hnl : hasN (L.take i) k ≤ i := by
    unfold hasN
    refine Nat.le_trans (List.length_filter_le _ _) ?_
    rw [List.length_take]; omega
   have hw2 : Wr .i64 (((hasN (L.take i) k : Nat) : Int) + 1) = ((hasN (L.take i) k + 1 : Nat) : Int) := by rw [Wr64 _ (by omega) (by omega)]; rfl
   conv => whnf
   repeat (first | refine ACode.seq ?_ | (refine ACode.s_reg tys_ok ?_; conv => whnf) | refine ACode.s_block ?_ | refine ACode.s_scope ?_ | (refine ACode.s_cond ?_; conv => whnf) | (refine ACode.s_exit ?_; conv => whnf) | (refine ACode.s_ret ?_; conv => whnf) | (refine ACode.s_skip ?_; conv => whnf) | (refine ACode.s_label ?_; conv => whnf))
   refine ⟨by omega, _, pts_get L i h, ?_⟩
   conv => whnf
   repeat (first | refine ACode.seq ?_ | (refine ACode.s_reg tys_ok ?_; conv => whnf) | refine ACode.s_block ?_ | refine ACode.s_scope ?_ | (refine ACode.s_cond ?_; conv => whnf) | (refine ACode.s_exit ?_; conv => whnf) | (refine ACode.s_ret ?_; conv => whnf) | (refine ACode.s_skip ?_; conv => whnf) | (refine ACode.s_label ?_; conv => whnf))
   repeat' (first | (refine And.intro (fun _ => ?_) (fun _ => ?_) <;> conv => whnf) | refine ACode.seq ?_ | (refine ACode.s_reg tys_ok ?_; conv => whnf) | refine ACode.s_block ?_ | refine ACode.s_scope ?_ | (refine ACode.s_cond ?_; conv => whnf) | (refine ACode.s_exit ?_; conv => whnf) | (refine ACode.s_ret ?_; conv => whnf) | (refine ACode.s_skip ?_; conv => whnf) | (refine ACode.s_label ?_; conv => whnf))
   ·rename_i hk
    have hk : L[i].k = k := by simpa using hk
    rw [if_pos hk] at hn
    refine ⟨i + 1, ?_⟩
    conv => whnf
    repeat (refine And.intro ?_ ?_; (focus (first | rfl | (simp; done) | (first | exact hw1 | (rw [hw2, hn]); done))); conv => whnf)
    exact ⟨h, by omega⟩
   ·rename_i hk
    have hk : ¬ L[i].k = k := by simpa using hk
    rw [if_neg hk] at hn
    refine ⟨i + 1, ?_⟩
    conv => whnf
    repeat (refine And.intro ?_ ?_; (focus (first | rfl | (simp; done) | (first | exact hw1 | (rw [hn]; rfl); done))); conv => whnf)
    exact ⟨h, by omega⟩
  ·have h : i = L.length := by have := of_decide_eq_false h; omega
   rw [h, List.take_length]
   conv => whnf
   repeat (first | refine ACode.seq ?_ | (refine ACode.s_reg tys_ok ?_; conv => whnf) | refine ACode.s_block ?_ | refine ACode.s_scope ?_ | (refine ACode.s_cond ?_; conv => whnf) | (refine ACode.s_exit ?_; conv => whnf) | (refine ACode.s_ret ?_; conv => whnf) | (refine ACode.s_skip ?_; conv => whnf) | (refine ACode.s_label ?_; conv => whnf))
theorem count_has (L : List Pt) (k : Int) (hk : k ≠ 1) : (kindsR L).count k = hasN L k := by
 unfold kindsR hasN
 rw [List.count_eq_countP, List.countP_map, List.countP_filter, List.countP_eq_length_filter]
 congr 1
 refine List.filter_congr fun p _ => ?_
 simp only [Function.comp]
 by_cases h : p.k = k
 ·simp [h, hk]
 ·simp [h]
def hasOK (L : List Pt) (p : Pt) : Bool := partB p && (decide (p.k = 1) || decide (hasN L p.k ≤ 1))
theorem nodup_has (L : List Pt) : decide (kindsR L).Nodup = L.all fun p => decide (p.k = 1) || decide (hasN L p.k ≤ 1) := by
 rw [Bool.eq_iff_iff, decide_eq_true_eq, List.all_eq_true, List.nodup_iff_count]
 constructor
 ·intro h p hp
  by_cases hk : p.k = 1
  ·simp [hk]
  ·have := h p.k
   rw [count_has L p.k hk] at this
   simp [this]
 ·intro h k
  by_cases hm : k ∈ kindsR L
  ·unfold kindsR at hm
   obtain ⟨p, hp, rfl⟩ := List.mem_map.1 hm
   obtain ⟨h1, h2⟩ := List.mem_filter.1 hp
   have hk : p.k ≠ 1 := by simpa using h2
   have := h p h1
   rw [count_has L p.k hk]
   simpa [hk] using this
  ·rw [List.count_eq_zero.2 hm]
   exact Nat.zero_le _
theorem validF_has (f : Fm) : validF f = (nameB f.name && decide (1 ≤ f.lines.length) && decide (f.lines.length ≤ 8) && f.lines.all lenOK && f.lines.flatten.all (hasOK f.lines.flatten)) := by
 unfold validF
 rw [nodup_has, Bool.and_assoc _ (f.lines.flatten.all partB)]
 congr 1
 generalize f.lines.flatten = L
 generalize hg : (fun p : Pt => decide (p.k = 1) || decide (hasN L p.k ≤ 1)) = g
 have : hasOK L = fun p => partB p && g p := by funext p; unfold hasOK; rw [← hg]
 rw [this]
 clear this hg
 induction L with
 | nil => rfl
 | cons p L ih =>
  rw [List.all_cons, List.all_cons, List.all_cons, ← ih]
  cases partB p <;> cases g p <;> simp
set_option maxRecDepth 100000 in
theorem rvalid_spec (f : Fm) (hf : SmallF f) : Ctr Tryz.prog 21 [f.v] (fun r => r = .bool (validF f)) := by
 refine Ctr.of_body Tryz.func21 rfl tys_ok (by kernel_rfl) ?_
 conv => whnf
 repeat (first | refine ACode.seq ?_ | (refine ACode.s_reg tys_ok ?_; conv => whnf) | refine ACode.s_block ?_ | refine ACode.s_scope ?_ | (refine ACode.s_cond ?_; conv => whnf) | (refine ACode.s_exit ?_; conv => whnf) | (refine ACode.s_ret ?_; conv => whnf) | (refine ACode.s_skip ?_; conv => whnf) | (refine ACode.s_label ?_; conv => whnf))
 repeat' (first | (refine And.intro (fun _ => ?_) (fun _ => ?_) <;> conv => whnf) | (refine ACall.of_spec (rnamed_spec f.name (by have := hf.n; omega)) rfl fun r hr => ?_; subst hr; conv => whnf) | refine ACode.seq ?_ | (refine ACode.s_reg tys_ok ?_; conv => whnf) | refine ACode.s_block ?_ | refine ACode.s_scope ?_ | (refine ACode.s_cond ?_; conv => whnf) | (refine ACode.s_exit ?_; conv => whnf) | (refine ACode.s_ret ?_; conv => whnf) | (refine ACode.s_skip ?_; conv => whnf) | (refine ACode.s_label ?_; conv => whnf))
 ·rename_i h0 h1 h2
  refine congrArg AV.bool ?_
  rw [validF_has, decide_eq_false (p := f.lines.length ≤ 8) (by simp at h2; omega)]; simp
 rotate_left
 ·rename_i h0 h1
  refine congrArg AV.bool ?_
  rw [validF_has, decide_eq_false (p := 1 ≤ f.lines.length) (by simp at h1; omega)]; simp
 ·rename_i h0
  refine congrArg AV.bool ?_
  rw [validF_has, show nameB f.name = false by simpa using h0]; simp
 ·rename_i h0 h1 h2
  have hv : validF f = (f.lines.all lenOK && f.lines.flatten.all (hasOK f.lines.flatten)) := by
   rw [validF_has, decide_eq_true (p := f.lines.length ≤ 8) (by simp at h2; omega), decide_eq_true (p := 1 ≤ f.lines.length) (by simp at h1; omega), show nameB f.name = true by simpa using h0]; simp
  have hL8 : f.lines.length ≤ 8 := by simp at h2; omega
  have hll : (f.lines.map ptsA).length = f.lines.length := by simp
  conv => whnf
  refine ACode.loopD (fun i : Nat => mk 77 [(1, .ptr 0 0), (2, .lit false), (3, .int .i64 i)]) (fun i => [.cells [.str f.name, .sl 1 (f.lines.map ptsA)]]) (fun i => i ≤ f.lines.length ∧ (f.lines.take i).all lenOK = true) (fun i => f.lines.length - i) (fun _ _ => ⟨rfl, rfl, trivial⟩) ⟨0, ?_⟩ (fun _ => rfl) fun i hi => ?_
  ·conv => whnf
   repeat (refine And.intro ?_ ?_; (focus (first | rfl | (simp; done))); conv => whnf)
   rfl
  ·obtain ⟨hi, ha⟩ := hi
   repeat (first | refine ACode.seq ?_ | (refine ACode.s_reg tys_ok ?_; conv => whnf) | refine ACode.s_block ?_ | refine ACode.s_scope ?_ | (refine ACode.s_cond ?_; conv => whnf) | (refine ACode.s_exit ?_; conv => whnf) | (refine ACode.s_ret ?_; conv => whnf) | (refine ACode.s_skip ?_; conv => whnf) | (refine ACode.s_label ?_; conv => whnf))
   refine ⟨fun h => ?_, fun h => ?_⟩
   ·have h : i < f.lines.length := by have := of_decide_eq_true h; omega
    have hw1 : Wr .i64 ((i : Int) + 1) = ((i + 1 : Nat) : Int) := by rw [Wr64 _ (by omega) (by omega)]; rfl
    have htk : f.lines.take (i + 1) = f.lines.take i ++ [f.lines[i]] := List.take_succ_eq_append_getElem h
    have hlen2 : ¬ lenOK f.lines[i] = true → validF f = false := fun hx => by
     rw [hv, show f.lines.all lenOK = false from List.all_eq_false.2 ⟨f.lines[i], List.getElem_mem h, by simpa using hx⟩]; rfl
    repeat (first | refine ACode.seq ?_ | (refine ACode.s_reg tys_ok ?_; conv => whnf) | refine ACode.s_block ?_ | refine ACode.s_scope ?_ | (refine ACode.s_cond ?_; conv => whnf) | (refine ACode.s_exit ?_; conv => whnf) | (refine ACode.s_ret ?_; conv => whnf) | (refine ACode.s_skip ?_; conv => whnf) | (refine ACode.s_label ?_; conv => whnf))
    refine ⟨by omega, _, lines_get f i h, ?_⟩
    repeat (first | refine ACode.seq ?_ | (refine ACode.s_reg tys_ok ?_; conv => whnf) | refine ACode.s_block ?_ | refine ACode.s_scope ?_ | (refine ACode.s_cond ?_; conv => whnf) | (refine ACode.s_exit ?_; conv => whnf) | (refine ACode.s_ret ?_; conv => whnf) | (refine ACode.s_skip ?_; conv => whnf) | (refine ACode.s_label ?_; conv => whnf))
    refine ⟨fun g1 => ?_, fun g1 => ?_⟩
    ·conv => whnf
     refine ⟨by omega, _, lines_get f i h, ?_⟩
     repeat (first | refine ACode.seq ?_ | (refine ACode.s_reg tys_ok ?_; conv => whnf) | refine ACode.s_block ?_ | refine ACode.s_scope ?_ | (refine ACode.s_cond ?_; conv => whnf) | (refine ACode.s_exit ?_; conv => whnf) | (refine ACode.s_ret ?_; conv => whnf) | (refine ACode.s_skip ?_; conv => whnf) | (refine ACode.s_label ?_; conv => whnf))
     repeat' (first | (refine And.intro (fun _ => ?_) (fun _ => ?_) <;> conv => whnf) | refine ACode.seq ?_ | (refine ACode.s_reg tys_ok ?_; conv => whnf) | refine ACode.s_block ?_ | refine ACode.s_scope ?_ | (refine ACode.s_cond ?_; conv => whnf) | (refine ACode.s_exit ?_; conv => whnf) | (refine ACode.s_ret ?_; conv => whnf) | (refine ACode.s_skip ?_; conv => whnf) | (refine ACode.s_label ?_; conv => whnf))
     ·rename_i g2
      exact congrArg AV.bool (hlen2 (by simp at g2; simp [lenOK]; omega)).symm
     ·rename_i g2
      refine ⟨i + 1, ?_⟩
      conv => whnf
      repeat (refine And.intro ?_ ?_; (focus (first | rfl | (simp; done) | (first | exact hw1; done))); conv => whnf)
      refine ⟨⟨h, ?_⟩, by omega⟩
      rw [htk, List.all_append, ha]
      simp at g1 g2
      simp [lenOK]
      omega
    ·repeat (first | refine ACode.seq ?_ | (refine ACode.s_reg tys_ok ?_; conv => whnf) | refine ACode.s_block ?_ | refine ACode.s_scope ?_ | (refine ACode.s_cond ?_; conv => whnf) | (refine ACode.s_exit ?_; conv => whnf) | (refine ACode.s_ret ?_; conv => whnf) | (refine ACode.s_skip ?_; conv => whnf) | (refine ACode.s_label ?_; conv => whnf))
     repeat' (first | (refine And.intro (fun _ => ?_) (fun _ => ?_) <;> conv => whnf) | refine ACode.seq ?_ | (refine ACode.s_reg tys_ok ?_; conv => whnf) | refine ACode.s_block ?_ | refine ACode.s_scope ?_ | (refine ACode.s_cond ?_; conv => whnf) | (refine ACode.s_exit ?_; conv => whnf) | (refine ACode.s_ret ?_; conv => whnf) | (refine ACode.s_skip ?_; conv => whnf) | (refine ACode.s_label ?_; conv => whnf))
     exact congrArg AV.bool (hlen2 (by simp at g1; simp [lenOK]; omega)).symm
   ·have h : i = f.lines.length := by have := of_decide_eq_false h; omega
    subst h
    rw [List.take_length] at ha
    rw [ha, Bool.true_and] at hv
    repeat (first | refine ACode.seq ?_ | (refine ACode.s_reg tys_ok ?_; conv => whnf) | refine ACode.s_block ?_ | refine ACode.s_scope ?_ | (refine ACode.s_cond ?_; conv => whnf) | (refine ACode.s_exit ?_; conv => whnf) | (refine ACode.s_ret ?_; conv => whnf) | (refine ACode.s_skip ?_; conv => whnf) | (refine ACode.s_label ?_; conv => whnf))
    refine ACall.of_spec (rparts_spec f hf.l hf.l2) rfl fun r hr => ?_
    subst hr
    conv => whnf
    repeat (first | refine ACode.seq ?_ | (refine ACode.s_reg tys_ok ?_; conv => whnf) | refine ACode.s_block ?_ | refine ACode.s_scope ?_ | (refine ACode.s_cond ?_; conv => whnf) | (refine ACode.s_exit ?_; conv => whnf) | (refine ACode.s_ret ?_; conv => whnf) | (refine ACode.s_skip ?_; conv => whnf) | (refine ACode.s_label ?_; conv => whnf))
    have hfl := flat_len' f.lines hf.l2
    have hfl2 : f.lines.flatten.length ≤ 8000 := by omega
    have hpt : ∀ p ∈ f.lines.flatten, p.t.length ≤ 1000 := fun p hp => by
     obtain ⟨l, hl, hp⟩ := List.mem_flatten.1 hp
     exact hf.t l hl p hp
    have hrh := fun k => rhas_spec f k hf.l hf.l2
    generalize hL : f.lines.flatten = L at *
    have hmL : (L.map Pt.v).length = L.length := by simp
    refine ACode.loopD (fun i : Nat => mk 77 [(1, .ptr 0 0), (4, ptsA L), (5, .int .i64 i)]) (fun i => [.cells [.str f.name, .sl 1 (f.lines.map ptsA)]]) (fun i => i ≤ L.length ∧ (L.take i).all (hasOK L) = true) (fun i => L.length - i) (fun _ _ => ⟨rfl, rfl, trivial⟩) ⟨0, ?_⟩ (fun _ => rfl) fun i hi => ?_
    ·conv => whnf
     repeat (refine And.intro ?_ ?_; (focus (first | rfl | (simp; done))); conv => whnf)
     rfl
    ·obtain ⟨hi, hb⟩ := hi
     repeat (first | refine ACode.seq ?_ | (refine ACode.s_reg tys_ok ?_; conv => whnf) | refine ACode.s_block ?_ | refine ACode.s_scope ?_ | (refine ACode.s_cond ?_; conv => whnf) | (refine ACode.s_exit ?_; conv => whnf) | (refine ACode.s_ret ?_; conv => whnf) | (refine ACode.s_skip ?_; conv => whnf) | (refine ACode.s_label ?_; conv => whnf))
     refine ⟨fun h => ?_, fun h => ?_⟩
     ·have h : i < L.length := by have := of_decide_eq_true h; omega
      have hw1 : Wr .i64 ((i : Int) + 1) = ((i + 1 : Nat) : Int) := by rw [Wr64 _ (by omega) (by omega)]; rfl
      have htk : L.take (i + 1) = L.take i ++ [L[i]] := List.take_succ_eq_append_getElem h
      have hbad : ¬ hasOK L L[i] = true → validF f = false := fun hx => by
       rw [hv]
       exact List.all_eq_false.2 ⟨L[i], List.getElem_mem h, by simpa using hx⟩
      have hgood : hasOK L L[i] = true → (L.take (i + 1)).all (hasOK L) = true := fun hx => by
       rw [htk, List.all_append, hb]
       simpa using hx
      conv => whnf
      repeat (first | refine ACode.seq ?_ | (refine ACode.s_reg tys_ok ?_; conv => whnf) | refine ACode.s_block ?_ | refine ACode.s_scope ?_ | (refine ACode.s_cond ?_; conv => whnf) | (refine ACode.s_exit ?_; conv => whnf) | (refine ACode.s_ret ?_; conv => whnf) | (refine ACode.s_skip ?_; conv => whnf) | (refine ACode.s_label ?_; conv => whnf))
      refine ACode.draw [] tys_ok (by kernel_rfl) (by kernel_rfl) ?_
      conv => whnf
      refine ⟨by omega, _, pts_get L i h, ?_⟩
      conv => whnf
      refine ⟨_, ⟨rpart_spec L[i] (hpt _ (List.getElem_mem h)), rfl⟩, ?_⟩
      conv => whnf
      refine ⟨fun g1 => ?_, fun g1 => ?_⟩
      ·conv => whnf
       repeat (first | refine ACode.seq ?_ | (refine ACode.s_reg tys_ok ?_; conv => whnf) | refine ACode.s_block ?_ | refine ACode.s_scope ?_ | (refine ACode.s_cond ?_; conv => whnf) | (refine ACode.s_exit ?_; conv => whnf) | (refine ACode.s_ret ?_; conv => whnf) | (refine ACode.s_skip ?_; conv => whnf) | (refine ACode.s_label ?_; conv => whnf))
       refine ⟨by omega, _, pts_get L i h, ?_⟩
       conv => whnf
       refine ⟨fun g2 => ?_, fun g2 => ?_⟩
       ·conv => whnf
        repeat (first | refine ACode.seq ?_ | (refine ACode.s_reg tys_ok ?_; conv => whnf) | refine ACode.s_block ?_ | refine ACode.s_scope ?_ | (refine ACode.s_cond ?_; conv => whnf) | (refine ACode.s_exit ?_; conv => whnf) | (refine ACode.s_ret ?_; conv => whnf) | (refine ACode.s_skip ?_; conv => whnf) | (refine ACode.s_label ?_; conv => whnf))
        refine ⟨by omega, _, pts_get L i h, ?_⟩
        conv => whnf
        refine ⟨_, ⟨hrh L[i].k, rfl⟩, ?_⟩
        conv => whnf
        refine ⟨fun g3 => ?_, fun g3 => ?_⟩
        ·conv => whnf
         repeat (first | refine ACode.seq ?_ | (refine ACode.s_reg tys_ok ?_; conv => whnf) | refine ACode.s_block ?_ | refine ACode.s_scope ?_ | (refine ACode.s_cond ?_; conv => whnf) | (refine ACode.s_exit ?_; conv => whnf) | (refine ACode.s_ret ?_; conv => whnf) | (refine ACode.s_skip ?_; conv => whnf) | (refine ACode.s_label ?_; conv => whnf))
         repeat' (first | (refine And.intro (fun _ => ?_) (fun _ => ?_) <;> conv => whnf) | refine ACode.seq ?_ | (refine ACode.s_reg tys_ok ?_; conv => whnf) | refine ACode.s_block ?_ | refine ACode.s_scope ?_ | (refine ACode.s_cond ?_; conv => whnf) | (refine ACode.s_exit ?_; conv => whnf) | (refine ACode.s_ret ?_; conv => whnf) | (refine ACode.s_skip ?_; conv => whnf) | (refine ACode.s_label ?_; conv => whnf))
         exact congrArg AV.bool (hbad (by have := of_decide_eq_true g3; unfold hasOK; simp at g2; simp [g2]; omega)).symm
        ·conv => whnf
         repeat (first | refine ACode.seq ?_ | (refine ACode.s_reg tys_ok ?_; conv => whnf) | refine ACode.s_block ?_ | refine ACode.s_scope ?_ | (refine ACode.s_cond ?_; conv => whnf) | (refine ACode.s_exit ?_; conv => whnf) | (refine ACode.s_ret ?_; conv => whnf) | (refine ACode.s_skip ?_; conv => whnf) | (refine ACode.s_label ?_; conv => whnf))
         repeat' (first | (refine And.intro (fun _ => ?_) (fun _ => ?_) <;> conv => whnf) | refine ACode.seq ?_ | (refine ACode.s_reg tys_ok ?_; conv => whnf) | refine ACode.s_block ?_ | refine ACode.s_scope ?_ | (refine ACode.s_cond ?_; conv => whnf) | (refine ACode.s_exit ?_; conv => whnf) | (refine ACode.s_ret ?_; conv => whnf) | (refine ACode.s_skip ?_; conv => whnf) | (refine ACode.s_label ?_; conv => whnf))
         refine ⟨i + 1, ?_⟩
         conv => whnf
         repeat (refine And.intro ?_ ?_; (focus (first | rfl | (simp; done) | (first | exact hw1; done))); conv => whnf)
         exact ⟨⟨h, hgood (by have := of_decide_eq_false g3; unfold hasOK; rw [g1]; simp; omega)⟩, by omega⟩
       ·conv => whnf
        repeat (first | refine ACode.seq ?_ | (refine ACode.s_reg tys_ok ?_; conv => whnf) | refine ACode.s_block ?_ | refine ACode.s_scope ?_ | (refine ACode.s_cond ?_; conv => whnf) | (refine ACode.s_exit ?_; conv => whnf) | (refine ACode.s_ret ?_; conv => whnf) | (refine ACode.s_skip ?_; conv => whnf) | (refine ACode.s_label ?_; conv => whnf))
        repeat' (first | (refine And.intro (fun _ => ?_) (fun _ => ?_) <;> conv => whnf) | refine ACode.seq ?_ | (refine ACode.s_reg tys_ok ?_; conv => whnf) | refine ACode.s_block ?_ | refine ACode.s_scope ?_ | (refine ACode.s_cond ?_; conv => whnf) | (refine ACode.s_exit ?_; conv => whnf) | (refine ACode.s_ret ?_; conv => whnf) | (refine ACode.s_skip ?_; conv => whnf) | (refine ACode.s_label ?_; conv => whnf))
        refine ⟨i + 1, ?_⟩
        conv => whnf
        repeat (refine And.intro ?_ ?_; (focus (first | rfl | (simp; done) | (first | exact hw1; done))); conv => whnf)
        exact ⟨⟨h, hgood (by unfold hasOK; rw [g1]; simp at g2; simp [g2])⟩, by omega⟩
      ·conv => whnf
       repeat (first | refine ACode.seq ?_ | (refine ACode.s_reg tys_ok ?_; conv => whnf) | refine ACode.s_block ?_ | refine ACode.s_scope ?_ | (refine ACode.s_cond ?_; conv => whnf) | (refine ACode.s_exit ?_; conv => whnf) | (refine ACode.s_ret ?_; conv => whnf) | (refine ACode.s_skip ?_; conv => whnf) | (refine ACode.s_label ?_; conv => whnf))
       repeat' (first | (refine And.intro (fun _ => ?_) (fun _ => ?_) <;> conv => whnf) | refine ACode.seq ?_ | (refine ACode.s_reg tys_ok ?_; conv => whnf) | refine ACode.s_block ?_ | refine ACode.s_scope ?_ | (refine ACode.s_cond ?_; conv => whnf) | (refine ACode.s_exit ?_; conv => whnf) | (refine ACode.s_ret ?_; conv => whnf) | (refine ACode.s_skip ?_; conv => whnf) | (refine ACode.s_label ?_; conv => whnf))
       exact congrArg AV.bool (hbad (by unfold hasOK; simp [g1])).symm
     ·have h : i = L.length := by have := of_decide_eq_false h; omega
      rw [h, List.take_length] at hb
      conv => whnf
      repeat (first | refine ACode.seq ?_ | (refine ACode.s_reg tys_ok ?_; conv => whnf) | refine ACode.s_block ?_ | refine ACode.s_scope ?_ | (refine ACode.s_cond ?_; conv => whnf) | (refine ACode.s_exit ?_; conv => whnf) | (refine ACode.s_ret ?_; conv => whnf) | (refine ACode.s_skip ?_; conv => whnf) | (refine ACode.s_label ?_; conv => whnf))
      rw [hv, hb]
theorem ad_eq (a b : Ad) : (decide (a.pe = b.pe) && (decide (a.st = b.st) && (decide (a.nu = b.nu) && (decide (a.co = b.co) && (decide (a.to = b.to) && true))))) = decide (a = b) := by
 rw [Bool.eq_iff_iff]
 obtain ⟨a1, a2, a3, a4, a5⟩ := a
 obtain ⟨b1, b2, b3, b4, b5⟩ := b
 simp
set_option maxRecDepth 100000 in
theorem same_spec (a b : List Ad) (ha : a.length ≤ 100000) (hb : b.length ≤ 100000) : Ctr Tryz.prog 19 [.sl 5 (a.map Ad.v), .sl 5 (b.map Ad.v)] (fun r => r = .bool (decide (a = b))) := by
 refine Ctr.of_body Tryz.func19 rfl tys_ok (by kernel_rfl) ?_
 conv => whnf
 repeat (first | refine ACode.seq ?_ | (refine ACode.s_reg tys_ok ?_; conv => whnf) | refine ACode.s_block ?_ | refine ACode.s_scope ?_ | (refine ACode.s_cond ?_; conv => whnf) | (refine ACode.s_exit ?_; conv => whnf) | (refine ACode.s_ret ?_; conv => whnf) | (refine ACode.s_skip ?_; conv => whnf) | (refine ACode.s_label ?_; conv => whnf))
 have hla : (a.map Ad.v).length = a.length := by simp
 have hlb : (b.map Ad.v).length = b.length := by simp
 repeat' (first | (refine And.intro (fun _ => ?_) (fun _ => ?_) <;> conv => whnf) | refine ACode.seq ?_ | (refine ACode.s_reg tys_ok ?_; conv => whnf) | refine ACode.s_block ?_ | refine ACode.s_scope ?_ | (refine ACode.s_cond ?_; conv => whnf) | (refine ACode.s_exit ?_; conv => whnf) | (refine ACode.s_ret ?_; conv => whnf) | (refine ACode.s_skip ?_; conv => whnf) | (refine ACode.s_label ?_; conv => whnf))
 ·rename_i h0
  have : ¬ a.length = b.length := by rw [hla, hlb] at h0; simp at h0; omega
  rw [decide_eq_false fun e => this (by rw [e])]
 ·rename_i h0
  have hlen : a.length = b.length := by rw [hla, hlb] at h0; simp at h0; omega
  refine ACode.loopD (fun i : Nat => mk 26 [(0, .sl 5 (a.map Ad.v)), (1, .sl 5 (b.map Ad.v)), (4, .lit false), (5, .int .i64 i)]) (fun _ => []) (fun i => i ≤ a.length ∧ a.take i = b.take i) (fun i => a.length - i) (fun _ _ => ⟨rfl, trivial⟩) ⟨0, ?_⟩ (fun _ => rfl) fun i hi => ?_
  ·conv => whnf
   repeat (refine And.intro ?_ ?_; (focus (first | rfl | (simp; done))); conv => whnf)
   rfl
  ·obtain ⟨hi, ht⟩ := hi
   repeat (first | refine ACode.seq ?_ | (refine ACode.s_reg tys_ok ?_; conv => whnf) | refine ACode.s_block ?_ | refine ACode.s_scope ?_ | (refine ACode.s_cond ?_; conv => whnf) | (refine ACode.s_exit ?_; conv => whnf) | (refine ACode.s_ret ?_; conv => whnf) | (refine ACode.s_skip ?_; conv => whnf) | (refine ACode.s_label ?_; conv => whnf))
   refine ⟨fun h => ?_, fun h => ?_⟩
   ·have h : i < a.length := by have := of_decide_eq_true h; omega
    have h2 : i < b.length := by omega
    have hw1 : Wr .i64 ((i : Int) + 1) = ((i + 1 : Nat) : Int) := by rw [Wr64 _ (by omega) (by omega)]; rfl
    have ga : (a.map Ad.v)[i]? = some a[i].v := by simp [h]
    have gb : (b.map Ad.v)[i]? = some b[i].v := by simp [h2]
    conv => whnf
    repeat (first | refine ACode.seq ?_ | (refine ACode.s_reg tys_ok ?_; conv => whnf) | refine ACode.s_block ?_ | refine ACode.s_scope ?_ | (refine ACode.s_cond ?_; conv => whnf) | (refine ACode.s_exit ?_; conv => whnf) | (refine ACode.s_ret ?_; conv => whnf) | (refine ACode.s_skip ?_; conv => whnf) | (refine ACode.s_label ?_; conv => whnf))
    refine ACode.draw [] tys_ok (by kernel_rfl) (by kernel_rfl) ?_
    conv => whnf
    refine ⟨by omega, _, ga, ?_⟩
    conv => whnf
    refine ⟨by omega, _, gb, ?_⟩
    conv => whnf
    rw [ad_eq]
    refine ⟨fun g => ?_, fun g => ?_⟩
    ·conv => whnf
     repeat (first | refine ACode.seq ?_ | (refine ACode.s_reg tys_ok ?_; conv => whnf) | refine ACode.s_block ?_ | refine ACode.s_scope ?_ | (refine ACode.s_cond ?_; conv => whnf) | (refine ACode.s_exit ?_; conv => whnf) | (refine ACode.s_ret ?_; conv => whnf) | (refine ACode.s_skip ?_; conv => whnf) | (refine ACode.s_label ?_; conv => whnf))
     repeat' (first | (refine And.intro (fun _ => ?_) (fun _ => ?_) <;> conv => whnf) | refine ACode.seq ?_ | (refine ACode.s_reg tys_ok ?_; conv => whnf) | refine ACode.s_block ?_ | refine ACode.s_scope ?_ | (refine ACode.s_cond ?_; conv => whnf) | (refine ACode.s_exit ?_; conv => whnf) | (refine ACode.s_ret ?_; conv => whnf) | (refine ACode.s_skip ?_; conv => whnf) | (refine ACode.s_label ?_; conv => whnf))
     have g : ¬ a[i] = b[i] := by simpa using g
     rw [decide_eq_false fun e => g (by simp only [e])]
    ·conv => whnf
     repeat (first | refine ACode.seq ?_ | (refine ACode.s_reg tys_ok ?_; conv => whnf) | refine ACode.s_block ?_ | refine ACode.s_scope ?_ | (refine ACode.s_cond ?_; conv => whnf) | (refine ACode.s_exit ?_; conv => whnf) | (refine ACode.s_ret ?_; conv => whnf) | (refine ACode.s_skip ?_; conv => whnf) | (refine ACode.s_label ?_; conv => whnf))
     repeat' (first | (refine And.intro (fun _ => ?_) (fun _ => ?_) <;> conv => whnf) | refine ACode.seq ?_ | (refine ACode.s_reg tys_ok ?_; conv => whnf) | refine ACode.s_block ?_ | refine ACode.s_scope ?_ | (refine ACode.s_cond ?_; conv => whnf) | (refine ACode.s_exit ?_; conv => whnf) | (refine ACode.s_ret ?_; conv => whnf) | (refine ACode.s_skip ?_; conv => whnf) | (refine ACode.s_label ?_; conv => whnf))
     have g : a[i] = b[i] := by simpa using g
     refine ⟨i + 1, ?_⟩
     conv => whnf
     repeat (refine And.intro ?_ ?_; (focus (first | rfl | (simp; done) | (first | exact hw1; done))); conv => whnf)
     refine ⟨⟨h, ?_⟩, by omega⟩
     rw [List.take_succ_eq_append_getElem h, List.take_succ_eq_append_getElem h2, ht, g]
   ·have h : i = a.length := by have := of_decide_eq_false h; omega
    rw [h, List.take_length, hlen, List.take_length] at ht
    conv => whnf
    repeat (first | refine ACode.seq ?_ | (refine ACode.s_reg tys_ok ?_; conv => whnf) | refine ACode.s_block ?_ | refine ACode.s_scope ?_ | (refine ACode.s_cond ?_; conv => whnf) | (refine ACode.s_exit ?_; conv => whnf) | (refine ACode.s_ret ?_; conv => whnf) | (refine ACode.s_skip ?_; conv => whnf) | (refine ACode.s_label ?_; conv => whnf))
    rw [decide_eq_true ht]
set_option maxRecDepth 100000 in
theorem strings_spec (a b : List Bs) (ha : a.length ≤ 100000) (hb : b.length ≤ 100000) : Ctr Tryz.prog 16 [strsA a, strsA b] (fun r => r = .bool (decide (a = b))) := by
 refine Ctr.of_body Tryz.func16 rfl tys_ok (by kernel_rfl) ?_
 conv => whnf
 repeat (first | refine ACode.seq ?_ | (refine ACode.s_reg tys_ok ?_; conv => whnf) | refine ACode.s_block ?_ | refine ACode.s_scope ?_ | (refine ACode.s_cond ?_; conv => whnf) | (refine ACode.s_exit ?_; conv => whnf) | (refine ACode.s_ret ?_; conv => whnf) | (refine ACode.s_skip ?_; conv => whnf) | (refine ACode.s_label ?_; conv => whnf))
 have hla : (strs a).length = a.length := by simp
 have hlb : (strs b).length = b.length := by simp
 repeat' (first | (refine And.intro (fun _ => ?_) (fun _ => ?_) <;> conv => whnf) | refine ACode.seq ?_ | (refine ACode.s_reg tys_ok ?_; conv => whnf) | refine ACode.s_block ?_ | refine ACode.s_scope ?_ | (refine ACode.s_cond ?_; conv => whnf) | (refine ACode.s_exit ?_; conv => whnf) | (refine ACode.s_ret ?_; conv => whnf) | (refine ACode.s_skip ?_; conv => whnf) | (refine ACode.s_label ?_; conv => whnf))
 ·rename_i h0
  have : ¬ a.length = b.length := by rw [hla, hlb] at h0; simp at h0; omega
  rw [decide_eq_false fun e => this (by rw [e])]
 ·rename_i h0
  have hlen : a.length = b.length := by rw [hla, hlb] at h0; simp at h0; omega
  refine ACode.loopD (fun i : Nat => mk 26 [(0, strsA a), (1, strsA b), (4, .lit false), (5, .int .i64 i)]) (fun _ => []) (fun i => i ≤ a.length ∧ a.take i = b.take i) (fun i => a.length - i) (fun _ _ => ⟨rfl, trivial⟩) ⟨0, ?_⟩ (fun _ => rfl) fun i hi => ?_
  ·conv => whnf
   repeat (refine And.intro ?_ ?_; (focus (first | rfl | (simp; done))); conv => whnf)
   rfl
  ·obtain ⟨hi, ht⟩ := hi
   repeat (first | refine ACode.seq ?_ | (refine ACode.s_reg tys_ok ?_; conv => whnf) | refine ACode.s_block ?_ | refine ACode.s_scope ?_ | (refine ACode.s_cond ?_; conv => whnf) | (refine ACode.s_exit ?_; conv => whnf) | (refine ACode.s_ret ?_; conv => whnf) | (refine ACode.s_skip ?_; conv => whnf) | (refine ACode.s_label ?_; conv => whnf))
   refine ⟨fun h => ?_, fun h => ?_⟩
   ·have h : i < a.length := by have := of_decide_eq_true h; omega
    have h2 : i < b.length := by omega
    have hw1 : Wr .i64 ((i : Int) + 1) = ((i + 1 : Nat) : Int) := by rw [Wr64 _ (by omega) (by omega)]; rfl
    conv => whnf
    repeat (first | refine ACode.seq ?_ | (refine ACode.s_reg tys_ok ?_; conv => whnf) | refine ACode.s_block ?_ | refine ACode.s_scope ?_ | (refine ACode.s_cond ?_; conv => whnf) | (refine ACode.s_exit ?_; conv => whnf) | (refine ACode.s_ret ?_; conv => whnf) | (refine ACode.s_skip ?_; conv => whnf) | (refine ACode.s_label ?_; conv => whnf))
    refine ACode.draw [] tys_ok (by kernel_rfl) (by kernel_rfl) ?_
    conv => whnf
    refine ⟨by omega, _, strs_get a i h, ?_⟩
    conv => whnf
    refine ⟨by omega, _, strs_get b i h2, ?_⟩
    conv => whnf
    refine ⟨fun g => ?_, fun g => ?_⟩
    ·conv => whnf
     repeat (first | refine ACode.seq ?_ | (refine ACode.s_reg tys_ok ?_; conv => whnf) | refine ACode.s_block ?_ | refine ACode.s_scope ?_ | (refine ACode.s_cond ?_; conv => whnf) | (refine ACode.s_exit ?_; conv => whnf) | (refine ACode.s_ret ?_; conv => whnf) | (refine ACode.s_skip ?_; conv => whnf) | (refine ACode.s_label ?_; conv => whnf))
     repeat' (first | (refine And.intro (fun _ => ?_) (fun _ => ?_) <;> conv => whnf) | refine ACode.seq ?_ | (refine ACode.s_reg tys_ok ?_; conv => whnf) | refine ACode.s_block ?_ | refine ACode.s_scope ?_ | (refine ACode.s_cond ?_; conv => whnf) | (refine ACode.s_exit ?_; conv => whnf) | (refine ACode.s_ret ?_; conv => whnf) | (refine ACode.s_skip ?_; conv => whnf) | (refine ACode.s_label ?_; conv => whnf))
     have g : ¬ a[i] = b[i] := by simpa using g
     rw [decide_eq_false fun e => g (by simp only [e])]
    ·conv => whnf
     repeat (first | refine ACode.seq ?_ | (refine ACode.s_reg tys_ok ?_; conv => whnf) | refine ACode.s_block ?_ | refine ACode.s_scope ?_ | (refine ACode.s_cond ?_; conv => whnf) | (refine ACode.s_exit ?_; conv => whnf) | (refine ACode.s_ret ?_; conv => whnf) | (refine ACode.s_skip ?_; conv => whnf) | (refine ACode.s_label ?_; conv => whnf))
     repeat' (first | (refine And.intro (fun _ => ?_) (fun _ => ?_) <;> conv => whnf) | refine ACode.seq ?_ | (refine ACode.s_reg tys_ok ?_; conv => whnf) | refine ACode.s_block ?_ | refine ACode.s_scope ?_ | (refine ACode.s_cond ?_; conv => whnf) | (refine ACode.s_exit ?_; conv => whnf) | (refine ACode.s_ret ?_; conv => whnf) | (refine ACode.s_skip ?_; conv => whnf) | (refine ACode.s_label ?_; conv => whnf))
     have g : a[i] = b[i] := by simpa using g
     refine ⟨i + 1, ?_⟩
     conv => whnf
     repeat (refine And.intro ?_ ?_; (focus (first | rfl | (simp; done) | (first | exact hw1; done))); conv => whnf)
     refine ⟨⟨h, ?_⟩, by omega⟩
     rw [List.take_succ_eq_append_getElem h, List.take_succ_eq_append_getElem h2, ht, g]
   ·have h : i = a.length := by have := of_decide_eq_false h; omega
    rw [h, List.take_length, hlen, List.take_length] at ht
    conv => whnf
    repeat (first | refine ACode.seq ?_ | (refine ACode.s_reg tys_ok ?_; conv => whnf) | refine ACode.s_block ?_ | refine ACode.s_scope ?_ | (refine ACode.s_cond ?_; conv => whnf) | (refine ACode.s_exit ?_; conv => whnf) | (refine ACode.s_ret ?_; conv => whnf) | (refine ACode.s_skip ?_; conv => whnf) | (refine ACode.s_label ?_; conv => whnf))
    rw [decide_eq_true ht]
end Go.Proofs.YtbodeejogdckgaaGreatDoor
