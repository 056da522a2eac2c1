/-
  Print.
-/
import Derived.Test.YtbodeejogdckgaaGreatDoorF3
import Derived.Test.YtbodeejogdckgaaGreatDoorP11
set_option linter.unusedVariables false
set_option linter.unusedSimpArgs false
namespace Go.Proofs.YtbodeejogdckgaaGreatDoor
open Go.Av Go.Shelf Pl
def lineP (a : Ad) (l : List Pt) : Bs := Lib.join (l.map fun p => printP p a) [32]
def printF (f : Fm) (a : Ad) : List Bs := f.lines.map (lineP a)
/-- Which formats and addresses are small. -/
structure SmallF (f : Fm) : Prop where
  n : f.name.length ≤ 1000
  l : f.lines.length ≤ 1000
  l2 : ∀ l ∈ f.lines, l.length ≤ 1000
  t : ∀ l ∈ f.lines, ∀ p ∈ l, p.t.length ≤ 1000
def SmallA (a : Ad) : Prop := a.st.length + a.to.length + a.pe.length + a.co.length ≤ 1000
theorem strs_closed (l : List Bs) : ∀ x ∈ strs l, closed x = true := by
  intro x hx
  obtain ⟨y, _, rfl⟩ := List.mem_map.1 hx
  rfl
def printR (f : Fm) (a : Ad) : List Bs × Int := if validF f && fitsF f a then (printF f a, 0) else ([], 1)
theorem valid_parts {f : Fm} (h : validF f = true) : ∀ l ∈ f.lines, ∀ p ∈ l, partB p = true := by
  rw [validF_eq] at h
  simp only [Bool.and_eq_true, okP] at h
  exact fun l hl p hp => List.all_eq_true.1 h.2.1 p (List.mem_flatten.2 ⟨l, hl, hp⟩)
theorem fits_parts {f : Fm} {a : Ad} (h : fitsF f a = true) : ∀ l ∈ f.lines, ∀ p ∈ l, fitP a p = true := by
  unfold fitsF at h
  simp only [Bool.and_eq_true] at h
  exact fun l hl p hp => List.all_eq_true.1 h.1 p (List.mem_flatten.2 ⟨l, hl, hp⟩)
theorem print_len {p : Pt} {a : Ad} (ha : SmallA a) (ht : p.t.length ≤ 1000) (hf : fitP a p = true) : (printP p a).length ≤ 1000 := by
  unfold SmallA at ha
  unfold printP
  split
  · exact ht
  · split
    · rename_i h
      unfold fitP at hf
      rw [if_pos h] at hf
      simp at hf
      have := itoa_len (n := a.nu) (by omega) (by omega)
      omega
    · repeat' split
      all_goals omega
set_option maxRecDepth 100000 in
theorem print_spec (f : Fm) (a : Ad) (hf : SmallF f) (hc : a.co.length ≤ 9223372036854775807) : Ctr Tryz.prog 14 [f.v, a.v]
    (fun r => r = .tuple [strsA (printR f a).1, .int .i64 (printR f a).2]) := by
  refine Ctr.of_body Tryz.func14 rfl tys_ok (by kernel_rfl) ?_
  conv => whnf
  repeat (first | refine ACode.seq ?_ | (refine ACode.s_reg tys_ok ?_; conv => whnf) | refine ACode.s_block ?_ | refine ACode.s_scope ?_ | (refine ACode.s_cond ?_; conv => whnf) | (refine ACode.s_exit ?_; conv => whnf) | (refine ACode.s_ret ?_; conv => whnf) | (refine ACode.s_skip ?_; conv => whnf) | (refine ACode.s_label ?_; conv => whnf))
  repeat' (first | (refine And.intro (fun _ => ?_) (fun _ => ?_) <;> conv => whnf) | (refine ACall.of_spec (valid_spec f hf.n hf.t hf.l hf.l2) rfl fun r hr => ?_; subst hr; conv => whnf) | refine ACode.seq ?_ | (refine ACode.s_reg tys_ok ?_; conv => whnf) | refine ACode.s_block ?_ | refine ACode.s_scope ?_ | (refine ACode.s_cond ?_; conv => whnf) | (refine ACode.s_exit ?_; conv => whnf) | (refine ACode.s_ret ?_; conv => whnf) | (refine ACode.s_skip ?_; conv => whnf) | (refine ACode.s_label ?_; conv => whnf))
  rotate_left
  · rename_i h1
    refine ⟨1, ?_⟩
    conv => whnf
    have h1 : validF f = false := by simpa using h1
    unfold printR
    rw [h1]
    rfl
  rename_i h1
  have h1 : validF f = true := by simpa using h1
  have hp := valid_parts h1
  refine ACall.of_spec (fits_spec f a hf.l hf.l2 hp hc) rfl fun r hr => ?_
  subst hr
  conv => whnf
  repeat (first | refine ACode.seq ?_ | (refine ACode.s_reg tys_ok ?_; conv => whnf) | refine ACode.s_block ?_ | refine ACode.s_scope ?_ | (refine ACode.s_cond ?_; conv => whnf) | (refine ACode.s_exit ?_; conv => whnf) | (refine ACode.s_ret ?_; conv => whnf) | (refine ACode.s_skip ?_; conv => whnf) | (refine ACode.s_label ?_; conv => whnf))
  refine ⟨fun h2 => ?_, fun h2 => ?_⟩
  · conv => whnf
    repeat (first | refine ACode.seq ?_ | (refine ACode.s_reg tys_ok ?_; conv => whnf) | refine ACode.s_block ?_ | refine ACode.s_scope ?_ | (refine ACode.s_cond ?_; conv => whnf) | (refine ACode.s_exit ?_; conv => whnf) | (refine ACode.s_ret ?_; conv => whnf) | (refine ACode.s_skip ?_; conv => whnf) | (refine ACode.s_label ?_; conv => whnf))
    refine ⟨1, ?_⟩
    conv => whnf
    have h2 : fitsF f a = false := by simpa using h2
    unfold printR
    rw [h2, Bool.and_false]
    rfl
  · have h2 : fitsF f a = true := by simpa using h2
    have hfp := fits_parts h2
    have hR : printR f a = (printF f a, 0) := by unfold printR; rw [h1, h2]; rfl
    have ha : SmallA a := by
      have hp2 : ∀ p ∈ f.lines.flatten, partB p = true := fun p hq => by
        obtain ⟨l, hl, hq⟩ := List.mem_flatten.1 hq
        exact hp l hl p hq
      have := fits_small hp2 h2
      unfold SmallA
      omega
    rw [hR]
    have hll := hf.l
    have hml : (f.lines.map ptsA).length = f.lines.length := by simp
    conv => whnf
    repeat (first | refine ACode.seq ?_ | (refine ACode.s_reg tys_ok ?_; conv => whnf) | refine ACode.s_block ?_ | refine ACode.s_scope ?_ | (refine ACode.s_cond ?_; conv => whnf) | (refine ACode.s_exit ?_; conv => whnf) | (refine ACode.s_ret ?_; conv => whnf) | (refine ACode.s_skip ?_; conv => whnf) | (refine ACode.s_label ?_; conv => whnf))
    refine ⟨⟨by omega, by omega, by omega⟩, ?_⟩
    conv => whnf
    repeat (first | refine ACode.seq ?_ | (refine ACode.s_reg tys_ok ?_; conv => whnf) | refine ACode.s_block ?_ | refine ACode.s_scope ?_ | (refine ACode.s_cond ?_; conv => whnf) | (refine ACode.s_exit ?_; conv => whnf) | (refine ACode.s_ret ?_; conv => whnf) | (refine ACode.s_skip ?_; conv => whnf) | (refine ACode.s_label ?_; conv => whnf))
    refine ACode.loopD (fun i : Nat => mk 55 [(3, .ptr 1 0), (4, .raw (Value.slice none 0 0)), (5, .int .i64 0), (6, .own 2 1 0 i), (26, .sl 1 (f.lines.map ptsA)), (27, .int .i64 f.lines.length), (28, .int .i64 i)]) (fun i => [.cells [.str f.name, .sl 1 (f.lines.map ptsA)], .cells (adA a), .arr 9 1 (strs ((f.lines.take i).map (lineP a)))]) (fun i => i ≤ f.lines.length) (fun i => f.lines.length - i) (fun _ _ => ⟨rfl, rfl, rfl, strs_closed _, trivial⟩) ⟨0, ?_⟩ (fun _ => rfl) fun i hi => ?_
    · conv => whnf
      repeat (refine And.intro ?_ ?_; (focus (first | rfl | (simp; done))); conv => whnf)
      exact Nat.zero_le _
    · repeat (first | refine ACode.seq ?_ | (refine ACode.s_reg tys_ok ?_; conv => whnf) | refine ACode.s_block ?_ | refine ACode.s_scope ?_ | (refine ACode.s_cond ?_; conv => whnf) | (refine ACode.s_exit ?_; conv => whnf) | (refine ACode.s_ret ?_; conv => whnf) | (refine ACode.s_skip ?_; conv => whnf) | (refine ACode.s_label ?_; conv => whnf))
      refine ⟨fun h => ?_, fun h => ?_⟩
      · have h : i < f.lines.length := by simp at h; omega
        have hw1 : Wr .i64 ((i : Int) + 1) = ((i + 1 : Nat) : Int) := by rw [Wr64 _ (by omega) (by omega)]; rfl
        have htk : f.lines.take (i + 1) = f.lines.take i ++ [f.lines[i]] := List.take_succ_eq_append_getElem h
        conv => whnf
        repeat (first | refine ACode.seq ?_ | (refine ACode.s_reg tys_ok ?_; conv => whnf) | refine ACode.s_block ?_ | refine ACode.s_scope ?_ | (refine ACode.s_cond ?_; conv => whnf) | (refine ACode.s_exit ?_; conv => whnf) | (refine ACode.s_ret ?_; conv => whnf) | (refine ACode.s_skip ?_; conv => whnf) | (refine ACode.s_label ?_; conv => whnf))
        refine ⟨by omega, _, lines_get f i h, ?_⟩
        conv => whnf
        repeat (first | refine ACode.seq ?_ | (refine ACode.s_reg tys_ok ?_; conv => whnf) | refine ACode.s_block ?_ | refine ACode.s_scope ?_ | (refine ACode.s_cond ?_; conv => whnf) | (refine ACode.s_exit ?_; conv => whnf) | (refine ACode.s_ret ?_; conv => whnf) | (refine ACode.s_skip ?_; conv => whnf) | (refine ACode.s_label ?_; conv => whnf))
        have hlL := hf.l2 _ (List.getElem_mem h)
        have hpL := hp _ (List.getElem_mem h)
        have hfL := hfp _ (List.getElem_mem h)
        have htL := hf.t _ (List.getElem_mem h)
        generalize f.lines[i] = L at *
        have hmL : (L.map Pt.v).length = L.length := by simp
        refine ⟨⟨by omega, by omega, by omega⟩, ?_⟩
        conv => whnf
        repeat (first | refine ACode.seq ?_ | (refine ACode.s_reg tys_ok ?_; conv => whnf) | refine ACode.s_block ?_ | refine ACode.s_scope ?_ | (refine ACode.s_cond ?_; conv => whnf) | (refine ACode.s_exit ?_; conv => whnf) | (refine ACode.s_ret ?_; conv => whnf) | (refine ACode.s_skip ?_; conv => whnf) | (refine ACode.s_label ?_; conv => whnf))
        generalize hB : (f.lines.take i).map (lineP a) = B at *
        refine ACode.loopD (fun k : Nat => mk 55 [(3, .ptr 1 0), (4, .raw (Value.slice none 0 0)), (5, .int .i64 0), (6, .own 2 1 0 i), (9, .own 3 1 0 k), (26, .sl 1 (f.lines.map ptsA)), (27, .int .i64 f.lines.length), (28, .int .i64 i), (35, .sl 2 (L.map Pt.v)), (36, .int .i64 L.length), (37, .int .i64 k)]) (fun k => [.cells [.str f.name, .sl 1 (f.lines.map ptsA)], .cells (adA a), .arr 9 1 (strs B), .arr 9 1 (strs ((L.take k).map fun p => printP p a))]) (fun k => k ≤ L.length) (fun k => L.length - k) (fun _ _ => ⟨rfl, rfl, rfl, strs_closed _, strs_closed _, trivial⟩) ⟨0, ?_⟩ (fun _ => rfl) fun k hk => ?_
        · conv => whnf
          repeat (refine And.intro ?_ ?_; (focus (first | rfl | (simp; done))); conv => whnf)
          exact Nat.zero_le _
        · repeat (first | refine ACode.seq ?_ | (refine ACode.s_reg tys_ok ?_; conv => whnf) | refine ACode.s_block ?_ | refine ACode.s_scope ?_ | (refine ACode.s_cond ?_; conv => whnf) | (refine ACode.s_exit ?_; conv => whnf) | (refine ACode.s_ret ?_; conv => whnf) | (refine ACode.s_skip ?_; conv => whnf) | (refine ACode.s_label ?_; conv => whnf))
          refine ⟨fun h3 => ?_, fun h3 => ?_⟩
          · have h3 : k < L.length := by simp at h3; omega
            have hw2 : Wr .i64 ((k : Int) + 1) = ((k + 1 : Nat) : Int) := by rw [Wr64 _ (by omega) (by omega)]; rfl
            have htk2 : L.take (k + 1) = L.take k ++ [L[k]] := List.take_succ_eq_append_getElem h3
            have hfk := hfL _ (List.getElem_mem h3)
            have hnu : L[k].k = 2 → 0 ≤ a.nu ∧ a.nu ≤ 9999 := fun e => by
              unfold fitP at hfk
              rw [if_pos e] at hfk
              simp at hfk
              omega
            conv => whnf
            repeat (first | refine ACode.seq ?_ | (refine ACode.s_reg tys_ok ?_; conv => whnf) | refine ACode.s_block ?_ | refine ACode.s_scope ?_ | (refine ACode.s_cond ?_; conv => whnf) | (refine ACode.s_exit ?_; conv => whnf) | (refine ACode.s_ret ?_; conv => whnf) | (refine ACode.s_skip ?_; conv => whnf) | (refine ACode.s_label ?_; conv => whnf))
            refine ⟨by omega, _, pts_get L k h3, ?_⟩
            conv => whnf
            repeat (first | refine ACode.seq ?_ | (refine ACode.s_reg tys_ok ?_; conv => whnf) | refine ACode.s_block ?_ | refine ACode.s_scope ?_ | (refine ACode.s_cond ?_; conv => whnf) | (refine ACode.s_exit ?_; conv => whnf) | (refine ACode.s_ret ?_; conv => whnf) | (refine ACode.s_skip ?_; conv => whnf) | (refine ACode.s_label ?_; conv => whnf))
            refine ACall.of_spec (printed_spec L[k] a hnu) rfl fun r hr => ?_
            subst hr
            conv => whnf
            repeat (first | refine ACode.seq ?_ | (refine ACode.s_reg tys_ok ?_; conv => whnf) | refine ACode.s_block ?_ | refine ACode.s_scope ?_ | (refine ACode.s_cond ?_; conv => whnf) | (refine ACode.s_exit ?_; conv => whnf) | (refine ACode.s_ret ?_; conv => whnf) | (refine ACode.s_skip ?_; conv => whnf) | (refine ACode.s_label ?_; conv => whnf))
            refine ⟨rfl, ?_⟩
            conv => whnf
            refine ⟨⟨by simp; omega, by simp; omega⟩, ?_⟩
            conv => whnf
            repeat (first | refine ACode.seq ?_ | (refine ACode.s_reg tys_ok ?_; conv => whnf) | refine ACode.s_block ?_ | refine ACode.s_scope ?_ | (refine ACode.s_cond ?_; conv => whnf) | (refine ACode.s_exit ?_; conv => whnf) | (refine ACode.s_ret ?_; conv => whnf) | (refine ACode.s_skip ?_; conv => whnf) | (refine ACode.s_label ?_; conv => whnf))
            refine ⟨k + 1, ?_⟩
            have hsn : strs ((L.take k).map fun p => printP p a) ++ [AV.str (printP L[k] a)] = strs ((L.take (k + 1)).map fun p => printP p a) := by rw [htk2]; simp only [strs, List.map_append, List.map_cons, List.map_nil]
            conv => whnf
            repeat (refine And.intro ?_ ?_; (focus (first | rfl | (simp; done) | (first | exact hw2 | exact congrArg (HO.arr _ 1) hsn | exact congrArg (AV.own 3 1 0) (by rw [hsn]; simp; omega); done))); conv => whnf)
            exact ⟨by omega, by omega⟩
          · have h3 : k = L.length := by simp at h3; omega
            rw [h3, List.take_length]
            conv => whnf
            repeat (first | refine ACode.seq ?_ | (refine ACode.s_reg tys_ok ?_; conv => whnf) | refine ACode.s_block ?_ | refine ACode.s_scope ?_ | (refine ACode.s_cond ?_; conv => whnf) | (refine ACode.s_exit ?_; conv => whnf) | (refine ACode.s_ret ?_; conv => whnf) | (refine ACode.s_skip ?_; conv => whnf) | (refine ACode.s_label ?_; conv => whnf))
            refine ACall.freeze 3 ?_ (by kernel_rfl)
            conv => whnf
            refine ⟨(strs_closed _), ?_⟩
            conv => whnf
            repeat (refine ⟨(by first | rfl | (simp; done) : (_ : Nat) = _), ?_⟩; conv => whnf)
            have hpl : ∀ x ∈ (L.map fun p => printP p a), x.length ≤ 1000 := fun x hx => by
              obtain ⟨p, hp, rfl⟩ := List.mem_map.1 hx
              exact print_len ha (htL p hp) (hfL p hp)
            have hjl := join_len [32] 1000 _ hpl
            have hjl2 : (Lib.join (L.map fun p => printP p a) [32]).length ≤ 1001 * 1000 := by
              refine Nat.le_trans hjl ?_
              simp only [List.length_map, List.length_cons, List.length_nil]
              omega
            refine ACall.of_spec (join_spec (L.map fun p => printP p a) (by simp; omega) (by omega)) rfl fun r hr => ?_
            subst hr
            conv => whnf
            repeat (first | refine ACode.seq ?_ | (refine ACode.s_reg tys_ok ?_; conv => whnf) | refine ACode.s_block ?_ | refine ACode.s_scope ?_ | (refine ACode.s_cond ?_; conv => whnf) | (refine ACode.s_exit ?_; conv => whnf) | (refine ACode.s_ret ?_; conv => whnf) | (refine ACode.s_skip ?_; conv => whnf) | (refine ACode.s_label ?_; conv => whnf))
            refine ⟨rfl, ?_⟩
            conv => whnf
            have hBl : B.length = i := by rw [← hB]; simp; omega
            refine ⟨⟨by simp; omega, by simp; omega⟩, ?_⟩
            conv => whnf
            repeat (first | refine ACode.seq ?_ | (refine ACode.s_reg tys_ok ?_; conv => whnf) | refine ACode.s_block ?_ | refine ACode.s_scope ?_ | (refine ACode.s_cond ?_; conv => whnf) | (refine ACode.s_exit ?_; conv => whnf) | (refine ACode.s_ret ?_; conv => whnf) | (refine ACode.s_skip ?_; conv => whnf) | (refine ACode.s_label ?_; conv => whnf))
            refine ⟨i + 1, ?_⟩
            have hsn : strs B ++ [AV.str (Lib.join (L.map fun p => printP p a) [32])] = strs ((f.lines.take (i + 1)).map (lineP a)) := by
              rw [htk, List.map_append, hB]; simp only [strs, List.map_append, List.map_cons, List.map_nil]; rfl
            conv => whnf
            repeat (refine And.intro ?_ ?_; (focus (first | rfl | (simp; done) | (first | exact hw1 | exact congrArg (HO.arr _ 1) hsn | exact congrArg (AV.own 2 1 0) (by simp; omega); done))); conv => whnf)
            exact ⟨by omega, by omega⟩
      · have h : i = f.lines.length := by simp at h; omega
        rw [h, List.take_length]
        conv => whnf
        repeat (first | refine ACode.seq ?_ | (refine ACode.s_reg tys_ok ?_; conv => whnf) | refine ACode.s_block ?_ | refine ACode.s_scope ?_ | (refine ACode.s_cond ?_; conv => whnf) | (refine ACode.s_exit ?_; conv => whnf) | (refine ACode.s_ret ?_; conv => whnf) | (refine ACode.s_skip ?_; conv => whnf) | (refine ACode.s_label ?_; conv => whnf))
        refine ⟨⟨by simp, strs_closed _⟩, ?_⟩
        conv => whnf
        rfl
end Go.Proofs.YtbodeejogdckgaaGreatDoor
