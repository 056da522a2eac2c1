/-
  The reference: Make, shifts and aliases.
-/
import Derived.Test.YtkmhjamdgncpoaaDoorR8
import Derived.Test.YtkmhjamdgncpoaaDoorAv53
set_option linter.unusedVariables false
set_option linter.unusedSimpArgs false
namespace Go.Proofs.YtkmhjamdgncpoaaDoor
open Go.Av Go.Shelf Pl Go.RowKit
theorem strs_snoc_closed (l : List Bs) (x : Bs) : ∀ e ∈ [] ++ strs l ++ [AV.str x], closed e = true := by
  intro e he
  simp only [List.nil_append, List.mem_append, List.mem_singleton] at he
  rcases he with he | rfl
  · exact strs_closed l e he
  · rfl
theorem shift_err {s : St} {c : Ch} (hk : c.ki = 4) (hs : StOK s 60) (h : c.sh < -9999 ∨ 9999 < c.sh ∨ numB (Wr .i64 (s.lo + c.sh)) = false ∨ numB (Wr .i64 (s.hi + c.sh)) = false) : editS s c = .error 1 := by
  obtain ⟨q1, q2⟩ := hs.lo
  obtain ⟨q3, q4⟩ := hs.hi
  unfold editS
  rw [if_neg (by omega), if_neg (by omega), if_pos hk, if_neg]
  intro hh
  simp only [Bool.and_eq_true] at hh
  obtain ⟨g1, g2⟩ := hh
  have r1 := num_ok g1
  have r2 := num_ok g2
  rw [Wr64 (s.lo + c.sh) (by omega) (by omega), Wr64 (s.hi + c.sh) (by omega) (by omega), g1, g2] at h
  rcases h with h | h | h | h
  · omega
  · omega
  · cases h
  · cases h
theorem shift_ok {s : St} {c : Ch} (hk : c.ki = 4) (hs : StOK s 60) (h1 : ¬ c.sh < -9999) (h2 : ¬ 9999 < c.sh) (h3 : numB (Wr .i64 (s.lo + c.sh)) = true) (h4 : numB (Wr .i64 (s.hi + c.sh)) = true) :
    editS s c = .ok { s with lo := Wr .i64 (s.lo + c.sh), hi := Wr .i64 (s.hi + c.sh), sh := Wr .i64 (s.sh + c.sh) } := by
  obtain ⟨q1, q2⟩ := hs.lo
  obtain ⟨q3, q4⟩ := hs.hi
  obtain ⟨q5, q6⟩ := hs.sh
  have e1 : Wr .i64 (s.lo + c.sh) = s.lo + c.sh := Wr64 _ (by omega) (by omega)
  have e2 : Wr .i64 (s.hi + c.sh) = s.hi + c.sh := Wr64 _ (by omega) (by omega)
  have e3 : Wr .i64 (s.sh + c.sh) = s.sh + c.sh := Wr64 _ (by omega) (by omega)
  rw [e1] at h3 ⊢
  rw [e2] at h4 ⊢
  rw [e3]
  unfold editS
  rw [if_neg (by omega), if_neg (by omega), if_pos hk, if_pos (by rw [h3, h4]; rfl)]
set_option maxRecDepth 100000 in
set_option maxHeartbeats 4000000 in
theorem make4 (l : List St) (da sr : Int) (co tw na : Bs) (lo hi sh : Int) (hl : l.length ≤ 60) (hok : ∀ s ∈ l, StOK s 60) (hu : usesB ⟨da, 4, sr, co, tw, na, lo, hi, sh⟩ = true) :
    Ctr Tryd.prog 42 [sts l, chA da 4 sr co tw na lo hi sh] (fun x => x = resM (makeS l ⟨da, 4, sr, co, tw, na, lo, hi, sh⟩)) := by
  refine Ctr.of_body Tryd.func42 rfl tys_ok (by kernel_rfl) ?_
  conv => whnf
  repeat (first | refine ACode.seq ?_ | (refine ACode.s_reg tys_ok ?_; conv => whnf) | refine ACode.s_block ?_ | refine ACode.s_scope ?_ | (refine ACode.s_cond ?_; conv => whnf) | (refine ACode.s_exit ?_; conv => whnf) | (refine ACode.s_ret ?_; conv => whnf) | (refine ACode.s_skip ?_; conv => whnf) | (refine ACode.s_label ?_; conv => whnf))
  refine ⟨⟨rfl, by simp; omega⟩, ?_⟩
  conv => whnf
  repeat (first | refine ACode.seq ?_ | (refine ACode.s_reg tys_ok ?_; conv => whnf) | refine ACode.s_block ?_ | refine ACode.s_scope ?_ | (refine ACode.s_cond ?_; conv => whnf) | (refine ACode.s_exit ?_; conv => whnf) | (refine ACode.s_ret ?_; conv => whnf) | (refine ACode.s_skip ?_; conv => whnf) | (refine ACode.s_label ?_; conv => whnf))
  refine ⟨fun h => absurd h (by decide +kernel), fun _ => ?_⟩
  conv => whnf
  repeat (first | refine ACode.seq ?_ | (refine ACode.s_reg tys_ok ?_; conv => whnf) | refine ACode.s_block ?_ | refine ACode.s_scope ?_ | (refine ACode.s_cond ?_; conv => whnf) | (refine ACode.s_exit ?_; conv => whnf) | (refine ACode.s_ret ?_; conv => whnf) | (refine ACode.s_skip ?_; conv => whnf) | (refine ACode.s_label ?_; conv => whnf))
  refine ⟨fun h1 => ?_, fun h1 => ?_⟩; rotate_left
  · have h1 : sr < 0 := by simpa using h1
    conv => whnf
    repeat (first | refine ACode.seq ?_ | (refine ACode.s_reg tys_ok ?_; conv => whnf) | refine ACode.s_block ?_ | refine ACode.s_scope ?_ | (refine ACode.s_cond ?_; conv => whnf) | (refine ACode.s_exit ?_; conv => whnf) | (refine ACode.s_ret ?_; conv => whnf) | (refine ACode.s_skip ?_; conv => whnf) | (refine ACode.s_label ?_; conv => whnf))
    refine ⟨8, ?_⟩
    conv => whnf
    rw [make_err (mk_none (by simp) (open_lo h1))]
    rfl
  have h1 : 0 ≤ sr := by simp at h1; omega
  conv => whnf
  repeat (first | refine ACode.seq ?_ | (refine ACode.s_reg tys_ok ?_; conv => whnf) | refine ACode.s_block ?_ | refine ACode.s_scope ?_ | (refine ACode.s_cond ?_; conv => whnf) | (refine ACode.s_exit ?_; conv => whnf) | (refine ACode.s_ret ?_; conv => whnf) | (refine ACode.s_skip ?_; conv => whnf) | (refine ACode.s_label ?_; conv => whnf))
  refine ⟨fun h2 => ?_, fun h2 => ?_⟩; rotate_left
  · have h2 : (l.length : Int) ≤ sr := by simpa using h2
    conv => whnf
    repeat (first | refine ACode.seq ?_ | (refine ACode.s_reg tys_ok ?_; conv => whnf) | refine ACode.s_block ?_ | refine ACode.s_scope ?_ | (refine ACode.s_cond ?_; conv => whnf) | (refine ACode.s_exit ?_; conv => whnf) | (refine ACode.s_ret ?_; conv => whnf) | (refine ACode.s_skip ?_; conv => whnf) | (refine ACode.s_label ?_; conv => whnf))
    refine ⟨8, ?_⟩
    conv => whnf
    rw [make_err (mk_none (by simp) (open_no h2))]
    rfl
  have h2 : sr.toNat < l.length := by simp at h2; omega
  conv => whnf
  repeat (first | refine ACode.seq ?_ | (refine ACode.s_reg tys_ok ?_; conv => whnf) | refine ACode.s_block ?_ | refine ACode.s_scope ?_ | (refine ACode.s_cond ?_; conv => whnf) | (refine ACode.s_exit ?_; conv => whnf) | (refine ACode.s_ret ?_; conv => whnf) | (refine ACode.s_skip ?_; conv => whnf) | (refine ACode.s_label ?_; conv => whnf))
  refine ⟨by simp; omega, ?_⟩
  conv => whnf
  repeat (first | refine ACode.seq ?_ | (refine ACode.s_reg tys_ok ?_; conv => whnf) | refine ACode.s_block ?_ | refine ACode.s_scope ?_ | (refine ACode.s_cond ?_; conv => whnf) | (refine ACode.s_exit ?_; conv => whnf) | (refine ACode.s_ret ?_; conv => whnf) | (refine ACode.s_skip ?_; conv => whnf) | (refine ACode.s_label ?_; conv => whnf))
  refine ⟨_, el_get l _ h2, ?_⟩
  conv => whnf
  repeat (first | refine ACode.seq ?_ | (refine ACode.s_reg tys_ok ?_; conv => whnf) | refine ACode.s_block ?_ | refine ACode.s_scope ?_ | (refine ACode.s_cond ?_; conv => whnf) | (refine ACode.s_exit ?_; conv => whnf) | (refine ACode.s_ret ?_; conv => whnf) | (refine ACode.s_skip ?_; conv => whnf) | (refine ACode.s_label ?_; conv => whnf))
  refine ⟨fun h3 => ?_, fun h3 => ?_⟩
  · have h3 : l[sr.toNat].op = false := by simpa using h3
    conv => whnf
    repeat (first | refine ACode.seq ?_ | (refine ACode.s_reg tys_ok ?_; conv => whnf) | refine ACode.s_block ?_ | refine ACode.s_scope ?_ | (refine ACode.s_cond ?_; conv => whnf) | (refine ACode.s_exit ?_; conv => whnf) | (refine ACode.s_ret ?_; conv => whnf) | (refine ACode.s_skip ?_; conv => whnf) | (refine ACode.s_label ?_; conv => whnf))
    refine ⟨8, ?_⟩
    conv => whnf
    rw [make_err (mk_none (by simp) (open_shut h2 h3))]
    rfl
  have h3 : l[sr.toNat].op = true := by simpa using h3
  conv => whnf
  repeat (first | refine ACode.seq ?_ | (refine ACode.s_reg tys_ok ?_; conv => whnf) | refine ACode.s_block ?_ | refine ACode.s_scope ?_ | (refine ACode.s_cond ?_; conv => whnf) | (refine ACode.s_exit ?_; conv => whnf) | (refine ACode.s_ret ?_; conv => whnf) | (refine ACode.s_skip ?_; conv => whnf) | (refine ACode.s_label ?_; conv => whnf))
  refine ⟨by simp; omega, ?_⟩
  conv => whnf
  repeat (first | refine ACode.seq ?_ | (refine ACode.s_reg tys_ok ?_; conv => whnf) | refine ACode.s_block ?_ | refine ACode.s_scope ?_ | (refine ACode.s_cond ?_; conv => whnf) | (refine ACode.s_exit ?_; conv => whnf) | (refine ACode.s_ret ?_; conv => whnf) | (refine ACode.s_skip ?_; conv => whnf) | (refine ACode.s_label ?_; conv => whnf))
  refine ⟨_, el_get l _ h2, ?_⟩
  conv => whnf
  repeat (first | refine ACode.seq ?_ | (refine ACode.s_reg tys_ok ?_; conv => whnf) | refine ACode.s_block ?_ | refine ACode.s_scope ?_ | (refine ACode.s_cond ?_; conv => whnf) | (refine ACode.s_exit ?_; conv => whnf) | (refine ACode.s_ret ?_; conv => whnf) | (refine ACode.s_skip ?_; conv => whnf) | (refine ACode.s_label ?_; conv => whnf))
  have hst := hok _ (List.getElem_mem h2)
  have bad : (sh < -9999 ∨ 9999 < sh ∨ numB (Wr .i64 (l[sr.toNat].lo + sh)) = false ∨ numB (Wr .i64 (l[sr.toNat].hi + sh)) = false) → makeS l ⟨da, 4, sr, co, tw, na, lo, hi, sh⟩ = .error 1 := fun h => make_err (mk_erri (by simp) h1 h2 h3 (shift_err (c := ⟨da, 4, sr, co, tw, na, lo, hi, sh⟩) rfl hst h))
  repeat' (first | (refine ⟨fun _ => ?_, fun h => absurd h (by decide +kernel)⟩; conv => whnf) | (refine ⟨fun h => absurd h (by decide +kernel), fun _ => ?_⟩; conv => whnf) | (refine And.intro (fun _ => ?_) (fun _ => ?_) <;> conv => whnf) | (refine ACall.of_spec (house_spec (Wr .i64 (l[sr.toNat].lo + sh))) rfl fun r hr => ?_; subst hr; conv => whnf) | (refine ACall.of_spec (house_spec (Wr .i64 (l[sr.toNat].hi + sh))) rfl fun r hr => ?_; subst hr; conv => whnf) | refine ACode.seq ?_ | (refine ACode.s_reg tys_ok ?_; conv => whnf) | refine ACode.s_block ?_ | refine ACode.s_scope ?_ | (refine ACode.s_cond ?_; conv => whnf) | (refine ACode.s_exit ?_; conv => whnf) | (refine ACode.s_ret ?_; conv => whnf) | (refine ACode.s_skip ?_; conv => whnf) | (refine ACode.s_label ?_; conv => whnf))
  all_goals first
    | (refine ⟨8, ?_⟩
       conv => whnf
       rw [bad (by simp_all)]
       rfl)
    | skip
  rename_i k1 k2 k3 k4
  have hm : mkS l ⟨da, 4, sr, co, tw, na, lo, hi, sh⟩ = .ok (l.set sr.toNat { l[sr.toNat] with lo := Wr .i64 (l[sr.toNat].lo + sh), hi := Wr .i64 (l[sr.toNat].hi + sh), sh := Wr .i64 (l[sr.toNat].sh + sh) }, sr.toNat) :=
    mk_edit (by simp) h1 h2 h3 (shift_ok (c := ⟨da, 4, sr, co, tw, na, lo, hi, sh⟩) rfl hst (by simpa using k1) (by simpa using k2) (by simpa using k3) (by simpa using k4))
  refine ⟨by simp; omega, ?_⟩
  conv => whnf
  repeat (first | refine ACode.seq ?_ | (refine ACode.s_reg tys_ok ?_; conv => whnf) | refine ACode.s_block ?_ | refine ACode.s_scope ?_ | (refine ACode.s_cond ?_; conv => whnf) | (refine ACode.s_exit ?_; conv => whnf) | (refine ACode.s_ret ?_; conv => whnf) | (refine ACode.s_skip ?_; conv => whnf) | (refine ACode.s_label ?_; conv => whnf))
  refine ⟨_, el_get l _ h2, ?_⟩
  conv => whnf
  repeat (first | refine ACode.seq ?_ | (refine ACode.s_reg tys_ok ?_; conv => whnf) | refine ACode.s_block ?_ | refine ACode.s_scope ?_ | (refine ACode.s_cond ?_; conv => whnf) | (refine ACode.s_exit ?_; conv => whnf) | (refine ACode.s_ret ?_; conv => whnf) | (refine ACode.s_skip ?_; conv => whnf) | (refine ACode.s_label ?_; conv => whnf))
  refine ACall.normR 1 rfl (el_norm l _ _ { l[sr.toNat] with lo := Wr .i64 (l[sr.toNat].lo + sh), hi := Wr .i64 (l[sr.toNat].hi + sh), sh := Wr .i64 (l[sr.toNat].sh + sh) } rfl) ?_
  refine ACall.freeze 1 ?_ (by kernel_rfl)
  conv => whnf
  refine ⟨sts_closed _, ?_⟩
  conv => whnf
  repeat (refine ⟨(by first | rfl | (simp; done) : (_ : Nat) = _), ?_⟩; conv => whnf)
  have hn : sr = (sr.toNat : Int) := by omega
  have spec := clash_spec (l.set sr.toNat { l[sr.toNat] with lo := Wr .i64 (l[sr.toNat].lo + sh), hi := Wr .i64 (l[sr.toNat].hi + sh), sh := Wr .i64 (l[sr.toNat].sh + sh) }) sr.toNat (by simpa using h2) (by simp; omega) (long_mk hu hok hm)
  rw [← hn] at spec
  refine ACall.of_spec (spec) rfl fun r hr => ?_
  subst hr
  conv => whnf
  repeat (first | refine ACode.seq ?_ | (refine ACode.s_reg tys_ok ?_; conv => whnf) | refine ACode.s_block ?_ | refine ACode.s_scope ?_ | (refine ACode.s_cond ?_; conv => whnf) | (refine ACode.s_exit ?_; conv => whnf) | (refine ACode.s_ret ?_; conv => whnf) | (refine ACode.s_skip ?_; conv => whnf) | (refine ACode.s_label ?_; conv => whnf))
  refine ⟨fun h => ?_, fun h => ?_⟩
  · conv => whnf
    repeat (first | refine ACode.seq ?_ | (refine ACode.s_reg tys_ok ?_; conv => whnf) | refine ACode.s_block ?_ | refine ACode.s_scope ?_ | (refine ACode.s_cond ?_; conv => whnf) | (refine ACode.s_exit ?_; conv => whnf) | (refine ACode.s_ret ?_; conv => whnf) | (refine ACode.s_skip ?_; conv => whnf) | (refine ACode.s_label ?_; conv => whnf))
    refine ⟨8, ?_⟩
    conv => whnf
    rw [make_bad hm (by simpa using h)]
    rfl
  · conv => whnf
    repeat (first | refine ACode.seq ?_ | (refine ACode.s_reg tys_ok ?_; conv => whnf) | refine ACode.s_block ?_ | refine ACode.s_scope ?_ | (refine ACode.s_cond ?_; conv => whnf) | (refine ACode.s_exit ?_; conv => whnf) | (refine ACode.s_ret ?_; conv => whnf) | (refine ACode.s_skip ?_; conv => whnf) | (refine ACode.s_label ?_; conv => whnf))
    rw [make_good hm (by simpa using h)]
    rfl
set_option maxRecDepth 100000 in
set_option maxHeartbeats 4000000 in
theorem make5 (l : List St) (da sr : Int) (co tw na : Bs) (lo hi sh : Int) (hl : l.length ≤ 60) (hok : ∀ s ∈ l, StOK s 60) (hu : usesB ⟨da, 5, sr, co, tw, na, lo, hi, sh⟩ = true) :
    Ctr Tryd.prog 42 [sts l, chA da 5 sr co tw na lo hi sh] (fun x => x = resM (makeS l ⟨da, 5, sr, co, tw, na, lo, hi, sh⟩)) := by
  refine Ctr.of_body Tryd.func42 rfl tys_ok (by kernel_rfl) ?_
  conv => whnf
  repeat (first | refine ACode.seq ?_ | (refine ACode.s_reg tys_ok ?_; conv => whnf) | refine ACode.s_block ?_ | refine ACode.s_scope ?_ | (refine ACode.s_cond ?_; conv => whnf) | (refine ACode.s_exit ?_; conv => whnf) | (refine ACode.s_ret ?_; conv => whnf) | (refine ACode.s_skip ?_; conv => whnf) | (refine ACode.s_label ?_; conv => whnf))
  refine ⟨⟨rfl, by simp; omega⟩, ?_⟩
  conv => whnf
  repeat (first | refine ACode.seq ?_ | (refine ACode.s_reg tys_ok ?_; conv => whnf) | refine ACode.s_block ?_ | refine ACode.s_scope ?_ | (refine ACode.s_cond ?_; conv => whnf) | (refine ACode.s_exit ?_; conv => whnf) | (refine ACode.s_ret ?_; conv => whnf) | (refine ACode.s_skip ?_; conv => whnf) | (refine ACode.s_label ?_; conv => whnf))
  refine ⟨fun h => absurd h (by decide +kernel), fun _ => ?_⟩
  conv => whnf
  repeat (first | refine ACode.seq ?_ | (refine ACode.s_reg tys_ok ?_; conv => whnf) | refine ACode.s_block ?_ | refine ACode.s_scope ?_ | (refine ACode.s_cond ?_; conv => whnf) | (refine ACode.s_exit ?_; conv => whnf) | (refine ACode.s_ret ?_; conv => whnf) | (refine ACode.s_skip ?_; conv => whnf) | (refine ACode.s_label ?_; conv => whnf))
  refine ⟨fun h1 => ?_, fun h1 => ?_⟩; rotate_left
  · have h1 : sr < 0 := by simpa using h1
    conv => whnf
    repeat (first | refine ACode.seq ?_ | (refine ACode.s_reg tys_ok ?_; conv => whnf) | refine ACode.s_block ?_ | refine ACode.s_scope ?_ | (refine ACode.s_cond ?_; conv => whnf) | (refine ACode.s_exit ?_; conv => whnf) | (refine ACode.s_ret ?_; conv => whnf) | (refine ACode.s_skip ?_; conv => whnf) | (refine ACode.s_label ?_; conv => whnf))
    refine ⟨8, ?_⟩
    conv => whnf
    rw [make_err (mk_none (by simp) (open_lo h1))]
    rfl
  have h1 : 0 ≤ sr := by simp at h1; omega
  conv => whnf
  repeat (first | refine ACode.seq ?_ | (refine ACode.s_reg tys_ok ?_; conv => whnf) | refine ACode.s_block ?_ | refine ACode.s_scope ?_ | (refine ACode.s_cond ?_; conv => whnf) | (refine ACode.s_exit ?_; conv => whnf) | (refine ACode.s_ret ?_; conv => whnf) | (refine ACode.s_skip ?_; conv => whnf) | (refine ACode.s_label ?_; conv => whnf))
  refine ⟨fun h2 => ?_, fun h2 => ?_⟩; rotate_left
  · have h2 : (l.length : Int) ≤ sr := by simpa using h2
    conv => whnf
    repeat (first | refine ACode.seq ?_ | (refine ACode.s_reg tys_ok ?_; conv => whnf) | refine ACode.s_block ?_ | refine ACode.s_scope ?_ | (refine ACode.s_cond ?_; conv => whnf) | (refine ACode.s_exit ?_; conv => whnf) | (refine ACode.s_ret ?_; conv => whnf) | (refine ACode.s_skip ?_; conv => whnf) | (refine ACode.s_label ?_; conv => whnf))
    refine ⟨8, ?_⟩
    conv => whnf
    rw [make_err (mk_none (by simp) (open_no h2))]
    rfl
  have h2 : sr.toNat < l.length := by simp at h2; omega
  conv => whnf
  repeat (first | refine ACode.seq ?_ | (refine ACode.s_reg tys_ok ?_; conv => whnf) | refine ACode.s_block ?_ | refine ACode.s_scope ?_ | (refine ACode.s_cond ?_; conv => whnf) | (refine ACode.s_exit ?_; conv => whnf) | (refine ACode.s_ret ?_; conv => whnf) | (refine ACode.s_skip ?_; conv => whnf) | (refine ACode.s_label ?_; conv => whnf))
  refine ⟨by simp; omega, ?_⟩
  conv => whnf
  repeat (first | refine ACode.seq ?_ | (refine ACode.s_reg tys_ok ?_; conv => whnf) | refine ACode.s_block ?_ | refine ACode.s_scope ?_ | (refine ACode.s_cond ?_; conv => whnf) | (refine ACode.s_exit ?_; conv => whnf) | (refine ACode.s_ret ?_; conv => whnf) | (refine ACode.s_skip ?_; conv => whnf) | (refine ACode.s_label ?_; conv => whnf))
  refine ⟨_, el_get l _ h2, ?_⟩
  conv => whnf
  repeat (first | refine ACode.seq ?_ | (refine ACode.s_reg tys_ok ?_; conv => whnf) | refine ACode.s_block ?_ | refine ACode.s_scope ?_ | (refine ACode.s_cond ?_; conv => whnf) | (refine ACode.s_exit ?_; conv => whnf) | (refine ACode.s_ret ?_; conv => whnf) | (refine ACode.s_skip ?_; conv => whnf) | (refine ACode.s_label ?_; conv => whnf))
  refine ⟨fun h3 => ?_, fun h3 => ?_⟩
  · have h3 : l[sr.toNat].op = false := by simpa using h3
    conv => whnf
    repeat (first | refine ACode.seq ?_ | (refine ACode.s_reg tys_ok ?_; conv => whnf) | refine ACode.s_block ?_ | refine ACode.s_scope ?_ | (refine ACode.s_cond ?_; conv => whnf) | (refine ACode.s_exit ?_; conv => whnf) | (refine ACode.s_ret ?_; conv => whnf) | (refine ACode.s_skip ?_; conv => whnf) | (refine ACode.s_label ?_; conv => whnf))
    refine ⟨8, ?_⟩
    conv => whnf
    rw [make_err (mk_none (by simp) (open_shut h2 h3))]
    rfl
  have h3 : l[sr.toNat].op = true := by simpa using h3
  conv => whnf
  repeat (first | refine ACode.seq ?_ | (refine ACode.s_reg tys_ok ?_; conv => whnf) | refine ACode.s_block ?_ | refine ACode.s_scope ?_ | (refine ACode.s_cond ?_; conv => whnf) | (refine ACode.s_exit ?_; conv => whnf) | (refine ACode.s_ret ?_; conv => whnf) | (refine ACode.s_skip ?_; conv => whnf) | (refine ACode.s_label ?_; conv => whnf))
  refine ⟨by simp; omega, ?_⟩
  conv => whnf
  repeat (first | refine ACode.seq ?_ | (refine ACode.s_reg tys_ok ?_; conv => whnf) | refine ACode.s_block ?_ | refine ACode.s_scope ?_ | (refine ACode.s_cond ?_; conv => whnf) | (refine ACode.s_exit ?_; conv => whnf) | (refine ACode.s_ret ?_; conv => whnf) | (refine ACode.s_skip ?_; conv => whnf) | (refine ACode.s_label ?_; conv => whnf))
  refine ⟨_, el_get l _ h2, ?_⟩
  conv => whnf
  repeat (first | refine ACode.seq ?_ | (refine ACode.s_reg tys_ok ?_; conv => whnf) | refine ACode.s_block ?_ | refine ACode.s_scope ?_ | (refine ACode.s_cond ?_; conv => whnf) | (refine ACode.s_exit ?_; conv => whnf) | (refine ACode.s_ret ?_; conv => whnf) | (refine ACode.s_skip ?_; conv => whnf) | (refine ACode.s_label ?_; conv => whnf))
  have hst := hok _ (List.getElem_mem h2)
  repeat' (first | (refine ⟨fun _ => ?_, fun h => absurd h (by decide +kernel)⟩; conv => whnf) | (refine ⟨fun h => absurd h (by decide +kernel), fun _ => ?_⟩; conv => whnf) | (refine And.intro (fun _ => ?_) (fun _ => ?_) <;> conv => whnf) | (refine ACall.of_spec (Named_spec l[sr.toNat] na (by have := hst.al; omega) (by have := hst.na; omega) (fun x hx => by have := hst.ass x hx; omega)) rfl fun r hr => ?_; subst hr; conv => whnf) | refine ACode.seq ?_ | (refine ACode.s_reg tys_ok ?_; conv => whnf) | refine ACode.s_block ?_ | refine ACode.s_scope ?_ | (refine ACode.s_cond ?_; conv => whnf) | (refine ACode.s_exit ?_; conv => whnf) | (refine ACode.s_ret ?_; conv => whnf) | (refine ACode.s_skip ?_; conv => whnf) | (refine ACode.s_label ?_; conv => whnf))
  · rename_i h5
    refine ⟨8, ?_⟩
    conv => whnf
    rw [make_err (mk_erri (by simp) h1 h2 h3 (e := 4) (by unfold editS; simp [h5]))]
    rfl
  · rename_i h5
    refine ACode.drawO [0, 1, 2, 4, 5, 6, 3, 7, 8, 9] [6] [3, 7, 9] [4, 5, 6] tys_ok (by kernel_rfl) (by kernel_rfl) ?_
    conv => whnf
    have hal := hst.al
    refine ⟨rfl, ?_⟩
    conv => whnf
    refine ⟨⟨rfl, rfl⟩, ?_⟩
    conv => whnf
    refine ⟨rfl, ?_⟩
    conv => whnf
    refine ⟨⟨rfl, rfl⟩, ?_⟩
    conv => whnf
    refine ⟨rfl, ?_⟩
    conv => whnf
    refine ⟨⟨rfl, rfl⟩, ?_⟩
    conv => whnf
    refine ⟨⟨rfl, by simp; omega⟩, ?_⟩
    conv => whnf
    refine ⟨⟨rfl, by simp; omega⟩, ?_⟩
    conv => whnf
    refine ACode.freeze 3 ?_
    conv => whnf
    refine ⟨strs_snoc_closed _ _, ?_⟩
    conv => whnf
    repeat (refine ⟨(by first | rfl | (simp; done) : (_ : Nat) = _), ?_⟩; conv => whnf)
    repeat (first | refine ACode.seq ?_ | (refine ACode.s_reg tys_ok ?_; conv => whnf) | refine ACode.s_block ?_ | refine ACode.s_scope ?_ | (refine ACode.s_cond ?_; conv => whnf) | (refine ACode.s_exit ?_; conv => whnf) | (refine ACode.s_ret ?_; conv => whnf) | (refine ACode.s_skip ?_; conv => whnf) | (refine ACode.s_label ?_; conv => whnf))
    have hm : mkS l ⟨da, 5, sr, co, tw, na, lo, hi, sh⟩ = .ok (l.set sr.toNat { l[sr.toNat] with al := l[sr.toNat].al ++ [na] }, sr.toNat) := mk_edit (by simp) h1 h2 h3 (by unfold editS; simp [h5])
    refine ⟨by simp; omega, ?_⟩
    conv => whnf
    repeat (first | refine ACode.seq ?_ | (refine ACode.s_reg tys_ok ?_; conv => whnf) | refine ACode.s_block ?_ | refine ACode.s_scope ?_ | (refine ACode.s_cond ?_; conv => whnf) | (refine ACode.s_exit ?_; conv => whnf) | (refine ACode.s_ret ?_; conv => whnf) | (refine ACode.s_skip ?_; conv => whnf) | (refine ACode.s_label ?_; conv => whnf))
    refine ⟨_, el_get l _ h2, ?_⟩
    conv => whnf
    repeat (first | refine ACode.seq ?_ | (refine ACode.s_reg tys_ok ?_; conv => whnf) | refine ACode.s_block ?_ | refine ACode.s_scope ?_ | (refine ACode.s_cond ?_; conv => whnf) | (refine ACode.s_exit ?_; conv => whnf) | (refine ACode.s_ret ?_; conv => whnf) | (refine ACode.s_skip ?_; conv => whnf) | (refine ACode.s_label ?_; conv => whnf))
    refine ACall.normR 1 rfl (el_norm l _ _ { l[sr.toNat] with al := l[sr.toNat].al ++ [na] } (by simp [St.v, normR, normC, strs])) ?_
    refine ACall.freeze 1 ?_ (by kernel_rfl)
    conv => whnf
    refine ⟨sts_closed _, ?_⟩
    conv => whnf
    repeat (refine ⟨(by first | rfl | (simp; done) : (_ : Nat) = _), ?_⟩; conv => whnf)
    have hn : sr = (sr.toNat : Int) := by omega
    have spec := clash_spec (l.set sr.toNat { l[sr.toNat] with al := l[sr.toNat].al ++ [na] }) sr.toNat (by simpa using h2) (by simp; omega) (long_mk hu hok hm)
    rw [← hn] at spec
    refine ACall.of_spec (spec) rfl fun r hr => ?_
    subst hr
    conv => whnf
    repeat (first | refine ACode.seq ?_ | (refine ACode.s_reg tys_ok ?_; conv => whnf) | refine ACode.s_block ?_ | refine ACode.s_scope ?_ | (refine ACode.s_cond ?_; conv => whnf) | (refine ACode.s_exit ?_; conv => whnf) | (refine ACode.s_ret ?_; conv => whnf) | (refine ACode.s_skip ?_; conv => whnf) | (refine ACode.s_label ?_; conv => whnf))
    refine ⟨fun h => ?_, fun h => ?_⟩
    · conv => whnf
      repeat (first | refine ACode.seq ?_ | (refine ACode.s_reg tys_ok ?_; conv => whnf) | refine ACode.s_block ?_ | refine ACode.s_scope ?_ | (refine ACode.s_cond ?_; conv => whnf) | (refine ACode.s_exit ?_; conv => whnf) | (refine ACode.s_ret ?_; conv => whnf) | (refine ACode.s_skip ?_; conv => whnf) | (refine ACode.s_label ?_; conv => whnf))
      refine ⟨8, ?_⟩
      conv => whnf
      rw [make_bad hm (by simpa using h)]
      rfl
    · conv => whnf
      repeat (first | refine ACode.seq ?_ | (refine ACode.s_reg tys_ok ?_; conv => whnf) | refine ACode.s_block ?_ | refine ACode.s_scope ?_ | (refine ACode.s_cond ?_; conv => whnf) | (refine ACode.s_exit ?_; conv => whnf) | (refine ACode.s_ret ?_; conv => whnf) | (refine ACode.s_skip ?_; conv => whnf) | (refine ACode.s_label ?_; conv => whnf))
      rw [make_good hm (by simpa using h)]
      rfl
set_option maxRecDepth 100000 in
theorem Make_spec (l : List St) (c : Ch) (hl : l.length ≤ 60) (hok : ∀ s ∈ l, StOK s 60) (hu : usesB c = true) : Ctr Tryd.prog 42 [sts l, c.v] (fun x => x = resM (makeS l c)) := by
  obtain ⟨da, ki, sr, co, tw, na, lo, hi, sh⟩ := c
  rcases kind_cases hu with h | h | h | h | h | h <;> (simp only at h; subst h)
  · exact make1 l da sr co tw na lo hi sh hl hok hu
  · exact make2 l da sr co tw na lo hi sh hl hok hu
  · exact make3 l da sr co tw na lo hi sh hl hok hu
  · exact make4 l da sr co tw na lo hi sh hl hok hu
  · exact make5 l da sr co tw na lo hi sh hl hok hu
  · exact make6 l da sr co tw na lo hi sh hl hok hu
end Go.Proofs.YtkmhjamdgncpoaaDoor
