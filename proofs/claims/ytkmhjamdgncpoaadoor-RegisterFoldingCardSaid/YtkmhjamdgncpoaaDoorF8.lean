/-
  clashes.
-/
import Derived.Test.YtkmhjamdgncpoaaDoorF6
import Derived.Test.YtkmhjamdgncpoaaDoorAv60
set_option linter.unusedVariables false
set_option linter.unusedSimpArgs false
namespace Go.Proofs.YtkmhjamdgncpoaaDoor
open Go.Av Go.Shelf Pl Go.RowKit
def stC (s : St) : List AV := [.str s.co, .str s.to, .str s.na, .sl 1 (strs s.al), .int .i64 s.lo, .int .i64 s.hi, .int .i64 s.sh, .bool s.op]
theorem hit_spec (s : St) (t : Bs) (hs : s.al.length ≤ 1000) (hsn : s.na.length ≤ 1000) (hsa : ∀ x ∈ s.al, x.length ≤ 1000) : Ctr Tryd.prog 52 [.str t, .at_ (stC s)] (fun r => r = .bool (namedS s t)) := by
  refine Ctr.of_body Tryd.func52 rfl tys_ok (by kernel_rfl) ?_
  conv => whnf
  repeat (first | refine ACode.seq ?_ | (refine ACode.s_reg tys_ok ?_; conv => whnf) | refine ACode.s_block ?_ | refine ACode.s_scope ?_ | (refine ACode.s_cond ?_; conv => whnf) | (refine ACode.s_exit ?_; conv => whnf) | (refine ACode.s_ret ?_; conv => whnf) | (refine ACode.s_skip ?_; conv => whnf) | (refine ACode.s_label ?_; conv => whnf))
  refine ACall.of_spec (hasName_spec s t hs hsn hsa) rfl fun r hr => ?_
  subst hr
  conv => whnf
  repeat (first | refine ACode.seq ?_ | (refine ACode.s_reg tys_ok ?_; conv => whnf) | refine ACode.s_block ?_ | refine ACode.s_scope ?_ | (refine ACode.s_cond ?_; conv => whnf) | (refine ACode.s_exit ?_; conv => whnf) | (refine ACode.s_ret ?_; conv => whnf) | (refine ACode.s_skip ?_; conv => whnf) | (refine ACode.s_label ?_; conv => whnf))
theorem any_step {f : Nat → Bool} {k : Nat} (h : (List.range k).any f = false) (hk : f k = false) : (List.range (k + 1)).any f = false := by
  rw [List.range_succ, List.any_append, h]
  simp [hk]
theorem hit_at {l : List St} {n k : Nat} (hn : n < l.length) (hk : k < l.length) : hitAt l n l[n] k = (decide (k ≠ n) && hitS l[n] l[k]) := by
  unfold hitAt
  rw [List.getElem?_eq_getElem hk]
theorem clash_eq {l : List St} {n : Nat} (hn : n < l.length) : clashS l n = (List.range l.length).any (hitAt l n l[n]) := by
  unfold clashS
  rw [List.getElem?_eq_getElem hn]
set_option maxRecDepth 100000 in
theorem clashes_spec (l : List St) (n : Nat) (hn : n < l.length) (hl : l.length ≤ 1000) (hb : ∀ s ∈ l, s.al.length ≤ 1000 ∧ s.na.length ≤ 1000 ∧ ∀ x ∈ s.al, x.length ≤ 1000) :
    Ctr Tryd.prog 35 [.at_ [sts l], .int .i64 n] (fun r => r = .bool (clashS l n)) := by
  refine Ctr.of_body Tryd.func35 rfl tys_ok (by kernel_rfl) ?_
  conv => whnf
  repeat (first | refine ACode.seq ?_ | (refine ACode.s_reg tys_ok ?_; conv => whnf) | refine ACode.s_block ?_ | refine ACode.s_scope ?_ | (refine ACode.s_cond ?_; conv => whnf) | (refine ACode.s_exit ?_; conv => whnf) | (refine ACode.s_ret ?_; conv => whnf) | (refine ACode.s_skip ?_; conv => whnf) | (refine ACode.s_label ?_; conv => whnf))
  refine ⟨by omega, (l[n]).v, by simp [hn], ?_⟩
  conv => whnf
  conv => whnf
  repeat (first | refine ACode.seq ?_ | (refine ACode.s_reg tys_ok ?_; conv => whnf) | refine ACode.s_block ?_ | refine ACode.s_scope ?_ | (refine ACode.s_cond ?_; conv => whnf) | (refine ACode.s_exit ?_; conv => whnf) | (refine ACode.s_ret ?_; conv => whnf) | (refine ACode.s_skip ?_; conv => whnf) | (refine ACode.s_label ?_; conv => whnf))
  obtain ⟨b1, b2, b3⟩ := hb l[n] (List.getElem_mem hn)
  refine ACode.loopD (fun k : Nat => mk 70 [(0, .at_ [sts l]), (1, .int .i64 n), (5, .ptr 0 0), (18, sts l), (19, .int .i64 l.length), (20, .int .i64 k)]) (fun k => [.cells (stC l[n])]) (fun k => k ≤ l.length ∧ (List.range k).any (hitAt l n l[n]) = false) (fun k => l.length - k) (fun _ _ => ⟨rfl, rfl, trivial⟩) ⟨0, ?_⟩ (fun _ => rfl) fun k hk => ?_
  · conv => whnf
    repeat (refine And.intro ?_ ?_; (focus (first | rfl | (simp; done) | (simp; done))); conv => whnf)
    rfl
  · obtain ⟨hk, ha⟩ := hk
    have hw1 : Wr .i64 ((k : Int) + 1) = ((k + 1 : Nat) : Int) := by rw [Wr64 _ (by omega) (by omega)]; rfl
    repeat (first | refine ACode.seq ?_ | (refine ACode.s_reg tys_ok ?_; conv => whnf) | refine ACode.s_block ?_ | refine ACode.s_scope ?_ | (refine ACode.s_cond ?_; conv => whnf) | (refine ACode.s_exit ?_; conv => whnf) | (refine ACode.s_ret ?_; conv => whnf) | (refine ACode.s_skip ?_; conv => whnf) | (refine ACode.s_label ?_; conv => whnf))
    refine ⟨fun h => ?_, fun h => ?_⟩
    · have h : k < l.length := by simpa using h
      repeat (first | refine ACode.seq ?_ | (refine ACode.s_reg tys_ok ?_; conv => whnf) | refine ACode.s_block ?_ | refine ACode.s_scope ?_ | (refine ACode.s_cond ?_; conv => whnf) | (refine ACode.s_exit ?_; conv => whnf) | (refine ACode.s_ret ?_; conv => whnf) | (refine ACode.s_skip ?_; conv => whnf) | (refine ACode.s_label ?_; conv => whnf))
      refine ⟨by omega, (l[k]).v, by simp [h], ?_⟩
      conv => whnf
      repeat (first | refine ACode.seq ?_ | (refine ACode.s_reg tys_ok ?_; conv => whnf) | refine ACode.s_block ?_ | refine ACode.s_scope ?_ | (refine ACode.s_cond ?_; conv => whnf) | (refine ACode.s_exit ?_; conv => whnf) | (refine ACode.s_ret ?_; conv => whnf) | (refine ACode.s_skip ?_; conv => whnf) | (refine ACode.s_label ?_; conv => whnf))
      repeat' (first | (refine And.intro (fun _ => ?_) (fun _ => ?_) <;> conv => whnf) | refine ACode.seq ?_ | (refine ACode.s_reg tys_ok ?_; conv => whnf) | refine ACode.s_block ?_ | refine ACode.s_scope ?_ | (refine ACode.s_cond ?_; conv => whnf) | (refine ACode.s_exit ?_; conv => whnf) | (refine ACode.s_ret ?_; conv => whnf) | (refine ACode.s_skip ?_; conv => whnf) | (refine ACode.s_label ?_; conv => whnf))
      · refine ⟨k + 1, ?_⟩
        conv => whnf
        repeat (refine And.intro ?_ ?_; (focus (first | rfl | (simp; done) | (exact hw1; done))); conv => whnf)
        exact ⟨⟨by omega, any_step ha (by rw [hit_at hn h]; unfold hitS; simp_all <;> omega)⟩, by omega⟩
      · rename_i h1 h2 h3 h4 h5 h6
        have hit : ∀ b, (namedS l[n] l[k].na || l[k].al.any (namedS l[n])) = b → hitAt l n l[n] k = b := fun b hb => by
          have q1 : k ≠ n := fun e => by subst e; simp at h1
          have q2 : l[n].op = true := by simpa using h2
          have q3 : l[k].op = true := by simpa using h3
          have q4 : l[n].co = l[k].co := by simpa using h4
          have q5 : l[n].lo ≤ l[k].hi := by simp at h5; omega
          have q6 : l[k].lo ≤ l[n].hi := by simp at h6; omega
          rw [hit_at hn h]
          unfold hitS
          rw [hb, decide_eq_true q1, q2, q3, decide_eq_true q4, decide_eq_true q5, decide_eq_true q6]
          rfl
        have yes : (namedS l[n] l[k].na || l[k].al.any (namedS l[n])) = true → clashS l n = true := fun e => by
          rw [clash_eq hn]
          exact List.any_eq_true.2 ⟨k, List.mem_range.2 h, hit true e⟩
        obtain ⟨c1, c2, c3⟩ := hb l[k] (List.getElem_mem h)
        refine ACall.of_spec (hasName_spec l[n] l[k].na b1 b2 b3) rfl fun r hr => ?_
        subst hr
        conv => whnf
        repeat (first | refine ACode.seq ?_ | (refine ACode.s_reg tys_ok ?_; conv => whnf) | refine ACode.s_block ?_ | refine ACode.s_scope ?_ | (refine ACode.s_cond ?_; conv => whnf) | (refine ACode.s_exit ?_; conv => whnf) | (refine ACode.s_ret ?_; conv => whnf) | (refine ACode.s_skip ?_; conv => whnf) | (refine ACode.s_label ?_; conv => whnf))
        refine ⟨fun h7 => ?_, fun h7 => ?_⟩
        · conv => whnf
          repeat (first | refine ACode.seq ?_ | (refine ACode.s_reg tys_ok ?_; conv => whnf) | refine ACode.s_block ?_ | refine ACode.s_scope ?_ | (refine ACode.s_cond ?_; conv => whnf) | (refine ACode.s_exit ?_; conv => whnf) | (refine ACode.s_ret ?_; conv => whnf) | (refine ACode.s_skip ?_; conv => whnf) | (refine ACode.s_label ?_; conv => whnf))
          refine ACall.of_look (as' := [.sl 1 (strs l[k].al), .fn 52 [.at_ (stC l[n])]]) ⟨vx_c rfl, vx_f ⟨vv_p rfl (viewCs_closed _ rfl), trivial⟩, trivial⟩ (containsFunc_spec l[k].al _ _ (namedS l[n]) (by omega) rfl rfl fun x hx => hit_spec l[n] x b1 b2 b3) rfl ?_
          conv => whnf
          repeat (first | refine ACode.seq ?_ | (refine ACode.s_reg tys_ok ?_; conv => whnf) | refine ACode.s_block ?_ | refine ACode.s_scope ?_ | (refine ACode.s_cond ?_; conv => whnf) | (refine ACode.s_exit ?_; conv => whnf) | (refine ACode.s_ret ?_; conv => whnf) | (refine ACode.s_skip ?_; conv => whnf) | (refine ACode.s_label ?_; conv => whnf))
          refine ⟨fun h8 => ?_, fun h8 => ?_⟩
          · conv => whnf
            repeat (first | refine ACode.seq ?_ | (refine ACode.s_reg tys_ok ?_; conv => whnf) | refine ACode.s_block ?_ | refine ACode.s_scope ?_ | (refine ACode.s_cond ?_; conv => whnf) | (refine ACode.s_exit ?_; conv => whnf) | (refine ACode.s_ret ?_; conv => whnf) | (refine ACode.s_skip ?_; conv => whnf) | (refine ACode.s_label ?_; conv => whnf))
            rw [yes (by rw [h7, h8]; rfl)]
          · conv => whnf
            repeat (first | refine ACode.seq ?_ | (refine ACode.s_reg tys_ok ?_; conv => whnf) | refine ACode.s_block ?_ | refine ACode.s_scope ?_ | (refine ACode.s_cond ?_; conv => whnf) | (refine ACode.s_exit ?_; conv => whnf) | (refine ACode.s_ret ?_; conv => whnf) | (refine ACode.s_skip ?_; conv => whnf) | (refine ACode.s_label ?_; conv => whnf))
            refine ⟨k + 1, ?_⟩
            conv => whnf
            repeat (refine And.intro ?_ ?_; (focus (first | rfl | (simp; done) | (exact hw1; done))); conv => whnf)
            exact ⟨⟨by omega, any_step ha (hit false (by rw [h7, h8]; rfl))⟩, by omega⟩
        · conv => whnf
          repeat (first | refine ACode.seq ?_ | (refine ACode.s_reg tys_ok ?_; conv => whnf) | refine ACode.s_block ?_ | refine ACode.s_scope ?_ | (refine ACode.s_cond ?_; conv => whnf) | (refine ACode.s_exit ?_; conv => whnf) | (refine ACode.s_ret ?_; conv => whnf) | (refine ACode.s_skip ?_; conv => whnf) | (refine ACode.s_label ?_; conv => whnf))
          rw [yes (by rw [h7]; rfl)]
      all_goals first
        | (refine ⟨k + 1, ?_⟩
           conv => whnf
           repeat (refine And.intro ?_ ?_; (focus (first | rfl | (simp; done) | (exact hw1; done))); conv => whnf)
           exact ⟨⟨by omega, any_step ha (by rw [hit_at hn h]; unfold hitS; simp_all <;> omega)⟩, by omega⟩)
    · have h : k = l.length := by simp at h; omega
      repeat (first | refine ACode.seq ?_ | (refine ACode.s_reg tys_ok ?_; conv => whnf) | refine ACode.s_block ?_ | refine ACode.s_scope ?_ | (refine ACode.s_cond ?_; conv => whnf) | (refine ACode.s_exit ?_; conv => whnf) | (refine ACode.s_ret ?_; conv => whnf) | (refine ACode.s_skip ?_; conv => whnf) | (refine ACode.s_label ?_; conv => whnf))
      rw [clash_eq hn, ← h, ha]
end Go.Proofs.YtkmhjamdgncpoaaDoor
