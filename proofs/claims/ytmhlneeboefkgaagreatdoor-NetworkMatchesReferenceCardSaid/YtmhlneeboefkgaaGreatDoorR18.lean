import Derived.Test.YtmhlneeboefkgaaGreatDoorRd
set_option linter.unusedVariables false
set_option linter.unusedSimpArgs false
namespace Go.Proofs.YtmhlneeboefkgaaGreatDoor
open Go.Av Go.Av.Net Pl
section
variable {ts : List Tok}
theorem strs_step {α : Type} (f : α → Bs) {l : List α} {k : Nat} (h : k < l.length) : strs ((l.take (k + 1)).map f) = strs ((l.take k).map f) ++ [.str (f l[k])] := by
 rw [List.take_succ_eq_append_getElem h, List.map_append]; unfold strs; rw [List.map_append]; rfl
/-- The network while lines are read. -/
def linCs (n : Nw) (k : Nat) : List AV := [.sl 3 (n.cals.map calA), .sl 1 (strs n.names), .sl 1 (n.opers.map operA), .sl 7 (n.offs.map offA), .own 7 6 0 k, nilA]
def linH (n : Nw) (l : List Lin) : List HO := [.dead, .dead, .dead, .dead, .arr 47 6 (l.map linA)]
set_option maxRecDepth 20000 in
theorem offNames_r (n : Nw) (ho : n.offs.length ≤ 4000) :
  HCtr Tryz.prog 62 [.agg (linCs n n.lins.length)] (.dead :: .dead :: .cells (linCs n n.lins.length) :: linH n n.lins)
   (fun v H => v = .sl 1 (strs (n.offs.map (·.name))) ∧ H = .dead :: .dead :: .cells (linCs n n.lins.length) :: linH n n.lins) (fun _ _ => False) := by
 refine HCtr.of_body Tryz.func62 rfl tys_ok (by kernel_rfl) rfl ?_
 conv => whnf
 repeat (first | refine ACode.seq ?_ | (refine ACode.s_reg tys_ok ?_; conv => whnf) | refine ACode.s_block ?_ | refine ACode.s_scope ?_ | (refine ACode.s_cond ?_; conv => whnf) | (refine ACode.s_exit ?_; conv => whnf) | (refine ACode.s_ret ?_; conv => whnf) | (refine ACode.s_skip ?_; conv => whnf) | (refine ACode.s_label ?_; conv => whnf))
 refine ACode.nilArr 3 9 1 rfl ?_
 refine ACode.loopD (fun k : Nat => mk 22 [(1, .ptr 8 0), (3, .own 9 1 0 k), (4, .int .i64 k)]) (fun k => .dead :: .dead :: .cells (linCs n n.lins.length) :: .dead :: .dead :: .dead :: .dead :: .arr 47 6 (n.lins.map linA) :: .cells (linCs n n.lins.length) :: [.arr 9 1 (strs ((n.offs.take k).map (·.name)))]) (fun k => k ≤ n.offs.length) (fun k => n.offs.length - k) (fun k hk => ⟨rfl, ?_⟩) ⟨0, ?_⟩ (fun _ => rfl) fun k hk => ?_
 ·(conv => whnf)
  refine ⟨rfl, ?_⟩
  (conv => whnf)
  refine ⟨closed_map _ (fun _ => rfl) _, ?_⟩
  (conv => whnf)
  refine ⟨rfl, ?_⟩
  (conv => whnf)
  exact ⟨closed_map _ (fun _ => rfl) _, trivial⟩
 ·conv => whnf
  repeat (refine And.intro ?_ ?_; (focus (first | rfl | (simp; done))); conv => whnf)
  exact Nat.zero_le _
 ·repeat (first | refine ACode.seq ?_ | (refine ACode.s_reg tys_ok ?_; conv => whnf) | refine ACode.s_block ?_ | refine ACode.s_scope ?_ | (refine ACode.s_cond ?_; conv => whnf) | (refine ACode.s_exit ?_; conv => whnf) | (refine ACode.s_ret ?_; conv => whnf) | (refine ACode.s_skip ?_; conv => whnf) | (refine ACode.s_label ?_; conv => whnf))
  refine ⟨fun hlt => ?_, fun hge => ?_⟩
  ·have hlt : k < n.offs.length := by simpa using hlt
   repeat (first | refine ACode.seq ?_ | (refine ACode.s_reg tys_ok ?_; conv => whnf) | refine ACode.s_block ?_ | refine ACode.s_scope ?_ | (refine ACode.s_cond ?_; conv => whnf) | (refine ACode.s_exit ?_; conv => whnf) | (refine ACode.s_ret ?_; conv => whnf) | (refine ACode.s_skip ?_; conv => whnf) | (refine ACode.s_label ?_; conv => whnf))
   refine ⟨by omega, offA n.offs[k], by simp [hlt], ?_⟩
   conv => whnf
   repeat (first | refine ACode.seq ?_ | (refine ACode.s_reg tys_ok ?_; conv => whnf) | refine ACode.s_block ?_ | refine ACode.s_scope ?_ | (refine ACode.s_cond ?_; conv => whnf) | (refine ACode.s_exit ?_; conv => whnf) | (refine ACode.s_ret ?_; conv => whnf) | (refine ACode.s_skip ?_; conv => whnf) | (refine ACode.s_label ?_; conv => whnf))
   refine ⟨rfl, ?_⟩
   conv => whnf
   refine ⟨⟨by simp [strs]; omega, by simp [strs]; omega⟩, ?_⟩
   conv => whnf
   repeat (first | refine ACode.seq ?_ | (refine ACode.s_reg tys_ok ?_; conv => whnf) | refine ACode.s_block ?_ | refine ACode.s_scope ?_ | (refine ACode.s_cond ?_; conv => whnf) | (refine ACode.s_exit ?_; conv => whnf) | (refine ACode.s_ret ?_; conv => whnf) | (refine ACode.s_skip ?_; conv => whnf) | (refine ACode.s_label ?_; conv => whnf))
   refine ⟨k + 1, ?_⟩
   conv => whnf
   repeat (refine And.intro ?_ ?_; (focus (first | rfl | (simp; done) | ((first | (rw [Wr64 _ (by omega) (by omega)]; omega) | (rw [strs_step (fun o : Off => o.name) hlt]) | (simp [strs]; omega)); done))); conv => whnf)
   exact ⟨by omega, by omega⟩
  ·have hge : k = n.offs.length := by simp at hge; omega
   subst hge
   repeat (first | refine ACode.seq ?_ | (refine ACode.s_reg tys_ok ?_; conv => whnf) | refine ACode.s_block ?_ | refine ACode.s_scope ?_ | (refine ACode.s_cond ?_; conv => whnf) | (refine ACode.s_exit ?_; conv => whnf) | (refine ACode.s_ret ?_; conv => whnf) | (refine ACode.s_skip ?_; conv => whnf) | (refine ACode.s_label ?_; conv => whnf))
   refine ⟨⟨by simp [strs], closed_map _ (fun _ => rfl) _⟩, ?_⟩
   conv => whnf
   refine ⟨closed_map _ (fun _ => rfl) _, ?_⟩
   (conv => whnf)
   rw [List.take_length]
   exact ⟨rfl, rfl⟩
/-- The network while offices are read. -/
def offCs (n : Nw) (k : Nat) : List AV := [.sl 3 (n.cals.map calA), .sl 1 (strs n.names), .sl 1 (n.opers.map operA), .own 6 7 0 k, nilA, nilA]
def offH (n : Nw) (l : List Off) : List HO := [.dead, .dead, .dead, .arr 45 7 (l.map offA)]
set_option maxRecDepth 20000 in
theorem operNames_r (n : Nw) (ho : n.opers.length ≤ 4000) :
  HCtr Tryz.prog 59 [.agg (offCs n n.offs.length)] (.dead :: .dead :: .cells (offCs n n.offs.length) :: offH n n.offs)
   (fun v H => v = .sl 1 (strs n.opers) ∧ H = .dead :: .dead :: .cells (offCs n n.offs.length) :: offH n n.offs) (fun _ _ => False) := by
 refine HCtr.of_body Tryz.func59 rfl tys_ok (by kernel_rfl) rfl ?_
 conv => whnf
 repeat (first | refine ACode.seq ?_ | (refine ACode.s_reg tys_ok ?_; conv => whnf) | refine ACode.s_block ?_ | refine ACode.s_scope ?_ | (refine ACode.s_cond ?_; conv => whnf) | (refine ACode.s_exit ?_; conv => whnf) | (refine ACode.s_ret ?_; conv => whnf) | (refine ACode.s_skip ?_; conv => whnf) | (refine ACode.s_label ?_; conv => whnf))
 refine ACode.nilArr 3 9 1 rfl ?_
 refine ACode.loopD (fun k : Nat => mk 22 [(1, .ptr 7 0), (3, .own 8 1 0 k), (4, .int .i64 k)]) (fun k => .dead :: .dead :: .cells (offCs n n.offs.length) :: .dead :: .dead :: .dead :: .arr 45 7 (n.offs.map offA) :: .cells (offCs n n.offs.length) :: [.arr 9 1 (strs ((n.opers.take k).map fun o => o))]) (fun k => k ≤ n.opers.length) (fun k => n.opers.length - k) (fun k hk => ⟨rfl, ?_⟩) ⟨0, ?_⟩ (fun _ => rfl) fun k hk => ?_
 ·(conv => whnf)
  refine ⟨rfl, ?_⟩
  (conv => whnf)
  refine ⟨closed_map _ (fun _ => rfl) _, ?_⟩
  (conv => whnf)
  refine ⟨rfl, ?_⟩
  (conv => whnf)
  exact ⟨closed_map _ (fun _ => rfl) _, trivial⟩
 ·conv => whnf
  repeat (refine And.intro ?_ ?_; (focus (first | rfl | (simp; done))); conv => whnf)
  exact Nat.zero_le _
 ·repeat (first | refine ACode.seq ?_ | (refine ACode.s_reg tys_ok ?_; conv => whnf) | refine ACode.s_block ?_ | refine ACode.s_scope ?_ | (refine ACode.s_cond ?_; conv => whnf) | (refine ACode.s_exit ?_; conv => whnf) | (refine ACode.s_ret ?_; conv => whnf) | (refine ACode.s_skip ?_; conv => whnf) | (refine ACode.s_label ?_; conv => whnf))
  refine ⟨fun hlt => ?_, fun hge => ?_⟩
  ·have hlt : k < n.opers.length := by simpa using hlt
   repeat (first | refine ACode.seq ?_ | (refine ACode.s_reg tys_ok ?_; conv => whnf) | refine ACode.s_block ?_ | refine ACode.s_scope ?_ | (refine ACode.s_cond ?_; conv => whnf) | (refine ACode.s_exit ?_; conv => whnf) | (refine ACode.s_ret ?_; conv => whnf) | (refine ACode.s_skip ?_; conv => whnf) | (refine ACode.s_label ?_; conv => whnf))
   refine ⟨by omega, operA n.opers[k], by simp [hlt], ?_⟩
   conv => whnf
   repeat (first | refine ACode.seq ?_ | (refine ACode.s_reg tys_ok ?_; conv => whnf) | refine ACode.s_block ?_ | refine ACode.s_scope ?_ | (refine ACode.s_cond ?_; conv => whnf) | (refine ACode.s_exit ?_; conv => whnf) | (refine ACode.s_ret ?_; conv => whnf) | (refine ACode.s_skip ?_; conv => whnf) | (refine ACode.s_label ?_; conv => whnf))
   refine ⟨rfl, ?_⟩
   conv => whnf
   refine ⟨⟨by simp [strs]; omega, by simp [strs]; omega⟩, ?_⟩
   conv => whnf
   repeat (first | refine ACode.seq ?_ | (refine ACode.s_reg tys_ok ?_; conv => whnf) | refine ACode.s_block ?_ | refine ACode.s_scope ?_ | (refine ACode.s_cond ?_; conv => whnf) | (refine ACode.s_exit ?_; conv => whnf) | (refine ACode.s_ret ?_; conv => whnf) | (refine ACode.s_skip ?_; conv => whnf) | (refine ACode.s_label ?_; conv => whnf))
   refine ⟨k + 1, ?_⟩
   conv => whnf
   repeat (refine And.intro ?_ ?_; (focus (first | rfl | (simp; done) | ((first | (rw [Wr64 _ (by omega) (by omega)]; omega) | (rw [strs_step (fun o : Bs => o) hlt]) | (simp [strs]; omega)); done))); conv => whnf)
   exact ⟨by omega, by omega⟩
  ·have hge : k = n.opers.length := by simp at hge; omega
   subst hge
   repeat (first | refine ACode.seq ?_ | (refine ACode.s_reg tys_ok ?_; conv => whnf) | refine ACode.s_block ?_ | refine ACode.s_scope ?_ | (refine ACode.s_cond ?_; conv => whnf) | (refine ACode.s_exit ?_; conv => whnf) | (refine ACode.s_ret ?_; conv => whnf) | (refine ACode.s_skip ?_; conv => whnf) | (refine ACode.s_label ?_; conv => whnf))
   refine ⟨⟨by simp [strs], closed_map _ (fun _ => rfl) _⟩, ?_⟩
   conv => whnf
   refine ⟨closed_map _ (fun _ => rfl) _, ?_⟩
   (conv => whnf)
   rw [List.take_length, List.map_id']
   exact ⟨rfl, rfl⟩
end
end Go.Proofs.YtmhlneeboefkgaaGreatDoor
