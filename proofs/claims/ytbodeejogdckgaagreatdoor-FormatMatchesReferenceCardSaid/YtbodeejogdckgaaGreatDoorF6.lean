/-
  The search's methods: keep, the readings of the parts.
-/
import Derived.Test.YtbodeejogdckgaaGreatDoorF5
import Derived.Test.YtbodeejogdckgaaGreatDoorP4
set_option linter.unusedVariables false
set_option linter.unusedSimpArgs false
namespace Go.Proofs.YtbodeejogdckgaaGreatDoor
open Go.Av Go.Shelf Pl
abbrev sCells (a : Ad) (n : Nat) : List AV := [.str a.pe, .str a.st, .str a.co, .str a.to, .int .i64 a.nu, .own 7 5 0 n]
abbrev HS (a : Ad) (es : List Ad) : List HO := [.dead, .dead, .dead, .cells (sCells a es.length), .dead, .dead, .dead, .arr 27 5 (es.map Ad.v)]
theorem ads_closed (es : List Ad) : ∀ x ∈ es.map Ad.v, closed x = true := by
  intro x hx
  obtain ⟨y, _, rfl⟩ := List.mem_map.1 hx
  rfl
set_option maxRecDepth 100000 in
theorem keep_spec (a : Ad) (es : List Ad) (hl : es.length ≤ 1000) : HCtr Tryz.prog 33 [.ptr 3 0] (HS a es) (fun r H => r = .tuple [] ∧ H = HS a (es ++ [a])) (fun _ _ => False) := by
  refine HCtr.of_body Tryz.func33 rfl tys_ok (by kernel_rfl) rfl ?_
  conv => whnf
  repeat (first | refine ACode.seq ?_ | (refine ACode.s_reg tys_ok ?_; conv => whnf) | refine ACode.s_block ?_ | refine ACode.s_scope ?_ | (refine ACode.s_cond ?_; conv => whnf) | (refine ACode.s_exit ?_; conv => whnf) | (refine ACode.s_ret ?_; conv => whnf) | (refine ACode.s_skip ?_; conv => whnf) | (refine ACode.s_label ?_; conv => whnf))
  refine ACode.drawI [31] [32, 35] tys_ok (by kernel_rfl) (by kernel_rfl) ?_
  conv => whnf
  refine ⟨⟨by simp, by simp; omega⟩, ?_⟩
  conv => whnf
  repeat (first | refine ACode.seq ?_ | (refine ACode.s_reg tys_ok ?_; conv => whnf) | refine ACode.s_block ?_ | refine ACode.s_scope ?_ | (refine ACode.s_cond ?_; conv => whnf) | (refine ACode.s_exit ?_; conv => whnf) | (refine ACode.s_ret ?_; conv => whnf) | (refine ACode.s_skip ?_; conv => whnf) | (refine ACode.s_label ?_; conv => whnf))
  have e : es.map Ad.v ++ [AV.agg [.str a.pe, .str a.st, .int .i64 a.nu, .str a.co, .str a.to]] = (es ++ [a]).map Ad.v := by rw [List.map_append]; rfl
  rw [e]
  have e2 : ((es ++ [a]).map Ad.v).length = (es ++ [a]).length := List.length_map ..
  rw [e2]
  refine ⟨ads_closed _, ?_⟩
  conv => whnf
  exact ⟨rfl, rfl⟩
set_option maxRecDepth 100000 in
theorem read1_spec (a : Ad) (es : List Ad) (p : Pt) (w : Bs) (hw : w.length ≤ 20) (hwa : ∀ c ∈ w, c.toNat < 128) (ht : p.t.length ≤ 20) (hta : ∀ c ∈ p.t, c.toNat < 128) : HCtr Tryz.prog 52 [.ptr 3 0, .str p.t, strsA [w]] (HS a es) (fun r H => r = .bool (decide (lowB w = lowB p.t)) ∧ H = HS a es) (fun _ _ => False) := by
  refine HCtr.of_body Tryz.func52 rfl tys_ok (by kernel_rfl) rfl ?_
  conv => whnf
  repeat (first | refine ACode.seq ?_ | (refine ACode.s_reg tys_ok ?_; conv => whnf) | refine ACode.s_block ?_ | refine ACode.s_scope ?_ | (refine ACode.s_cond ?_; conv => whnf) | (refine ACode.s_exit ?_; conv => whnf) | (refine ACode.s_ret ?_; conv => whnf) | (refine ACode.s_skip ?_; conv => whnf) | (refine ACode.s_label ?_; conv => whnf))
  refine ⟨by omega, _, rfl, ?_⟩
  conv => whnf
  repeat (first | refine ACode.seq ?_ | (refine ACode.s_reg tys_ok ?_; conv => whnf) | refine ACode.s_block ?_ | refine ACode.s_scope ?_ | (refine ACode.s_cond ?_; conv => whnf) | (refine ACode.s_exit ?_; conv => whnf) | (refine ACode.s_ret ?_; conv => whnf) | (refine ACode.s_skip ?_; conv => whnf) | (refine ACode.s_label ?_; conv => whnf))
  refine ACall.of_spec (toLower_spec w (by omega) hwa) rfl fun r hr => ?_
  subst hr
  conv => whnf
  repeat (first | refine ACode.seq ?_ | (refine ACode.s_reg tys_ok ?_; conv => whnf) | refine ACode.s_block ?_ | refine ACode.s_scope ?_ | (refine ACode.s_cond ?_; conv => whnf) | (refine ACode.s_exit ?_; conv => whnf) | (refine ACode.s_ret ?_; conv => whnf) | (refine ACode.s_skip ?_; conv => whnf) | (refine ACode.s_label ?_; conv => whnf))
  refine ACall.of_spec (toLower_spec p.t (by omega) hta) rfl fun r hr => ?_
  subst hr
  conv => whnf
  repeat (first | refine ACode.seq ?_ | (refine ACode.s_reg tys_ok ?_; conv => whnf) | refine ACode.s_block ?_ | refine ACode.s_scope ?_ | (refine ACode.s_cond ?_; conv => whnf) | (refine ACode.s_exit ?_; conv => whnf) | (refine ACode.s_ret ?_; conv => whnf) | (refine ACode.s_skip ?_; conv => whnf) | (refine ACode.s_label ?_; conv => whnf))
  refine ⟨ads_closed _, ?_⟩
  conv => whnf
  refine ⟨congrArg AV.bool ?_, rfl⟩
  rw [Bool.eq_iff_iff]; simp
set_option maxRecDepth 100000 in
theorem read2_spec (a : Ad) (es : List Ad) (p : Pt) (w : Bs) (hw1 : 1 ≤ w.length) (hw : w.length ≤ 20) : HCtr Tryz.prog 54 [.ptr 3 0, .str p.t, strsA [w]] (HS a es) (fun r H => r = .bool (numOK w) ∧ H = HS ⟨a.pe, a.st, if numOK w then valB w else 0, a.co, a.to⟩ es) (fun _ _ => False) := by
  refine HCtr.of_body Tryz.func54 rfl tys_ok (by kernel_rfl) rfl ?_
  conv => whnf
  repeat (first | refine ACode.seq ?_ | (refine ACode.s_reg tys_ok ?_; conv => whnf) | refine ACode.s_block ?_ | refine ACode.s_scope ?_ | (refine ACode.s_cond ?_; conv => whnf) | (refine ACode.s_exit ?_; conv => whnf) | (refine ACode.s_ret ?_; conv => whnf) | (refine ACode.s_skip ?_; conv => whnf) | (refine ACode.s_label ?_; conv => whnf))
  refine ⟨by omega, _, rfl, ?_⟩
  conv => whnf
  repeat (first | refine ACode.seq ?_ | (refine ACode.s_reg tys_ok ?_; conv => whnf) | refine ACode.s_block ?_ | refine ACode.s_scope ?_ | (refine ACode.s_cond ?_; conv => whnf) | (refine ACode.s_exit ?_; conv => whnf) | (refine ACode.s_ret ?_; conv => whnf) | (refine ACode.s_skip ?_; conv => whnf) | (refine ACode.s_label ?_; conv => whnf))
  refine ACall.of_spec (houseNumber_spec w hw1 (by omega)) rfl fun r hr => ?_
  subst hr
  conv => whnf
  repeat (first | refine ACode.seq ?_ | (refine ACode.s_reg tys_ok ?_; conv => whnf) | refine ACode.s_block ?_ | refine ACode.s_scope ?_ | (refine ACode.s_cond ?_; conv => whnf) | (refine ACode.s_exit ?_; conv => whnf) | (refine ACode.s_ret ?_; conv => whnf) | (refine ACode.s_skip ?_; conv => whnf) | (refine ACode.s_label ?_; conv => whnf))
  refine ⟨ads_closed _, ?_⟩
  conv => whnf
  exact ⟨rfl, rfl⟩
set_option maxRecDepth 100000 in
theorem read3_spec (a : Ad) (es : List Ad) (p : Pt) (w : Bs) (hw : w.length ≤ 20) (hwa : ∀ c ∈ w, c.toNat < 128) : HCtr Tryz.prog 56 [.ptr 3 0, .str p.t, strsA [w]] (HS a es) (fun r H => r = .bool (matchB w p.t) ∧ H = HS ⟨a.pe, a.st, a.nu, upB w, a.to⟩ es) (fun _ _ => False) := by
  refine HCtr.of_body Tryz.func56 rfl tys_ok (by kernel_rfl) rfl ?_
  conv => whnf
  repeat (first | refine ACode.seq ?_ | (refine ACode.s_reg tys_ok ?_; conv => whnf) | refine ACode.s_block ?_ | refine ACode.s_scope ?_ | (refine ACode.s_cond ?_; conv => whnf) | (refine ACode.s_exit ?_; conv => whnf) | (refine ACode.s_ret ?_; conv => whnf) | (refine ACode.s_skip ?_; conv => whnf) | (refine ACode.s_label ?_; conv => whnf))
  refine ⟨by omega, _, rfl, ?_⟩
  conv => whnf
  repeat (first | refine ACode.seq ?_ | (refine ACode.s_reg tys_ok ?_; conv => whnf) | refine ACode.s_block ?_ | refine ACode.s_scope ?_ | (refine ACode.s_cond ?_; conv => whnf) | (refine ACode.s_exit ?_; conv => whnf) | (refine ACode.s_ret ?_; conv => whnf) | (refine ACode.s_skip ?_; conv => whnf) | (refine ACode.s_label ?_; conv => whnf))
  refine ACall.of_spec (toUpper_spec w (by omega) hwa) rfl fun r hr => ?_
  subst hr
  conv => whnf
  repeat (first | refine ACode.seq ?_ | (refine ACode.s_reg tys_ok ?_; conv => whnf) | refine ACode.s_block ?_ | refine ACode.s_scope ?_ | (refine ACode.s_cond ?_; conv => whnf) | (refine ACode.s_exit ?_; conv => whnf) | (refine ACode.s_ret ?_; conv => whnf) | (refine ACode.s_skip ?_; conv => whnf) | (refine ACode.s_label ?_; conv => whnf))
  refine ⟨by omega, _, rfl, ?_⟩
  conv => whnf
  repeat (first | refine ACode.seq ?_ | (refine ACode.s_reg tys_ok ?_; conv => whnf) | refine ACode.s_block ?_ | refine ACode.s_scope ?_ | (refine ACode.s_cond ?_; conv => whnf) | (refine ACode.s_exit ?_; conv => whnf) | (refine ACode.s_ret ?_; conv => whnf) | (refine ACode.s_skip ?_; conv => whnf) | (refine ACode.s_label ?_; conv => whnf))
  refine ACall.of_spec (matches_spec w p.t (by omega)) rfl fun r hr => ?_
  subst hr
  conv => whnf
  repeat (first | refine ACode.seq ?_ | (refine ACode.s_reg tys_ok ?_; conv => whnf) | refine ACode.s_block ?_ | refine ACode.s_scope ?_ | (refine ACode.s_cond ?_; conv => whnf) | (refine ACode.s_exit ?_; conv => whnf) | (refine ACode.s_ret ?_; conv => whnf) | (refine ACode.s_skip ?_; conv => whnf) | (refine ACode.s_label ?_; conv => whnf))
  refine ⟨ads_closed _, ?_⟩
  conv => whnf
  exact ⟨rfl, rfl⟩
set_option maxRecDepth 100000 in
theorem read4_spec (a : Ad) (es : List Ad) (p : Pt) (l : List Bs) (hl : l.length ≤ 1000) (hj : (Lib.join l [32]).length ≤ 100000) : HCtr Tryz.prog 59 [.ptr 3 0, .str p.t, strsA l] (HS a es) (fun r H => r = .lit true ∧ H = HS ⟨a.pe, Lib.join l [32], a.nu, a.co, a.to⟩ es) (fun _ _ => False) := by
  refine HCtr.of_body Tryz.func59 rfl tys_ok (by kernel_rfl) rfl ?_
  conv => whnf
  repeat (first | refine ACode.seq ?_ | (refine ACode.s_reg tys_ok ?_; conv => whnf) | refine ACode.s_block ?_ | refine ACode.s_scope ?_ | (refine ACode.s_cond ?_; conv => whnf) | (refine ACode.s_exit ?_; conv => whnf) | (refine ACode.s_ret ?_; conv => whnf) | (refine ACode.s_skip ?_; conv => whnf) | (refine ACode.s_label ?_; conv => whnf))
  refine ACall.of_spec (join_spec l (by omega) (by omega)) rfl fun r hr => ?_
  subst hr
  conv => whnf
  repeat (first | refine ACode.seq ?_ | (refine ACode.s_reg tys_ok ?_; conv => whnf) | refine ACode.s_block ?_ | refine ACode.s_scope ?_ | (refine ACode.s_cond ?_; conv => whnf) | (refine ACode.s_exit ?_; conv => whnf) | (refine ACode.s_ret ?_; conv => whnf) | (refine ACode.s_skip ?_; conv => whnf) | (refine ACode.s_label ?_; conv => whnf))
  refine ⟨ads_closed _, ?_⟩
  conv => whnf
  exact ⟨rfl, rfl⟩
set_option maxRecDepth 100000 in
theorem read5_spec (a : Ad) (es : List Ad) (p : Pt) (l : List Bs) (hl : l.length ≤ 1000) (hj : (Lib.join l [32]).length ≤ 100000) : HCtr Tryz.prog 60 [.ptr 3 0, .str p.t, strsA l] (HS a es) (fun r H => r = .lit true ∧ H = HS ⟨a.pe, a.st, a.nu, a.co, Lib.join l [32]⟩ es) (fun _ _ => False) := by
  refine HCtr.of_body Tryz.func60 rfl tys_ok (by kernel_rfl) rfl ?_
  conv => whnf
  repeat (first | refine ACode.seq ?_ | (refine ACode.s_reg tys_ok ?_; conv => whnf) | refine ACode.s_block ?_ | refine ACode.s_scope ?_ | (refine ACode.s_cond ?_; conv => whnf) | (refine ACode.s_exit ?_; conv => whnf) | (refine ACode.s_ret ?_; conv => whnf) | (refine ACode.s_skip ?_; conv => whnf) | (refine ACode.s_label ?_; conv => whnf))
  refine ACall.of_spec (join_spec l (by omega) (by omega)) rfl fun r hr => ?_
  subst hr
  conv => whnf
  repeat (first | refine ACode.seq ?_ | (refine ACode.s_reg tys_ok ?_; conv => whnf) | refine ACode.s_block ?_ | refine ACode.s_scope ?_ | (refine ACode.s_cond ?_; conv => whnf) | (refine ACode.s_exit ?_; conv => whnf) | (refine ACode.s_ret ?_; conv => whnf) | (refine ACode.s_skip ?_; conv => whnf) | (refine ACode.s_label ?_; conv => whnf))
  refine ⟨ads_closed _, ?_⟩
  conv => whnf
  exact ⟨rfl, rfl⟩
set_option maxRecDepth 100000 in
theorem read6_spec (a : Ad) (es : List Ad) (p : Pt) (l : List Bs) (hl : l.length ≤ 1000) (hj : (Lib.join l [32]).length ≤ 100000) : HCtr Tryz.prog 61 [.ptr 3 0, .str p.t, strsA l] (HS a es) (fun r H => r = .lit true ∧ H = HS ⟨Lib.join l [32], a.st, a.nu, a.co, a.to⟩ es) (fun _ _ => False) := by
  refine HCtr.of_body Tryz.func61 rfl tys_ok (by kernel_rfl) rfl ?_
  conv => whnf
  repeat (first | refine ACode.seq ?_ | (refine ACode.s_reg tys_ok ?_; conv => whnf) | refine ACode.s_block ?_ | refine ACode.s_scope ?_ | (refine ACode.s_cond ?_; conv => whnf) | (refine ACode.s_exit ?_; conv => whnf) | (refine ACode.s_ret ?_; conv => whnf) | (refine ACode.s_skip ?_; conv => whnf) | (refine ACode.s_label ?_; conv => whnf))
  refine ACall.of_spec (join_spec l (by omega) (by omega)) rfl fun r hr => ?_
  subst hr
  conv => whnf
  repeat (first | refine ACode.seq ?_ | (refine ACode.s_reg tys_ok ?_; conv => whnf) | refine ACode.s_block ?_ | refine ACode.s_scope ?_ | (refine ACode.s_cond ?_; conv => whnf) | (refine ACode.s_exit ?_; conv => whnf) | (refine ACode.s_ret ?_; conv => whnf) | (refine ACode.s_skip ?_; conv => whnf) | (refine ACode.s_label ?_; conv => whnf))
  refine ⟨ads_closed _, ?_⟩
  conv => whnf
  exact ⟨rfl, rfl⟩
end Go.Proofs.YtbodeejogdckgaaGreatDoor
