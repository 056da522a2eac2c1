/-
  makers; the deferred closure of build.
-/
import Derived.Test.YtkmhjamdgncpoaaDoorF4
set_option linter.unusedVariables false
set_option linter.unusedSimpArgs false
namespace Go.Proofs.YtkmhjamdgncpoaaDoor
open Go.Av Go.Shelf Pl Go.RowKit
def kindsV : AV := .mp [.int .i64 1, .int .i64 2, .int .i64 3, .int .i64 4, .int .i64 5, .int .i64 6]
  [.fn 43 [], .fn 44 [], .fn 45 [],
   .fn 46 [], .fn 48 [], .fn 49 []]
set_option maxRecDepth 100000 in
theorem makers_spec : Ctr Tryd.prog 30 [] (fun r => r = kindsV) := by
  refine Ctr.of_body Tryd.func30 rfl tys_ok (by kernel_rfl) ?_
  conv => whnf
  repeat (first | refine ACode.seq ?_ | (refine ACode.s_reg tys_ok ?_; conv => whnf) | refine ACode.s_block ?_ | refine ACode.s_scope ?_ | (refine ACode.s_cond ?_; conv => whnf) | (refine ACode.s_exit ?_; conv => whnf) | (refine ACode.s_ret ?_; conv => whnf) | (refine ACode.s_skip ?_; conv => whnf) | (refine ACode.s_label ?_; conv => whnf))
  repeat (refine ⟨by intro a ha; (repeat (rcases List.mem_cons.1 ha with rfl | ha; (first | exact rfl | skip))) <;> first | rfl | (cases ha; done), ?_⟩; (conv => whnf))
  repeat (first | refine ACode.seq ?_ | (refine ACode.s_reg tys_ok ?_; conv => whnf) | refine ACode.s_block ?_ | refine ACode.s_scope ?_ | (refine ACode.s_cond ?_; conv => whnf) | (refine ACode.s_exit ?_; conv => whnf) | (refine ACode.s_ret ?_; conv => whnf) | (refine ACode.s_skip ?_; conv => whnf) | (refine ACode.s_label ?_; conv => whnf))
  rfl
abbrev nilA : AV := .raw (.slice none 0 0)
/-- The results of build, where its deferred call finds them. -/
def RH (n : AV) (e p : Int) : List HO := [.dead, .cells [n], .cells [.int .i64 e], .cells [.int .i64 p]]
theorem build1_none (e p : Int) (l : List AV) : DCtr Tryd.prog 29 [.ptr 1 0, .ptr 2 0, .ptr 3 0] (RH (.sl 8 l) e p) none (fun H => H = RH (.sl 8 l) e p) := by
  refine DCtr.of_body Tryd.func29 rfl rfl tys_ok (by kernel_rfl) rfl ?_
  conv => whnf
  refine ⟨⟨by kernel_rfl, rfl⟩, ?_⟩
  conv => whnf
  refine sd_sound tys_ok _ ?_
  conv => whnf
  rfl
set_option maxRecDepth 100000 in
set_option maxHeartbeats 4000000 in
theorem build1_some (e p e' p' : Int) : DCtr Tryd.prog 29 [.ptr 1 0, .ptr 2 0, .ptr 3 0] (RH nilA e p) (some (.iface 66 (.agg [.int .i64 e', .int .i64 p']))) (fun H => H = RH nilA e' p') := by
  refine DCtr.of_body Tryd.func29 rfl rfl tys_ok (by kernel_rfl) rfl ?_
  conv => whnf
  refine ⟨⟨by kernel_rfl, rfl⟩, ?_⟩
  conv => whnf
  refine sd_sound tys_ok _ ?_
  conv => whnf
  refine KCode.drawAll (.one 0 (.one 1 (.one 2 (.one 3 (.one 4 (.one 5 (.one 6 .done .none) .none) .none) (.one 4 (.one 3 (.one 5 (.one 6 .done .none) .none) (.one 5 (.one 3 (.one 6 .done .none) .none) .none)) .none)) (.one 4 (.one 2 (.one 3 (.one 5 (.one 6 .done .none) .none) (.one 5 (.one 3 (.one 6 .done .none) .none) .none)) (.one 5 (.one 2 (.one 3 (.one 6 .done .none) .none) .none) .none)) .none)) (.one 2 (.one 1 (.one 3 (.one 4 (.one 5 (.one 6 .done .none) .none) .none) (.one 4 (.one 3 (.one 5 (.one 6 .done .none) .none) (.one 5 (.one 3 (.one 6 .done .none) .none) .none)) .none)) (.one 3 (.one 1 (.one 4 (.one 5 (.one 6 .done .none) .none) .none) (.one 4 (.one 1 (.one 5 (.one 6 .done .none) .none) .none) .none)) (.one 4 (.one 1 (.one 3 (.one 5 (.one 6 .done .none) .none) (.one 5 (.one 3 (.one 6 .done .none) .none) .none)) (.one 3 (.one 1 (.one 5 (.one 6 .done .none) .none) .none) .none)) .none))) (.one 4 (.one 1 (.one 2 (.one 3 (.one 5 (.one 6 .done .none) .none) (.one 5 (.one 3 (.one 6 .done .none) .none) .none)) (.one 5 (.one 2 (.one 3 (.one 6 .done .none) .none) .none) .none)) (.one 2 (.one 1 (.one 3 (.one 5 (.one 6 .done .none) .none) (.one 5 (.one 3 (.one 6 .done .none) .none) .none)) (.one 3 (.one 1 (.one 5 (.one 6 .done .none) .none) .none) .none)) .none)) .none))) (.one 2 (.one 0 (.one 1 (.one 3 (.one 4 (.one 5 (.one 6 .done .none) .none) .none) (.one 4 (.one 3 (.one 5 (.one 6 .done .none) .none) (.one 5 (.one 3 (.one 6 .done .none) .none) .none)) .none)) (.one 3 (.one 1 (.one 4 (.one 5 (.one 6 .done .none) .none) .none) (.one 4 (.one 1 (.one 5 (.one 6 .done .none) .none) .none) .none)) (.one 4 (.one 1 (.one 3 (.one 5 (.one 6 .done .none) .none) (.one 5 (.one 3 (.one 6 .done .none) .none) .none)) (.one 3 (.one 1 (.one 5 (.one 6 .done .none) .none) .none) .none)) .none))) (.one 3 (.one 0 (.one 1 (.one 4 (.one 5 (.one 6 .done .none) .none) .none) (.one 4 (.one 1 (.one 5 (.one 6 .done .none) .none) .none) .none)) (.one 4 (.one 0 (.one 1 (.one 5 (.one 6 .done .none) .none) .none) .none) .none)) (.one 4 (.one 0 (.one 1 (.one 3 (.one 5 (.one 6 .done .none) .none) (.one 5 (.one 3 (.one 6 .done .none) .none) .none)) (.one 3 (.one 1 (.one 5 (.one 6 .done .none) .none) .none) .none)) (.one 3 (.one 0 (.one 1 (.one 5 (.one 6 .done .none) .none) .none) .none) .none)) .none))) (.one 4 (.one 0 (.one 1 (.one 2 (.one 3 (.one 5 (.one 6 .done .none) .none) (.one 5 (.one 3 (.one 6 .done .none) .none) .none)) (.one 5 (.one 2 (.one 3 (.one 6 .done .none) .none) .none) .none)) (.one 2 (.one 1 (.one 3 (.one 5 (.one 6 .done .none) .none) (.one 5 (.one 3 (.one 6 .done .none) .none) .none)) (.one 3 (.one 1 (.one 5 (.one 6 .done .none) .none) .none) .none)) .none)) (.one 2 (.one 0 (.one 1 (.one 3 (.one 5 (.one 6 .done .none) .none) (.one 5 (.one 3 (.one 6 .done .none) .none) .none)) (.one 3 (.one 1 (.one 5 (.one 6 .done .none) .none) .none) .none)) (.one 3 (.one 0 (.one 1 (.one 5 (.one 6 .done .none) .none) .none) .none) .none)) .none)) .none))) tys_ok (by kernel_rfl) (by kernel_rfl) (by kernel_rfl) ?_
  repeat' (first | exact True.intro | (refine EnF.step ?_; conv => whnf) | (refine And.intro ?_ ?_ <;> conv => whnf))
  all_goals rfl
theorem mergeK_nil (F : List HO) : ∀ (rest : List HO) (K : List HO → Prop), mergeK F [] [] rest K ↔ K (rest.map (scrH F))
  | [], K => by simp [mergeK]
  | o :: r, K => by
    rw [mergeK, scrHK_iff, mergeK_nil F r]
    simp
theorem merge3 (F : List HO) (a b c : List AV) (o0 o1 o2 o3 x0 x1 x2 x3 : HO) (r : List HO) (K : List HO → Prop) : mergeK F [.dead, .cells a, .cells b, .cells c] [o0, o1, o2, o3] (x0 :: x1 :: x2 :: x3 :: r) K ↔ K (scrH F x0 :: o1 :: o2 :: o3 :: r.map (scrH F)) := by
  simp only [mergeK, mergeK_nil, scrHK_iff]
theorem rh_arr (n : AV) (e p : Int) : ∀ i, arrAt (RH n e p) i = false
  | 0 => rfl
  | 1 => rfl
  | 2 => rfl
  | 3 => rfl
  | i + 4 => rfl
end Go.Proofs.YtkmhjamdgncpoaaDoor
