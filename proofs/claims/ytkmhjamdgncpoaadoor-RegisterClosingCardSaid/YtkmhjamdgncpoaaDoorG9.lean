/-
  The law: streets that are closed and opened again.
-/
import Derived.Test.YtkmhjamdgncpoaaDoorG5
import Derived.Test.YtkmhjamdgncpoaaDoorAv53
set_option linter.unusedVariables false
set_option linter.unusedSimpArgs false
namespace Go.Proofs.YtkmhjamdgncpoaaDoor
open Go.Av Go.Shelf Pl Go.RowKit
theorem inKu16 {m : Int} (h : inK .u16 m) : 0 ≤ m ∧ m ≤ 65535 := by
  unfold inK IntKind.min IntKind.max at h
  simp [IntKind.signed, IntKind.bits] at h
  omega
theorem chs_closed' {l : List AV} {r : List Ch} (h : l = List.map Ch.v r) : ∀ e ∈ l, closed e = true := by
  subst h
  intro e he
  obtain ⟨c, _, rfl⟩ := List.mem_map.1 he
  rfl
set_option maxRecDepth 100000 in
theorem closing_law (r : List Ch) (n : Int) (hn : inK .u8 n) (m : Int) (hm : inK .u16 m) : Ctr Tryd.prog 9 [chs r, .int .u8 n, .int .u16 m] (fun x => x = .bool true) := by
  refine Ctr.of_body Tryd.func9 rfl tys_ok (by kernel_rfl) ?_
  conv => whnf
  repeat (first | refine ACode.seq ?_ | (refine ACode.s_reg tys_ok ?_; conv => whnf) | refine ACode.s_block ?_ | refine ACode.s_scope ?_ | (refine ACode.s_cond ?_; conv => whnf) | (refine ACode.s_exit ?_; conv => whnf) | (refine ACode.s_ret ?_; conv => whnf) | (refine ACode.s_skip ?_; conv => whnf) | (refine ACode.s_label ?_; conv => whnf))
  refine ACall.of_spec (head_spec) rfl fun r hr => ?_
  subst hr
  conv => whnf
  repeat (first | refine ACode.seq ?_ | (refine ACode.s_reg tys_ok ?_; conv => whnf) | refine ACode.s_block ?_ | refine ACode.s_scope ?_ | (refine ACode.s_cond ?_; conv => whnf) | (refine ACode.s_exit ?_; conv => whnf) | (refine ACode.s_ret ?_; conv => whnf) | (refine ACode.s_skip ?_; conv => whnf) | (refine ACode.s_label ?_; conv => whnf))
  refine ACall.of_spec (Sound_spec r) rfl fun r hr => ?_
  subst hr
  conv => whnf
  repeat (first | refine ACode.seq ?_ | (refine ACode.s_reg tys_ok ?_; conv => whnf) | refine ACode.s_block ?_ | refine ACode.s_scope ?_ | (refine ACode.s_cond ?_; conv => whnf) | (refine ACode.s_exit ?_; conv => whnf) | (refine ACode.s_ret ?_; conv => whnf) | (refine ACode.s_skip ?_; conv => whnf) | (refine ACode.s_label ?_; conv => whnf))
  refine ⟨fun h => ?_, fun h => ?_⟩; rotate_left
  · conv => whnf
    repeat (first | refine ACode.seq ?_ | (refine ACode.s_reg tys_ok ?_; conv => whnf) | refine ACode.s_block ?_ | refine ACode.s_scope ?_ | (refine ACode.s_cond ?_; conv => whnf) | (refine ACode.s_exit ?_; conv => whnf) | (refine ACode.s_ret ?_; conv => whnf) | (refine ACode.s_skip ?_; conv => whnf) | (refine ACode.s_label ?_; conv => whnf))
  have hs := sound_of h
  clear h
  conv => whnf
  repeat (first | refine ACode.seq ?_ | (refine ACode.s_reg tys_ok ?_; conv => whnf) | refine ACode.s_block ?_ | refine ACode.s_scope ?_ | (refine ACode.s_cond ?_; conv => whnf) | (refine ACode.s_exit ?_; conv => whnf) | (refine ACode.s_ret ?_; conv => whnf) | (refine ACode.s_skip ?_; conv => whnf) | (refine ACode.s_label ?_; conv => whnf))
  refine ⟨fun h0 => ?_, fun h0 => ?_⟩; rotate_left
  · conv => whnf
    repeat (first | refine ACode.seq ?_ | (refine ACode.s_reg tys_ok ?_; conv => whnf) | refine ACode.s_block ?_ | refine ACode.s_scope ?_ | (refine ACode.s_cond ?_; conv => whnf) | (refine ACode.s_exit ?_; conv => whnf) | (refine ACode.s_ret ?_; conv => whnf) | (refine ACode.s_skip ?_; conv => whnf) | (refine ACode.s_label ?_; conv => whnf))
  have h0 : 0 < r.length := by simp at h0; exact List.length_pos_iff.2 h0
  conv => whnf
  repeat (first | refine ACode.seq ?_ | (refine ACode.s_reg tys_ok ?_; conv => whnf) | refine ACode.s_block ?_ | refine ACode.s_scope ?_ | (refine ACode.s_cond ?_; conv => whnf) | (refine ACode.s_exit ?_; conv => whnf) | (refine ACode.s_ret ?_; conv => whnf) | (refine ACode.s_skip ?_; conv => whnf) | (refine ACode.s_label ?_; conv => whnf))
  refine ⟨fun h1 => ?_, fun h1 => ?_⟩
  · conv => whnf
    repeat (first | refine ACode.seq ?_ | (refine ACode.s_reg tys_ok ?_; conv => whnf) | refine ACode.s_block ?_ | refine ACode.s_scope ?_ | (refine ACode.s_cond ?_; conv => whnf) | (refine ACode.s_exit ?_; conv => whnf) | (refine ACode.s_ret ?_; conv => whnf) | (refine ACode.s_skip ?_; conv => whnf) | (refine ACode.s_label ?_; conv => whnf))
  have h1 : r.length ≤ 58 := by simp at h1; omega
  have hx : r.getLast? = some r[r.length - 1] := by rw [List.getLast?_eq_getElem?, List.getElem?_eq_getElem (by omega)]
  generalize hxd : r[r.length - 1] = x at hx
  have hw1 : Wr .i64 (((List.map Ch.v r).length : Int) - 1) = ((r.length - 1 : Nat) : Int) := by rw [List.length_map, Wr64 _ (by omega) (by omega)]; omega
  have gx : (List.map Ch.v r)[((r.length - 1 : Nat) : Int).toNat]? = some x.v := by simp [← hxd, show r.length - 1 < r.length by omega]
  have hle := le_last hs hx
  have hne := some_street hs (List.length_pos_iff.1 h0) hle
  have hg := at_good r x.da
  conv => whnf
  repeat (first | refine ACode.seq ?_ | (refine ACode.s_reg tys_ok ?_; conv => whnf) | refine ACode.s_block ?_ | refine ACode.s_scope ?_ | (refine ACode.s_cond ?_; conv => whnf) | (refine ACode.s_exit ?_; conv => whnf) | (refine ACode.s_ret ?_; conv => whnf) | (refine ACode.s_skip ?_; conv => whnf) | (refine ACode.s_label ?_; conv => whnf))
  rw [hw1]
  refine ⟨by omega, _, gx, ?_⟩
  conv => whnf
  repeat (first | refine ACode.seq ?_ | (refine ACode.s_reg tys_ok ?_; conv => whnf) | refine ACode.s_block ?_ | refine ACode.s_scope ?_ | (refine ACode.s_cond ?_; conv => whnf) | (refine ACode.s_exit ?_; conv => whnf) | (refine ACode.s_ret ?_; conv => whnf) | (refine ACode.s_skip ?_; conv => whnf) | (refine ACode.s_label ?_; conv => whnf))
  refine ACall.of_spec (At_spec r x.da) rfl fun r hr => ?_
  subst hr
  conv => whnf
  repeat (first | refine ACode.seq ?_ | (refine ACode.s_reg tys_ok ?_; conv => whnf) | refine ACode.s_block ?_ | refine ACode.s_scope ?_ | (refine ACode.s_cond ?_; conv => whnf) | (refine ACode.s_exit ?_; conv => whnf) | (refine ACode.s_ret ?_; conv => whnf) | (refine ACode.s_skip ?_; conv => whnf) | (refine ACode.s_label ?_; conv => whnf))
  have hl0 : 0 < (atP r x.da).length := List.length_pos_iff.2 hne
  refine And.intro (fun h => absurd h (by simp [hne])) (fun _ => ?_)
  conv => whnf
  repeat (first | refine ACode.seq ?_ | (refine ACode.s_reg tys_ok ?_; conv => whnf) | refine ACode.s_block ?_ | refine ACode.s_scope ?_ | (refine ACode.s_cond ?_; conv => whnf) | (refine ACode.s_exit ?_; conv => whnf) | (refine ACode.s_ret ?_; conv => whnf) | (refine ACode.s_skip ?_; conv => whnf) | (refine ACode.s_label ?_; conv => whnf))
  refine ⟨by rw [List.length_map]; omega, ?_⟩
  have hk : (Wr .i64 n).tmod ((List.map St.v (atP r x.da)).length : Int) = ((n.toNat % (atP r x.da).length : Nat) : Int) := by
    obtain ⟨h1, h2⟩ := inKu8.1 hn
    rw [Wr64 _ (by omega) (by omega), Int.tmod_eq_emod_of_nonneg h1, List.length_map, Int.natCast_emod, Int.toNat_of_nonneg h1]
  rw [hk]
  have hkl : n.toNat % (atP r x.da).length < (atP r x.da).length := Nat.mod_lt _ hl0
  generalize n.toNat % (atP r x.da).length = k at hkl ⊢
  have hks : (atP r x.da)[k]? = some (atP r x.da)[k] := List.getElem?_eq_getElem hkl
  generalize (atP r x.da)[k] = s at hks
  have gk : (List.map St.v (atP r x.da))[((k : Nat) : Int).toNat]? = some s.v := by rw [Int.toNat_natCast, List.getElem?_map, hks]; rfl
  conv => whnf
  repeat (first | refine ACode.seq ?_ | (refine ACode.s_reg tys_ok ?_; conv => whnf) | refine ACode.s_block ?_ | refine ACode.s_scope ?_ | (refine ACode.s_cond ?_; conv => whnf) | (refine ACode.s_exit ?_; conv => whnf) | (refine ACode.s_ret ?_; conv => whnf) | (refine ACode.s_skip ?_; conv => whnf) | (refine ACode.s_label ?_; conv => whnf))
  refine ⟨by omega, _, gk, ?_⟩
  conv => whnf
  repeat (first | refine ACode.seq ?_ | (refine ACode.s_reg tys_ok ?_; conv => whnf) | refine ACode.s_block ?_ | refine ACode.s_scope ?_ | (refine ACode.s_cond ?_; conv => whnf) | (refine ACode.s_exit ?_; conv => whnf) | (refine ACode.s_ret ?_; conv => whnf) | (refine ACode.s_skip ?_; conv => whnf) | (refine ACode.s_label ?_; conv => whnf))
  refine ⟨fun ho => ?_, fun ho => ?_⟩
  · conv => whnf
    repeat (first | refine ACode.seq ?_ | (refine ACode.s_reg tys_ok ?_; conv => whnf) | refine ACode.s_block ?_ | refine ACode.s_scope ?_ | (refine ACode.s_cond ?_; conv => whnf) | (refine ACode.s_exit ?_; conv => whnf) | (refine ACode.s_ret ?_; conv => whnf) | (refine ACode.s_skip ?_; conv => whnf) | (refine ACode.s_label ?_; conv => whnf))
  have ho : s.op = true := by simpa using ho
  have hst := hg.1 s (List.mem_of_getElem? hks)
  obtain ⟨q1, q2⟩ := hst.lo
  obtain ⟨q3, q4⟩ := hst.hi
  obtain ⟨q5, q6⟩ := hst.sh
  have q7 := (at_full hs x.da s (List.mem_of_getElem? hks)).le
  conv => whnf
  repeat (first | refine ACode.seq ?_ | (refine ACode.s_reg tys_ok ?_; conv => whnf) | refine ACode.s_block ?_ | refine ACode.s_scope ?_ | (refine ACode.s_cond ?_; conv => whnf) | (refine ACode.s_exit ?_; conv => whnf) | (refine ACode.s_ret ?_; conv => whnf) | (refine ACode.s_skip ?_; conv => whnf) | (refine ACode.s_label ?_; conv => whnf))
  obtain ⟨m1, m2⟩ := inKu16 hm
  have w1 : Wr .i64 (Wr .i64 (s.hi - s.lo) + 1) = s.hi - s.lo + 1 := by rw [Wr64 (s.hi - s.lo) (by omega) (by omega), Wr64 _ (by omega) (by omega)]
  have w2 : Wr .i64 m = m := Wr64 _ (by omega) (by omega)
  have b1 : 0 ≤ m.tmod (s.hi - s.lo + 1) := by rw [Int.tmod_eq_emod_of_nonneg m1]; exact Int.emod_nonneg _ (by omega)
  have b2 : m.tmod (s.hi - s.lo + 1) < s.hi - s.lo + 1 := by rw [Int.tmod_eq_emod_of_nonneg m1]; exact Int.emod_lt_of_pos _ (by omega)
  refine ACode.draw [] tys_ok (by kernel_rfl) (by kernel_rfl) ?_
  conv => whnf
  rw [w1, w2]
  refine ⟨by omega, ?_⟩
  conv => whnf
  have w3 : Wr .i64 (s.lo + m.tmod (s.hi - s.lo + 1)) = s.lo + m.tmod (s.hi - s.lo + 1) := Wr64 _ (by omega) (by omega)
  rw [w3]
  have v1 : s.lo ≤ s.lo + m.tmod (s.hi - s.lo + 1) := by omega
  have v2 : s.lo + m.tmod (s.hi - s.lo + 1) ≤ s.hi := by omega
  generalize s.lo + m.tmod (s.hi - s.lo + 1) = v at v1 v2 ⊢
  have w4 : Wr .i64 (v - s.sh) = v - s.sh := Wr64 _ (by omega) (by omega)
  obtain ⟨c1, c2, c3⟩ := closed_law hs h1 hx hks ho v1 v2
  obtain ⟨c4, c5⟩ := closed_at hs h1 hx hks ho
  repeat (first | refine ACode.seq ?_ | (refine ACode.s_reg tys_ok ?_; conv => whnf) | refine ACode.s_block ?_ | refine ACode.s_scope ?_ | (refine ACode.s_cond ?_; conv => whnf) | (refine ACode.s_exit ?_; conv => whnf) | (refine ACode.s_ret ?_; conv => whnf) | (refine ACode.s_skip ?_; conv => whnf) | (refine ACode.s_label ?_; conv => whnf))
  rw [w4]
  refine ACall.of_spec (name_t c1) rfl fun r hr => ?_
  subst hr
  conv => whnf
  repeat (first | refine ACode.seq ?_ | (refine ACode.s_reg tys_ok ?_; conv => whnf) | refine ACode.s_block ?_ | refine ACode.s_scope ?_ | (refine ACode.s_cond ?_; conv => whnf) | (refine ACode.s_exit ?_; conv => whnf) | (refine ACode.s_ret ?_; conv => whnf) | (refine ACode.s_skip ?_; conv => whnf) | (refine ACode.s_label ?_; conv => whnf))
  refine ACode.drawO [0, 1, 3, 4, 5, 6, 7, 8, 9, 10, 11, 12, 13, 14, 15, 16, 17, 18, 2, 19, 20] [18] [2, 19] [3, 4, 5, 6, 7, 8, 9, 10, 11, 12, 13, 14, 15, 16, 17, 18] tys_ok (by kernel_rfl) (by kernel_rfl) ?_
  conv => whnf
  repeat (first | (refine ⟨rfl, ?_⟩; (conv => whnf); refine ⟨⟨rfl, rfl⟩, ?_⟩; (conv => whnf)))
  refine ⟨⟨rfl, by simp; omega⟩, ?_⟩
  conv => whnf
  refine ⟨⟨rfl, by simp; omega⟩, ?_⟩
  conv => whnf
  have em : [] ++ List.map Ch.v r ++ [AV.agg [.int .i64 x.da, .int .i64 6, .int .i64 k, .str [], .str [], .str [], .int .i64 0, .int .i64 0, .int .i64 0], AV.agg [.int .i64 x.da, .int .i64 1, .int .i64 0, .str s.co, .str s.to, .str s.na, .int .i64 s.lo, .int .i64 s.hi, .int .i64 0]] = List.map Ch.v (r ++ [closeC x.da k, openC x.da s]) := by simp [closeC, openC, Ch.v]
  refine ACode.freeze 16 ?_
  conv => whnf
  refine ⟨chs_closed' em, ?_⟩
  conv => whnf
  repeat (refine ⟨(by first | rfl | (simp; done) : (_ : Nat) = _), ?_⟩; conv => whnf)
  repeat (first | refine ACode.seq ?_ | (refine ACode.s_reg tys_ok ?_; conv => whnf) | refine ACode.s_block ?_ | refine ACode.s_scope ?_ | (refine ACode.s_cond ?_; conv => whnf) | (refine ACode.s_exit ?_; conv => whnf) | (refine ACode.s_ret ?_; conv => whnf) | (refine ACode.s_skip ?_; conv => whnf) | (refine ACode.s_label ?_; conv => whnf))
  rw [em]
  clear em
  generalize r ++ [closeC x.da k, openC x.da s] = more at c2 c3 c4 c5 ⊢
  refine ACall.of_spec (check_t (sound_build c4)) rfl fun r hr => ?_
  subst hr
  conv => whnf
  repeat (first | refine ACode.seq ?_ | (refine ACode.s_reg tys_ok ?_; conv => whnf) | refine ACode.s_block ?_ | refine ACode.s_scope ?_ | (refine ACode.s_cond ?_; conv => whnf) | (refine ACode.s_exit ?_; conv => whnf) | (refine ACode.s_ret ?_; conv => whnf) | (refine ACode.s_skip ?_; conv => whnf) | (refine ACode.s_label ?_; conv => whnf))
  repeat (first | (refine ⟨fun _ => ?_, fun h => absurd h (by decide +kernel)⟩; conv => whnf) | (refine ⟨fun h => absurd h (by decide +kernel), fun _ => ?_⟩; conv => whnf) | (refine ⟨by decide, _, rfl, ?_⟩; conv => whnf) | refine ACode.seq ?_ | (refine ACode.s_reg tys_ok ?_; conv => whnf) | refine ACode.s_block ?_ | refine ACode.s_scope ?_ | (refine ACode.s_cond ?_; conv => whnf) | (refine ACode.s_exit ?_; conv => whnf) | (refine ACode.s_ret ?_; conv => whnf) | (refine ACode.s_skip ?_; conv => whnf) | (refine ACode.s_label ?_; conv => whnf))
  refine ACall.of_spec (name_t c2) rfl fun r hr => ?_
  subst hr
  conv => whnf
  repeat (first | refine ACode.seq ?_ | (refine ACode.s_reg tys_ok ?_; conv => whnf) | refine ACode.s_block ?_ | refine ACode.s_scope ?_ | (refine ACode.s_cond ?_; conv => whnf) | (refine ACode.s_exit ?_; conv => whnf) | (refine ACode.s_ret ?_; conv => whnf) | (refine ACode.s_skip ?_; conv => whnf) | (refine ACode.s_label ?_; conv => whnf))
  refine ACall.of_spec (find_t c3) rfl fun r hr => ?_
  subst hr
  conv => whnf
  repeat (first | refine ACode.seq ?_ | (refine ACode.s_reg tys_ok ?_; conv => whnf) | refine ACode.s_block ?_ | refine ACode.s_scope ?_ | (refine ACode.s_cond ?_; conv => whnf) | (refine ACode.s_exit ?_; conv => whnf) | (refine ACode.s_ret ?_; conv => whnf) | (refine ACode.s_skip ?_; conv => whnf) | (refine ACode.s_label ?_; conv => whnf))
  repeat (first | (refine ⟨fun _ => ?_, fun h => absurd h (by decide +kernel)⟩; conv => whnf) | (refine ⟨fun h => absurd h (by decide +kernel), fun _ => ?_⟩; conv => whnf) | (refine ⟨by decide, _, rfl, ?_⟩; conv => whnf) | refine ACode.seq ?_ | (refine ACode.s_reg tys_ok ?_; conv => whnf) | refine ACode.s_block ?_ | refine ACode.s_scope ?_ | (refine ACode.s_cond ?_; conv => whnf) | (refine ACode.s_exit ?_; conv => whnf) | (refine ACode.s_ret ?_; conv => whnf) | (refine ACode.s_skip ?_; conv => whnf) | (refine ACode.s_label ?_; conv => whnf))
  refine And.intro (fun _ => ?_) (fun h => absurd h (by simp))
  conv => whnf
  repeat (first | refine ACode.seq ?_ | (refine ACode.s_reg tys_ok ?_; conv => whnf) | refine ACode.s_block ?_ | refine ACode.s_scope ?_ | (refine ACode.s_cond ?_; conv => whnf) | (refine ACode.s_exit ?_; conv => whnf) | (refine ACode.s_ret ?_; conv => whnf) | (refine ACode.s_skip ?_; conv => whnf) | (refine ACode.s_label ?_; conv => whnf))
  exact congrArg AV.bool (by simp)
end Go.Proofs.YtkmhjamdgncpoaaDoor
