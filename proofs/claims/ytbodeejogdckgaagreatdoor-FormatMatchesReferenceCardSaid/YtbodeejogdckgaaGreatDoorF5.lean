/-
  parts; the words of all lines.
-/
import Derived.Test.YtbodeejogdckgaaGreatDoorF4
set_option linter.unusedVariables false
set_option linter.unusedSimpArgs false
namespace Go.Proofs.YtbodeejogdckgaaGreatDoor
open Go.Av Go.Shelf Pl
def kindsV : AV := .mp [.int .i64 1, .int .i64 2, .int .i64 3, .int .i64 4, .int .i64 5, .int .i64 6]
  [.agg [.int .i64 1, .fn 52 []], .agg [.int .i64 1, .fn 54 []], .agg [.int .i64 1, .fn 56 []],
   .agg [.int .i64 4, .fn 59 []], .agg [.int .i64 4, .fn 60 []], .agg [.int .i64 4, .fn 61 []]]
set_option maxRecDepth 100000 in
theorem parts_spec : Ctr Tryz.prog 31 [] (fun r => r = kindsV) := by
  refine Ctr.of_body Tryz.func31 rfl tys_ok (by kernel_rfl) ?_
  conv => whnf
  repeat (first | refine ACode.seq ?_ | (refine ACode.s_reg tys_ok ?_; conv => whnf) | refine ACode.s_block ?_ | refine ACode.s_scope ?_ | (refine ACode.s_cond ?_; conv => whnf) | (refine ACode.s_exit ?_; conv => whnf) | (refine ACode.s_ret ?_; conv => whnf) | (refine ACode.s_skip ?_; conv => whnf) | (refine ACode.s_label ?_; conv => whnf))
  repeat (refine ⟨by intro a ha; (repeat (rcases List.mem_cons.1 ha with rfl | ha; (first | exact rfl | skip))) <;> first | rfl | (cases ha; done), ?_⟩; (conv => whnf))
  repeat (first | refine ACode.seq ?_ | (refine ACode.s_reg tys_ok ?_; conv => whnf) | refine ACode.s_block ?_ | refine ACode.s_scope ?_ | (refine ACode.s_cond ?_; conv => whnf) | (refine ACode.s_exit ?_; conv => whnf) | (refine ACode.s_ret ?_; conv => whnf) | (refine ACode.s_skip ?_; conv => whnf) | (refine ACode.s_label ?_; conv => whnf))
  rfl
def wordsA (ls : List Bs) (i : Nat) : List AV := (ls.take i).map (fun l => strsA (wordsW l)) ++ List.replicate (ls.length - i) (.raw (Value.slice none 0 0))
def countW (ls : List Bs) : Nat := (ls.map fun l => (wordsW l).length).sum
theorem wordsA_len (ls : List Bs) (i : Nat) (h : i ≤ ls.length) : (wordsA ls i).length = ls.length := by unfold wordsA; simp; omega
theorem wordsA_closed (ls : List Bs) (i : Nat) : ∀ x ∈ wordsA ls i, closed x = true := by
  intro x hx
  unfold wordsA at hx
  rcases List.mem_append.1 hx with hx | hx
  · obtain ⟨l, _, rfl⟩ := List.mem_map.1 hx; rfl
  · rw [List.eq_of_mem_replicate hx]; rfl
theorem wordsA_set (ls : List Bs) (i : Nat) (h : i < ls.length) : (wordsA ls i).set i (strsA (wordsW ls[i])) = wordsA ls (i + 1) := by
  unfold wordsA
  obtain ⟨k, hk⟩ : ∃ k, ls.length - i = k + 1 := ⟨ls.length - i - 1, by omega⟩
  have hk2 : ls.length - (i + 1) = k := by omega
  rw [List.set_append_right (h := by simp; omega), hk, hk2, List.take_succ_eq_append_getElem h, List.map_append]
  simp [List.replicate_succ, Nat.min_eq_left (Nat.le_of_lt h)]
theorem wordsA_set0 (ls : List Bs) (i : Nat) (h : i < ls.length) : (wordsA ls i).set (0 + ((i : Nat) : Int).toNat) (strsA (wordsW ls[i])) = wordsA ls (i + 1) := by
  rw [Nat.zero_add, Int.toNat_natCast]; exact wordsA_set ls i h
theorem wordsA_old (ls : List Bs) (i : Nat) (h : i < ls.length) : (wordsA ls i)[0 + ((i : Nat) : Int).toNat]? = some (.raw (Value.slice none 0 0)) := by
  rw [Nat.zero_add, Int.toNat_natCast]
  unfold wordsA
  rw [List.getElem?_append_right (by rw [List.length_map, List.length_take]; omega), List.getElem?_replicate]
  simp; omega
theorem wordsA_get (ls : List Bs) (i : Nat) (h : i < ls.length) : (wordsA ls (i + 1))[i]? = some (strsA (wordsW ls[i])) := by
  unfold wordsA
  rw [List.getElem?_append_left (by simp; omega)]
  simp [h]
theorem wordsA_get0 (ls : List Bs) (i : Nat) (h : i < ls.length) : (wordsA ls (i + 1))[0 + ((i : Nat) : Int).toNat]? = some (strsA (wordsW ls[i])) := by
  rw [Nat.zero_add, Int.toNat_natCast]; exact wordsA_get ls i h
theorem wsGo_count : ∀ (l cur : Bs), (wsGo cur l).length ≤ l.length + 1
  | [], cur => by unfold wsGo; split <;> simp
  | c :: r, cur => by
    unfold wsGo
    split
    · split
      · have := wsGo_count r []; simp; omega
      · have := wsGo_count r []; simp; omega
    · have := wsGo_count r (cur ++ [c]); simp; omega
theorem wordsW_count (l : Bs) : (wordsW l).length ≤ l.length + 1 := wsGo_count l []
theorem countW_take (ls : List Bs) (i : Nat) (h : i < ls.length) : countW (ls.take (i + 1)) = countW (ls.take i) + (wordsW ls[i]).length := by
  unfold countW
  rw [List.take_succ_eq_append_getElem h, List.map_append, List.sum_append]
  simp
theorem le_sum_nat : ∀ {l : List Nat} {n : Nat}, n ∈ l → n ≤ l.sum
  | x :: l, n, h => by
    rw [List.sum_cons]
    rcases List.mem_cons.1 h with rfl | h
    · omega
    · have := le_sum_nat h; omega
theorem countW_le : ∀ (ls : List Bs), (∀ l ∈ ls, l.length ≤ 1000) → countW ls ≤ ls.length * 1001
  | [], _ => by simp [countW]
  | l :: ls, h => by
    have := countW_le ls fun x hx => h x (by simp [hx])
    have h1 := wordsW_count l
    have h2 := h l (by simp)
    unfold countW at *
    simp only [List.map_cons, List.sum_cons, List.length_cons]
    omega
end Go.Proofs.YtbodeejogdckgaaGreatDoor
