/-
  The library's functions that the formats need, as contracts of ours.
-/
import Derived.Test.YtbodeejogdckgaaGreatDoorF1
import Derived.Test.YtbodeejogdckgaaGreatDoorP3
import Derived.Test.YtbodeejogdckgaaGreatDoorKe
import Derived.Test.YtbodeejogdckgaaGreatDoorSh
import Derived.Shelf.Strings.SlTrimAscii
set_option linter.unusedVariables false
set_option linter.unusedSimpArgs false
namespace Go.Proofs.YtbodeejogdckgaaGreatDoor
open Go.Av Pl Go.RowKit Go.Sort
theorem below_grow (w : World) (k : Nat) (os : Array Obj) : Below w.heap.size w (grow (w.drewN k) os) :=
  ⟨rfl, rfl, rfl, by simp [grow, World.drewN], fun b hb => by simp only [grow, World.drewN]; rw [Array.getElem?_append_left hb]⟩
theorem pow_tab {C : CellSet} {w : World} (h : COK C w) : Lib.TabIs Tryz.prog w "internal/strconv.uint64pow10" .u64 Lib.pow10Tab := by
  have hx : (6, Lib.pow10Tab.map (AV.int .u64)) ∈ glTab := List.mem_of_getElem? (i := 2) (by kernel_rfl)
  obtain ⟨cur, e, fz, h1, h2⟩ := h.gs _ hx (by intro h; cases h)
  have hc := h.gl _ hx
  unfold Lib.TabIs World.var?
  rw [show Tryz.prog.globalNamed "internal/strconv.uint64pow10" = some 6 by kernel_rfl]
  simp only [Option.bind_some] at h1 h2 hc ⊢
  rw [h1]
  simp only [Option.some.injEq]
  apply Array.ext
  · simpa using h2
  · intro i h3 h4
    have h5 : i < (Lib.pow10Tab.map (AV.int .u64)).length := by omega
    obtain ⟨v, _, hcl, hr⟩ := (cells_iff _ _).1 hc i h5
    have := hcl.2
    rw [Nat.zero_add, cell_of_row w _ i cur e fz h1] at this
    simp only [List.getElem_map] at hr
    unfold Rep at hr
    obtain ⟨rfl, _⟩ := hr
    rw [Array.getElem?_eq_getElem h3] at this
    simp only [Option.some.injEq] at this
    rw [this]
    simp
theorem itoa_spec (n : Int) (h0 : -9223372036854775808 ≤ n) (h1 : n ≤ 9223372036854775807) (hl : (Lib.itoa n).length ≤ 9223372036854775807) : Ctr Tryz.prog 64 [.int .i64 n] (fun r => r = .str (Lib.itoa n)) := by
  refine ⟨by kernel_rfl, fun C w vs hlt hr => ?_⟩
  unfold Reps at hr
  obtain ⟨v1, _, rfl, h2, hr⟩ := hr
  unfold Reps at hr
  subst hr
  unfold Rep at h2
  obtain ⟨rfl, _⟩ := h2
  refine (Tryz.strconv_Itoa n h0 h1 w (pow_tab hlt)).mono fun e w' ⟨h3, k, os, h4⟩ => ?_
  subst h4
  exact ⟨_, _, h3, rfl, below_grow w k os, by unfold Rep; exact ⟨rfl, hl⟩⟩
theorem join_spec (l : List Bs) (hN : l.length ≤ 140737488355328) (hlen : (Lib.join l [32]).length ≤ 140737488355328) : Ctr Tryz.prog 37 [.sl 1 (strs l), .str [32]] (fun r => r = .str (Lib.join l [32])) :=
  join_ctr Tryz.lays156 Tryz.Builder_Extra_156 rfl (by kernel_rfl) l [32] hN hlen
theorem toUpper_spec (s : Bs) (hs : s.length ≤ 1000) (ha : ∀ c ∈ s, c.toNat < 128) : Ctr Tryz.prog 57 [.str s] (fun r => r = .str (upB s)) := by
  refine ⟨by kernel_rfl, fun C w vs hlt hr => ?_⟩
  unfold Reps at hr
  obtain ⟨v1, _, rfl, h2, hr⟩ := hr
  unfold Reps at hr
  subst hr
  unfold Rep at h2
  obtain ⟨rfl, _⟩ := h2
  refine (Tryz.strings_ToUpper_ascii ⟨s.toArray⟩ w (by simp [ByteArray.size]; omega) (fun j b hj => ha b (by simp at hj; exact List.mem_of_getElem? hj))).mono fun e w' ⟨h3, h4⟩ => ?_
  exact ⟨_, _, h3, rfl, h4, by unfold Rep; exact ⟨by simp [up_eq], by simp [upB]; omega⟩⟩
theorem toLower_spec (s : Bs) (hs : s.length ≤ 1000) (ha : ∀ c ∈ s, c.toNat < 128) : Ctr Tryz.prog 53 [.str s] (fun r => r = .str (lowB s)) := by
  refine ⟨by kernel_rfl, fun C w vs hlt hr => ?_⟩
  unfold Reps at hr
  obtain ⟨v1, _, rfl, h2, hr⟩ := hr
  unfold Reps at hr
  subst hr
  unfold Rep at h2
  obtain ⟨rfl, _⟩ := h2
  refine (Tryz.strings_ToLower_ascii ⟨s.toArray⟩ w (by simp [ByteArray.size]; omega) (fun j b hj => ha b (by simp at hj; exact List.mem_of_getElem? hj))).mono fun e w' ⟨h3, h4⟩ => ?_
  exact ⟨_, _, h3, rfl, h4, by unfold Rep; exact ⟨by simp [low_eq], by simp [lowB]; omega⟩⟩
theorem dropWhile_le (p : UInt8 → Bool) : ∀ l : Bs, (l.dropWhile p).length ≤ l.length
  | [] => by simp
  | c :: r => by
    rw [List.dropWhile_cons]
    split
    · have := dropWhile_le p r; simp; omega
    · simp
theorem trimS_le (l cs : Bs) : (Lib.trimS l cs).length ≤ l.length := by
  unfold Lib.trimS Lib.trimLeftS Lib.trimRightS
  refine Nat.le_trans (dropWhile_le _ _) ?_
  rw [List.length_reverse]
  refine Nat.le_trans (dropWhile_le _ _) ?_
  simp
theorem trim_spec (s : Bs) (hs : s.length ≤ 1000) : Ctr Tryz.prog 70 [.str s, .str [57, 65]] (fun r => r = .str (Lib.trimS s [57, 65])) := by
  refine ⟨by kernel_rfl, fun C w vs hlt hr => ?_⟩
  unfold Reps at hr
  obtain ⟨v1, _, rfl, h2, hr⟩ := hr
  unfold Reps at hr
  obtain ⟨v2, _, rfl, h3, hr⟩ := hr
  unfold Reps at hr
  subst hr
  unfold Rep at h2 h3
  obtain ⟨rfl, _⟩ := h2
  obtain ⟨rfl, _⟩ := h3
  refine (Any.strings_Trim_laid Tryz.lays160 (by kernel_rfl) ⟨s.toArray⟩ ⟨[57, 65].toArray⟩ w (by simp [ByteArray.size]; omega) (by decide) (ascii_of_all (by decide))).mono fun e w' ⟨h3, h4⟩ => ?_
  exact ⟨_, _, h3, rfl, h4, by unfold Rep; exact ⟨rfl, by have := trimS_le s [57, 65]; omega⟩⟩
theorem count_spec (s : Bs) : Ctr Tryz.prog 113 [.str s, .str [32]] (fun r => r = .int .i64 (Lib.countByte s 32)) := by
  refine ⟨by kernel_rfl, fun C w vs hlt hr => ?_⟩
  unfold Reps at hr
  obtain ⟨v1, _, rfl, h2, hr⟩ := hr
  unfold Reps at hr
  obtain ⟨v2, _, rfl, h3, hr⟩ := hr
  unfold Reps at hr
  subst hr
  unfold Rep at h2 h3
  obtain ⟨rfl, hs⟩ := h2
  obtain ⟨rfl, _⟩ := h3
  refine (Tryz.strings_Count_one ⟨s.toArray⟩ 32 w).mono fun e w' ⟨h3, h4⟩ => ?_
  subst h4
  have hc : Lib.countByte s 32 ≤ s.length := List.count_le_length
  exact ⟨_, _, h3, rfl, Below.refl _ _, by unfold Rep; exact ⟨rfl, by constructor <;> simp [IntKind.min, IntKind.max, IntKind.bits, IntKind.signed] <;> omega⟩⟩
theorem index_spec (s : Bs) : Ctr Tryz.prog 114 [.str s, .str [32]] (fun r => r = .int .i64 (Lib.indexByte s 32)) := by
  refine ⟨by kernel_rfl, fun C w vs hlt hr => ?_⟩
  unfold Reps at hr
  obtain ⟨v1, _, rfl, h2, hr⟩ := hr
  unfold Reps at hr
  obtain ⟨v2, _, rfl, h3, hr⟩ := hr
  unfold Reps at hr
  subst hr
  unfold Rep at h2 h3
  obtain ⟨rfl, hs⟩ := h2
  obtain ⟨rfl, _⟩ := h3
  refine (Tryz.strings_Index_one ⟨s.toArray⟩ 32 w).mono fun e w' ⟨h3, h4⟩ => ?_
  subst h4
  have hc : -1 ≤ Lib.indexByte s 32 := Lib.indexByte_ge s 32
  have hd : Lib.indexByte s 32 ≤ s.length := by
    by_cases h : Lib.indexByte s 32 = -1
    · omega
    · obtain ⟨o, ho⟩ : ∃ o : Nat, Lib.indexByte s 32 = o := ⟨(Lib.indexByte s 32).toNat, by omega⟩
      have := (List.getElem?_eq_some_iff.1 (Lib.indexByte_some ho).1).1
      omega
  exact ⟨_, _, h3, rfl, Below.refl _ _, by unfold Rep; exact ⟨rfl, by constructor <;> simp [IntKind.min, IntKind.max, IntKind.bits, IntKind.signed] <;> omega⟩⟩
theorem words1_spec (x : Nat) (hx : x ≤ 1114111) : Ctr Tryz.prog 41 [.int .i32 x] (fun r => r = .bool (blankN x)) := by
  refine Ctr.of_body Tryz.func41 rfl tys_ok (by kernel_rfl) ?_
  conv => whnf
  repeat (first | refine ACode.seq ?_ | (refine ACode.s_reg tys_ok ?_; conv => whnf) | refine ACode.s_block ?_ | refine ACode.s_scope ?_ | (refine ACode.s_cond ?_; conv => whnf) | (refine ACode.s_exit ?_; conv => whnf) | (refine ACode.s_ret ?_; conv => whnf) | (refine ACode.s_skip ?_; conv => whnf) | (refine ACode.s_label ?_; conv => whnf))
  repeat' (first | (refine And.intro (fun _ => ?_) (fun _ => ?_) <;> conv => whnf) | refine ACode.seq ?_ | (refine ACode.s_reg tys_ok ?_; conv => whnf) | refine ACode.s_block ?_ | refine ACode.s_scope ?_ | (refine ACode.s_cond ?_; conv => whnf) | (refine ACode.s_exit ?_; conv => whnf) | (refine ACode.s_ret ?_; conv => whnf) | (refine ACode.s_skip ?_; conv => whnf) | (refine ACode.s_label ?_; conv => whnf))
  all_goals (refine congrArg AV.bool ?_; rw [Bool.eq_iff_iff]; simp_all [blankN] <;> omega)
theorem strs_len (l : List Bs) : (strs l).length = l.length := by simp
theorem wsGo_len : ∀ (l cur : Bs), ∀ w ∈ wsGo cur l, w.length ≤ cur.length + l.length
  | [], cur, w, h => by
    unfold wsGo at h
    split at h
    · simp at h
    · rw [List.mem_singleton] at h; subst h; exact Nat.le_add_right _ _
  | c :: r, cur, w, h => by
    unfold wsGo at h
    split at h
    · split at h
      · have := wsGo_len r [] w h; simp at this ⊢; omega
      · rcases List.mem_cons.1 h with rfl | h
        · exact Nat.le_add_right _ _
        · have := wsGo_len r [] w h; simp at this ⊢; omega
    · have := wsGo_len r _ w h; simp at this ⊢; omega
theorem wordsW_len (l : Bs) : ∀ w ∈ wordsW l, w.length ≤ l.length := fun w h => by have := wsGo_len l [] w h; simpa using this
theorem fieldsFunc_spec (s : Bs) (hs : s.length ≤ 100000) : Ctr Tryz.prog 40 [.str s, .fn 41 []] (fun r => r = strsA (wordsW s)) := by
  refine ⟨by kernel_rfl, fun C w vs hlt hr => ?_⟩
  unfold Reps at hr
  obtain ⟨v1, _, rfl, h2, hr⟩ := hr
  unfold Reps at hr
  obtain ⟨v2, _, rfl, h3, hr⟩ := hr
  unfold Reps at hr
  subst hr
  unfold Rep at h2 h3
  obtain ⟨rfl, _⟩ := h2
  obtain ⟨us, rfl, hu⟩ := h3
  have hj := Tryz.strings_FieldsFunc_grows 41 us.toArray (enters_of Tryz.func41 (by kernel_rfl) rfl) blankN ⟨s.toArray⟩ w (by simp [ByteArray.size]; omega) (predGrows_of_ctr words1_spec hlt hu)
  have hw : (Lib.goFieldsP blankN ⟨s.toArray⟩).map (fun x => x.data.toList) = wordsW s := fields_words ⟨s.toArray⟩
  generalize Lib.goFieldsP blankN ⟨s.toArray⟩ = L at hj hw
  have hlen : L.length = (wordsW s).length := by rw [← hw]; simp
  refine hj.mono fun e w' ⟨A, h3, h4, h5, h6⟩ => ?_
  refine ⟨_, _, h3, rfl, h6, ?_⟩
  rcases h5.2 with ⟨h7, _⟩ | ⟨g, cap', cur, h7, h8, h9, h10, h11, h12, h13⟩
  · cases h7
  · injection h7 with h7 _ h7c
    injection h7 with h7; injection h7 with h7
    subst h7 h7c
    unfold strsA Rep
    refine .inr ⟨A, 0, L.length, ?_, ?_, ?_, ?_⟩
    · rw [strs_len, hlen]
    · rw [strs_len, hlen]; exact Nat.le_refl _
    · simp only [maxLen] at h11; omega
    · refine (rows_iff _ _).2 fun i hi => ?_
      have hil : i < (wordsW s).length := by rw [strs_len] at hi; exact hi
      have hgs : A < w'.heap.size := (Array.getElem?_eq_some_iff.1 h9).1
      have hlb : ((wordsW s)[i]).length ≤ 9223372036854775807 := by
        have := wordsW_len s _ (List.getElem_mem hil); omega
      have hcell : w'.cell? ⟨A, i, none⟩ = some (.string ⟨((wordsW s)[i]).toArray⟩) := by
        rw [cell_of_row w' A i cur _ _ h9]
        have h14 := congrArg (·[i]?) h13
        simp only [Nat.mul_one] at h14
        rw [List.getElem?_take_of_lt (by omega)] at h14
        rw [← Array.getElem?_toList, h14]
        have hiL : i < L.length := by omega
        have hw2 : (wordsW s)[i] = L[i].data.toList := by
          have := congrArg (·[i]?) hw
          simp only [List.getElem?_map, List.getElem?_eq_getElem hiL, List.getElem?_eq_getElem hil, Option.map_some, Option.some.injEq] at this
          exact this.symm
        rw [hw2]
        simp [hiL]
      simp only [strs, List.getElem_map]
      refine ⟨rfl, ?_⟩
      simp only [AV.cells]
      unfold Cells
      refine ⟨⟨_, rfl, ⟨.inr ⟨h8, hgs⟩, by rw [Nat.zero_add, Nat.mul_one]; exact hcell⟩, by unfold Rep; exact ⟨rfl, hlb⟩⟩, by unfold Cells; trivial⟩
theorem words_spec (s : Bs) (hs : s.length ≤ 100000) : Ctr Tryz.prog 17 [.str s] (fun r => r = strsA (wordsW s)) := by
  refine Ctr.of_body Tryz.func17 rfl tys_ok (by kernel_rfl) ?_
  conv => whnf
  repeat (first | refine ACode.seq ?_ | (refine ACode.s_reg tys_ok ?_; conv => whnf) | refine ACode.s_block ?_ | refine ACode.s_scope ?_ | (refine ACode.s_cond ?_; conv => whnf) | (refine ACode.s_exit ?_; conv => whnf) | (refine ACode.s_ret ?_; conv => whnf) | (refine ACode.s_skip ?_; conv => whnf) | (refine ACode.s_label ?_; conv => whnf))
  repeat (first | (refine ACall.of_spec (fieldsFunc_spec s hs) rfl fun r hr => ?_; subst hr; conv => whnf) | refine ACode.seq ?_ | (refine ACode.s_reg tys_ok ?_; conv => whnf) | refine ACode.s_block ?_ | refine ACode.s_scope ?_ | (refine ACode.s_cond ?_; conv => whnf) | (refine ACode.s_exit ?_; conv => whnf) | (refine ACode.s_ret ?_; conv => whnf) | (refine ACode.s_skip ?_; conv => whnf) | (refine ACode.s_label ?_; conv => whnf))
  rfl
end Go.Proofs.YtbodeejogdckgaaGreatDoor
