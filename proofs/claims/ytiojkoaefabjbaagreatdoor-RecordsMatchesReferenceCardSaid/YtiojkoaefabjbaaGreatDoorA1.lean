/-
  The library's functions that the records need, as contracts of ours.
-/
import Derived.Test.YtiojkoaefabjbaaGreatDoorF1
import Derived.Test.YtiojkoaefabjbaaGreatDoorKe
import Derived.Test.YtiojkoaefabjbaaGreatDoorSh
set_option linter.unusedVariables false
set_option linter.unusedSimpArgs false
namespace Go.Proofs.YtiojkoaefabjbaaGreatDoor
open Go.Av Pl Go.RowKit Go.Sort
theorem below_grow (w : World) (k : Nat) (os : Array Obj) : Below w.heap.size w (grow (w.drewN k) os) :=
  ⟨rfl, rfl, rfl, by simp [grow, World.drewN], fun b hb => by simp only [grow, World.drewN]; rw [Array.getElem?_append_left hb]⟩
theorem pow_tab {C : CellSet} {w : World} (h : COK C w) : Lib.TabIs Tryz.prog w "internal/strconv.uint64pow10" .u64 Lib.pow10Tab := by
  have hx : (3, Lib.pow10Tab.map (AV.int .u64)) ∈ glTab := List.mem_of_getElem? (i := 2) (by kernel_rfl)
  obtain ⟨cur, e, fz, h1, h2⟩ := h.gs _ hx (by intro h; cases h)
  have hc := h.gl _ hx
  unfold Lib.TabIs World.var?
  rw [show Tryz.prog.globalNamed "internal/strconv.uint64pow10" = some 3 by kernel_rfl]
  simp only [Option.bind_some] at h1 h2 hc ⊢
  rw [h1]
  simp only [Option.some.injEq]
  apply Array.ext
  · simpa using h2
  · intro i h3 h4
    have h5 : i < (Lib.pow10Tab.map (AV.int .u64)).length := by omega
    obtain ⟨v, _, hcl, hr⟩ := (cells_iff _ _).1 hc i h5
    have := hcl.2
    rw [Nat.zero_add, cell_of_row w _ i cur e fz h1] at this
    simp only [List.getElem_map] at hr
    unfold Rep at hr
    obtain ⟨rfl, _⟩ := hr
    rw [Array.getElem?_eq_getElem h3] at this
    simp only [Option.some.injEq] at this
    rw [this]
    simp
theorem itoa_spec (n : Int) (h0 : -9223372036854775808 ≤ n) (h1 : n ≤ 9223372036854775807) (hl : (Lib.itoa n).length ≤ 9223372036854775807) : Ctr Tryz.prog 32 [.int .i64 n] (fun r => r = .str (Lib.itoa n)) := by
  refine ⟨by kernel_rfl, fun C w vs hlt hr => ?_⟩
  unfold Reps at hr
  obtain ⟨v1, _, rfl, h2, hr⟩ := hr
  unfold Reps at hr
  subst hr
  unfold Rep at h2
  obtain ⟨rfl, _⟩ := h2
  refine (Tryz.strconv_Itoa n h0 h1 w (pow_tab hlt)).mono fun e w' ⟨h3, k, os, h4⟩ => ?_
  subst h4
  exact ⟨_, _, h3, rfl, below_grow w k os, by unfold Rep; exact ⟨rfl, hl⟩⟩
theorem join_spec (l : List Bs) (hN : l.length ≤ 140737488355328) (hlen : (Lib.join l [32]).length ≤ 140737488355328) : Ctr Tryz.prog 51 [.sl 1 (strs l), .str [32]] (fun r => r = .str (Lib.join l [32])) :=
  join_ctr Tryz.lays156 Tryz.Builder_Extra_156 rfl (by kernel_rfl) l [32] hN hlen
theorem clone_spec (l : List Bs) (hb : l.length * 16 ≤ 140737488355328) : Ctr Tryz.prog 41 [.sl 1 (strs l)] (fun r => r = .sl 1 (strs l)) := by
  refine ⟨by kernel_rfl, fun C w vs hlt hr => ?_⟩
  unfold Reps at hr
  obtain ⟨v1, _, rfl, h2, hr⟩ := hr
  unfold Reps at hr
  subst hr
  unfold Rep at h2
  rcases h2 with ⟨⟨a, rfl⟩, he⟩ | ⟨b, o, cap, rfl, hcap, hm, hrows⟩
  · have hl : l = [] := by simpa [strs] using he
    subst hl
    cases a with
    | none =>
      refine (Tryz.slices_Clone_string_nil 0 0 w).mono fun e w' ⟨h3, h4⟩ => ?_
      subst h4
      exact ⟨_, _, h3, rfl, Below.refl _ _, by unfold Rep; exact .inl ⟨⟨_, rfl⟩, rfl⟩⟩
    | some a =>
        refine (Tryz.slices_Clone_string_zero a 0 w).mono fun e w' ⟨v', h3, h4, h5, h6⟩ => ?_
        refine ⟨_, _, h3, rfl, h6, ?_⟩
        rcases h4.2 with ⟨rfl, _⟩ | ⟨g, cap, cur, rfl, h7, h8, h9, h10, h11, h12⟩
        · exact absurd rfl h5
        · unfold Rep
          exact .inr ⟨g, 0, cap, rfl, h9, by simp only [maxLen] at h10; omega, by simp [strs, Go.Av.Rows]⟩
  · have hc := rows_strs hrows
    have hz : (l.map fun s => (⟨s.toArray⟩ : ByteArray)).length = l.length := by simp
    have hj := Tryz.slices_Clone_string b o (strs l).length cap (l.map fun s => (⟨s.toArray⟩ : ByteArray)) w (by rw [hz, strs_len]; exact Nat.le_refl _) (by rw [strs_len]; exact hb) (fun j hj => by
      have := (hc j _ (List.getElem?_eq_getElem hj)).2
      rw [this]
      simp only [List.getD, List.getElem?_eq_getElem hj, Option.getD_some])
    refine hj.mono fun e w' ⟨v', h3, h4, h5, h6⟩ => ?_
    refine ⟨_, _, h3, rfl, h6, ?_⟩
    rcases h4.2 with ⟨rfl, _⟩ | ⟨g, cap', cur, rfl, h7, h8, h9, h10, h11, h12⟩
    · exact absurd rfl h5
    · unfold Rep
      refine .inr ⟨g, 0, cap', rfl, h9, by simp only [maxLen] at h10; omega, (rows_iff _ _).2 fun i hi => ?_⟩
      have hil : i < l.length := by rw [strs_len] at hi; exact hi
      have hgs : g < w'.heap.size := (Array.getElem?_eq_some_iff.1 h8).1
      have hlb : (l[i]).length ≤ 9223372036854775807 := by
        obtain ⟨_, hrow⟩ := (rows_iff _ _).1 hrows i hi
        simp only [strs, List.getElem_map, AV.cells] at hrow
        unfold Cells at hrow
        obtain ⟨⟨v, _, _, hv⟩, _⟩ := hrow
        unfold Rep at hv
        exact hv.2
      have hcell : w'.cell? ⟨g, i, none⟩ = some (.string ⟨(l[i]).toArray⟩) := by
        rw [cell_of_row w' g i cur _ _ h8]
        have hi2 : i < ((List.take (strs l).length (l.map fun s => (⟨s.toArray⟩ : ByteArray))).map Value.string).length := by simp [strs_len, hil]
        have h13 := congrArg (·[i]?) h12
        simp only [Nat.mul_one] at h13
        rw [List.getElem?_take_of_lt hi] at h13
        rw [← Array.getElem?_toList, h13]
        simp [strs_len, hil]
      simp only [strs, List.getElem_map]
      refine ⟨rfl, ?_⟩
      simp only [AV.cells]
      unfold Cells
      refine ⟨⟨_, rfl, ⟨.inr ⟨h7, hgs⟩, by rw [Nat.zero_add, Nat.mul_one]; exact hcell⟩, by unfold Rep; exact ⟨rfl, hlb⟩⟩, by unfold Cells; trivial⟩
end Go.Proofs.YtiojkoaefabjbaaGreatDoor
