import Derived.Test.YtobdkjjakdjnaaaDoorHb
set_option linter.unusedVariables false
set_option linter.unusedSimpArgs false
set_option maxRecDepth 100000
namespace Go.Proofs.YtobdkjjakdjnaaaDoor
open Go.Av
def pairsOf (row : List Int) : List (List Int) := (List.range (row.length / 2)).map fun i => [1, row.getD (2 * i) 0, row.getD (2 * i + 1) 0]
def labLists (l : List (List UInt8)) : List (List Int) := l.flatMap fun s => [codes s, [0, sumL (codes s)]]
def rowLists (l : List (List UInt8)) (m : Nat) : List (List Int) := (List.range m).flatMap fun k => pairsOf (tier k (leaves l))
/-- The lists whose digests make the tree. -/
def listsOf (l : List (List UInt8)) : List (List Int) := labLists l ++ rowLists l (height l.length)
def pairB (ls : List (List Int)) (i k : Nat) : Bool := !(ls.getD i [] == ls.getD k []) && decide (sumL (ls.getD i []) = sumL (ls.getD k []))
/-- Two different lists with the same digest. -/
def collideB (ls : List (List Int)) : Bool := (List.range ls.length).any fun i => (List.range i).any fun k => pairB ls i k
theorem collide_true {ls : List (List Int)} {x y : List Int} (hx : x ∈ ls) (hy : y ∈ ls) (hne : x ≠ y) (hs : sumL x = sumL y) : collideB ls = true := by
  obtain ⟨i, hi, rfl⟩ := List.getElem_of_mem hx
  obtain ⟨k, hk, rfl⟩ := List.getElem_of_mem hy
  have key : ∀ i k (hi : i < ls.length) (hk : k < ls.length), k < i → ls[i] ≠ ls[k] → sumL ls[i] = sumL ls[k] → collideB ls = true := by
    intro i k hi hk hlt h1 h2
    unfold collideB
    rw [List.any_eq_true]
    refine ⟨i, List.mem_range.2 hi, ?_⟩
    rw [List.any_eq_true]
    refine ⟨k, List.mem_range.2 hlt, ?_⟩
    simp [pairB, hi, hk, h1, h2]
  rcases Nat.lt_trichotomy k i with h | h | h
  · exact key i k hi hk h hne hs
  · subst h; exact absurd rfl hne
  · exact key k i hk hi h (fun e => hne e.symm) hs.symm
def NC (ls : List (List Int)) : Prop := ∀ x ∈ ls, ∀ y ∈ ls, sumL x = sumL y → x = y
theorem nc_of {ls : List (List Int)} (h : collideB ls = false) : NC ls := fun x hx y hy hs => by
  by_cases he : x = y
  · exact he
  · rw [collide_true hx hy he hs] at h; cases h
theorem getD_mem (row : List Int) (i : Nat) (h : i < row.length) : row.getD i 0 ∈ row := by
  rw [List.getD_eq_getElem?_getD, List.getElem?_eq_getElem h]; exact List.getElem_mem h
theorem tree_value (l : List (List UInt8)) : ∀ k, k ≤ height l.length → ∀ v ∈ tier k (leaves l), (∃ s ∈ l, v = sumL [0, sumL (codes s)]) ∨
    ∃ j a b, j < k ∧ a ∈ tier j (leaves l) ∧ b ∈ tier j (leaves l) ∧ v = sumL [1, a, b] ∧ [1, a, b] ∈ rowLists l (height l.length)
  | 0, _, v, hv => by
    left
    have hv : v ∈ l.map leaf := hv
    obtain ⟨s, hs, rfl⟩ := List.mem_map.1 hv
    exact ⟨s, hs, rfl⟩
  | k + 1, hk, v, hv => by
    have hv : v ∈ up (tier k (leaves l)) := hv
    rw [up_eq] at hv
    obtain ⟨i, hi, rfl⟩ := List.mem_map.1 hv
    rw [List.mem_range] at hi
    unfold upEl
    split
    · rename_i h
      right
      refine ⟨k, _, _, by omega, getD_mem _ (2 * i) (by omega), getD_mem _ (2 * i + 1) (by omega), rfl, ?_⟩
      unfold rowLists
      rw [List.mem_flatMap]
      refine ⟨k, List.mem_range.2 (by omega), ?_⟩
      unfold pairsOf
      rw [List.mem_map]
      exact ⟨i, List.mem_range.2 (by omega), rfl⟩
    · rename_i h
      rcases tree_value l k (by omega) _ (getD_mem _ (2 * i) (by omega)) with h1 | ⟨j, a, b, h1, h2, h3, h4, h5⟩
      · exact .inl h1
      · exact .inr ⟨j, a, b, by omega, h2, h3, h4, h5⟩
def InTree (l : List (List UInt8)) (v : Int) : Prop := ∃ k, k ≤ height l.length ∧ v ∈ tier k (leaves l)
theorem lab_in {l : List (List UInt8)} {s : List UInt8} (h : s ∈ l) : codes s ∈ listsOf l ∧ [0, sumL (codes s)] ∈ listsOf l := by
  constructor <;> (unfold listsOf labLists; rw [List.mem_append]; left; rw [List.mem_flatMap]; exact ⟨s, h, by simp⟩)
theorem row_in {l : List (List UInt8)} {x : List Int} (h : x ∈ rowLists l (height l.length)) : x ∈ listsOf l := List.mem_append_right _ h
/-- What is climbed to a value of the tree began at one of its labels, unless lists collide. -/
theorem climb_in (l : List (List UInt8)) (s : List UInt8) (n : Nat) : ∀ (m : Nat) (path : List Int), path.length = m → InTree l (clFold s n path).d → NC ((clFold s n path).ls ++ listsOf l) → s ∈ l
  | 0, path, hm, ⟨k, hk, hv⟩, hnc => by
    have : path = [] := List.length_eq_zero_iff.1 hm
    subst this
    have hv : sumL [0, sumL (codes s)] ∈ tier k (leaves l) := hv
    have hnc : NC ([codes s, [0, sumL (codes s)]] ++ listsOf l) := hnc
    rcases tree_value l k hk _ hv with ⟨s', hs', he⟩ | ⟨j, a, b, _, _, _, he, hr⟩
    · have h1 := hnc _ (by simp) _ (List.mem_append_right _ (lab_in hs').2) he
      have h2 : sumL (codes s) = sumL (codes s') := by simpa using h1
      have h3 := hnc (codes s) (by simp) (codes s') (List.mem_append_right _ (lab_in hs').1) h2
      rw [codes_inj h3]; exact hs'
    · have h1 := hnc [0, sumL (codes s)] (by simp) _ (List.mem_append_right _ (row_in hr)) he
      simp at h1
  | m + 1, path, hm, ⟨k, hk, hv⟩, hnc => by
    rcases List.eq_nil_or_concat path with rfl | ⟨p, b, rfl⟩
    · simp at hm
    · have hp : p.length = m := by simpa using hm
      rw [List.concat_eq_append, clFold_snoc] at hv hnc
      have ih := climb_in l s n m p hp
      generalize hc : clFold s n p = c at hv hnc ih
      by_cases hb : b = -1
      · have e : clStep c b = { c with n := c.n / 2 } := by rw [clStep, if_pos hb]
        rw [e] at hv hnc
        exact ih ⟨k, hk, hv⟩ hnc
      · have key : ∀ L : List Int, (∃ x y, L = [1, x, y] ∧ (x = c.d ∨ y = c.d)) → clStep c b = { d := sumL L, ls := c.ls ++ [L], n := c.n / 2 } → s ∈ l := by
          rintro L ⟨x, y, rfl, hxy⟩ e
          rw [e] at hv hnc
          have hv : sumL [1, x, y] ∈ tier k (leaves l) := hv
          have hnc : NC ((c.ls ++ [[1, x, y]]) ++ listsOf l) := hnc
          have hsub : NC (c.ls ++ listsOf l) := fun u hu v hv hs => hnc u (by simp only [List.mem_append] at hu ⊢; rcases hu with h | h <;> simp [h]) v (by simp only [List.mem_append] at hv ⊢; rcases hv with h | h <;> simp [h]) hs
          rcases tree_value l k hk _ hv with ⟨s', hs', he⟩ | ⟨j, a, b', hj, ha, hb', he, hr⟩
          · have h1 := hnc [1, x, y] (by simp) _ (List.mem_append_right _ (lab_in hs').2) he
            simp at h1
          · have h1 := hnc [1, x, y] (by simp) _ (List.mem_append_right _ (row_in hr)) he
            simp only [List.cons.injEq, and_true, true_and] at h1
            refine ih ?_ hsub
            rcases hxy with h | h
            · exact ⟨j, by omega, by rw [← h, h1.1]; exact ha⟩
            · exact ⟨j, by omega, by rw [← h, h1.2]; exact hb'⟩
        by_cases ho : c.n % 2 = 1
        · exact key [1, b, c.d] ⟨_, _, rfl, .inr rfl⟩ (by rw [clStep, if_neg hb, if_pos ho])
        · exact key [1, c.d, b] ⟨_, _, rfl, .inl rfl⟩ (by rw [clStep, if_neg hb, if_neg ho])
theorem contents_law {keys : List Int} {d : DD} {s : List UInt8} {i : Int} {path : List Int} {l : List (List UInt8)} (hv : verifyE keys d s i path = 0) (hne : l ≠ []) (hl : l.length ≤ 1000) (hr : d.root = rootOf l) (hs : s ∉ l) :
    collideB ((climbOf s i path).2 ++ listsOf l) = true := by
  obtain ⟨_, _, hm, hu⟩ := verify_zero.1 hv
  simp only [unpB, Bool.or_eq_false_iff, Bool.not_eq_false', decide_eq_true_eq] at hu
  obtain ⟨h1, h2⟩ := hu
  cases hc : collideB ((climbOf s i path).2 ++ listsOf l) with
  | true => rfl
  | false =>
    exfalso
    have hnc := nc_of hc
    unfold climbOf at h1 h2 hnc
    split at h1
    · simp at h1
    · rename_i hb
      rw [if_neg hb] at h2 hnc
      refine hs (climb_in l s i.toNat path.length path rfl ?_ hnc)
      have hpos : 0 < l.length := List.length_pos_iff.2 hne
      refine ⟨height l.length, Nat.le_refl _, ?_⟩
      have h2 : (clFold s i.toNat path).d = d.root := h2
      rw [h2, hr, rootOf_eq l hne hl]
      unfold root
      have ht := tier_top (leaves l) (by simpa using hpos)
      rw [leaves_length] at ht ⊢
      exact getD_mem _ 0 (by omega)
theorem labLists_len (l : List (List UInt8)) : (labLists l).length = 2 * l.length := by
  induction l with
  | nil => rfl
  | cons a r ih => unfold labLists at *; simp only [List.flatMap_cons, List.length_append, ih]; simp; omega
theorem labLists_succ (l : List (List UInt8)) (k : Nat) (h : k < l.length) : labLists (l.take (k + 1)) = labLists (l.take k) ++ [codes l[k], [0, sumL (codes l[k])]] := by
  rw [List.take_succ_eq_append_getElem h]; unfold labLists; rw [List.flatMap_append]; simp
theorem rowLists_succ (l : List (List UInt8)) (k : Nat) : rowLists l (k + 1) = rowLists l k ++ pairsOf (tier k (leaves l)) := by
  unfold rowLists; rw [List.range_succ, List.flatMap_append]; simp
theorem pairsOf_len (row : List Int) : (pairsOf row).length = row.length / 2 := by simp [pairsOf]
theorem pairsOf_take (row : List Int) (k : Nat) (h : k < row.length / 2) : (pairsOf row).take (k + 1) = (pairsOf row).take k ++ [[1, row.getD (2 * k) 0, row.getD (2 * k + 1) 0]] := by
  rw [List.take_succ_eq_append_getElem (by rw [pairsOf_len]; exact h)]; simp [pairsOf]
theorem Lists_spec (l : List (List UInt8)) (hl : l.length ≤ 1000) (hne : l ≠ []) (hs : ∀ s ∈ l, s.length ≤ 1000000) : Ctr Tryd.prog 30 [.sl 1 (strs l)] (fun r => r = .sl 1 (rowsA (listsOf l))) := by
  have ht := treeOf_eq l hne hl
  have htl : (treeOf l).length = height l.length + 1 := by rw [ht]; simp [tiers]
  refine Ctr.of_body Tryd.func30 rfl tys_ok (by kernel_rfl) ?_
  conv => whnf
  refine cd_sound tys_ok _ ?_
  conv => whnf
  refine ACall.of_spec (refTree_spec l (by omega) hs) rfl fun r hr => ?_
  subst hr
  conv => whnf
  refine ACode.nilArr 3 22 1 rfl ?_
  conv => whnf
  refine ACode.loopD (fun k : Nat => mk 72 [(0, .sl 1 (strs l)), (3, .own 0 1 0 (labLists (l.take k)).length), (4, .sl 1 (rowsA (treeOf l))), (5, .int .i64 k)]) (fun k => [HO.arr 22 1 (rowsA (labLists (l.take k)))]) (fun k => k ≤ l.length) (fun k => l.length - k) (fun k hk => ⟨rfl, closed_rowsA _, trivial⟩) ⟨0, ?_⟩ (fun _ => rfl) fun k hk => ?_
  · conv => whnf
    repeat (refine And.intro ?_ ?_; (focus (first | rfl | (simp; done))); conv => whnf)
    exact Nat.zero_le _
  · refine cd_sound tys_ok _ ?_
    conv => whnf
    refine ⟨fun hlt => ?_, fun hge => ?_⟩
    · have hlt : k < l.length := by simpa using hlt
      have hsk := hs l[k] (List.getElem_mem hlt)
      conv => whnf
      refine ⟨fun _ => ?_, fun h => absurd h (by simp [htl])⟩
      conv => whnf
      refine ACode.drawI [11] [13] tys_ok (by kernel_rfl) (by kernel_rfl) ?_
      conv => whnf
      refine ⟨by omega, .str l[k], strs_get l k hlt, ?_⟩
      conv => whnf
      refine ⟨_, ⟨Codes_spec l[k] hsk, rfl⟩, ?_⟩
      conv => whnf
      refine ⟨by omega, .str l[k], strs_get l k hlt, ?_⟩
      conv => whnf
      refine ⟨_, ⟨refLabel_spec l[k] hsk, rfl⟩, ?_⟩
      conv => whnf
      have hll := labLists_len (l.take k)
      have htk : (l.take k).length = k := by simp; omega
      have e : rowsA (labLists (l.take k)) ++ [.sl 1 (ints (codes l[k])), .sl 1 [.int .i64 0, .int .i64 (sumL (codes l[k]))]] = rowsA (labLists (l.take (k + 1))) := by
        rw [labLists_succ l k hlt, rowsA_append]; rfl
      refine ⟨rfl, ?_⟩
      conv => whnf
      refine ⟨⟨by simp [rowsA], by simp [rowsA]; omega⟩, ?_⟩
      rw [e]
      conv => whnf
      refine ⟨k + 1, ?_⟩
      conv => whnf
      repeat (refine And.intro ?_ ?_; (focus (first | rfl | (simp; done) | (rw [Wr64 _ (by omega) (by omega)]; omega))); conv => whnf)
      exact ⟨by omega, by omega⟩
    · simp at hge
      conv => whnf
      have hk' : l.take k = l := List.take_of_length_le hge
      rw [hk']
      have hh := height_le l.length
      have hll := labLists_len l
      refine ACode.loopD (fun k : Nat => mk 72 [(3, .own 0 1 0 (labLists l ++ rowLists l k).length), (4, .sl 1 (rowsA (treeOf l))), (6, .int .i64 k)]) (fun k => [HO.arr 22 1 (rowsA (labLists l ++ rowLists l k))]) (fun k => k ≤ height l.length ∧ (rowLists l k).length ≤ k * l.length) (fun k => height l.length - k) (fun k hk => ⟨rfl, closed_rowsA _, trivial⟩) ⟨0, ?_⟩ (fun _ => rfl) fun k hk => ?_
      · have hr0 : rowLists l 0 = [] := rfl
        conv => whnf
        repeat (refine And.intro ?_ ?_; (focus (first | rfl | (simp; done) | (rw [hr0, List.append_nil]))); conv => whnf)
        simp [hr0]
      · obtain ⟨hk, hrl⟩ := hk
        refine cd_sound tys_ok _ ?_
        conv => whnf
        rw [show (rowsA (treeOf l)).length = height l.length + 1 from by simp [rowsA, htl]]
        refine ⟨fun hlt => ?_, fun hge => ?_⟩
        · have hw : Wr .i64 ((k : Int) + 1) = k + 1 := Wr64 _ (by omega) (by omega)
          rw [hw] at hlt
          simp at hlt
          have hlt : k < height l.length := by omega
          have hget : (rowsA (treeOf l))[k]? = some (.sl 1 (ints (tier k (leaves l)))) := by rw [ht]; exact tiers_get _ _ _ (by omega)
          have hrow := tier_length_le k (leaves l)
          rw [leaves_length] at hrow
          have hsucc := rowLists_succ l k
          generalize hrw : tier k (leaves l) = row at *
          conv => whnf
          refine ACode.loopD (fun i : Nat => mk 72 [(3, .own 0 1 0 (labLists l ++ (rowLists l k ++ (pairsOf row).take i)).length), (4, .sl 1 (rowsA (treeOf l))), (6, .int .i64 k), (7, .int .i64 ((2 * i : Nat) : Int))]) (fun i => [HO.arr 22 1 (rowsA (labLists l ++ (rowLists l k ++ (pairsOf row).take i)))]) (fun i => i ≤ row.length / 2) (fun i => row.length / 2 - i) (fun k hk => ⟨rfl, closed_rowsA _, trivial⟩) ⟨0, ?_⟩ (fun _ => rfl) fun i hi => ?_
          · have ht0 : (pairsOf row).take 0 = [] := rfl
            conv => whnf
            repeat (refine And.intro ?_ ?_; (focus (first | rfl | (simp; done) | (rw [ht0, List.append_nil]))); conv => whnf)
            exact Nat.zero_le _
          · refine cd_sound tys_ok _ ?_
            conv => whnf
            refine ⟨by omega, _, hget, ?_⟩
            conv => whnf
            have hw2 : Wr .i64 (((2 * i : Nat) : Int) + 1) = ((2 * i + 1 : Nat) : Int) := by rw [Wr64 _ (by omega) (by omega)]; omega
            rw [hw2]
            refine ⟨fun hlt2 => ?_, fun hge2 => ?_⟩
            · have hlt2 : 2 * i + 1 < row.length := by simp at hlt2; omega
              have hg0 : (ints row)[2 * i]? = some (.int .i64 (row.getD (2 * i) 0)) := by rw [ints_get row (2 * i) (by omega)]; simp [show 2 * i < row.length by omega]
              have hg1 : (ints row)[2 * i + 1]? = some (.int .i64 (row.getD (2 * i + 1) 0)) := by rw [ints_get row (2 * i + 1) hlt2]; simp [hlt2]
              conv => whnf
              refine ACode.drawI [16] [18] tys_ok (by kernel_rfl) (by kernel_rfl) ?_
              conv => whnf
              refine ⟨by omega, _, hget, ?_⟩
              conv => whnf
              refine ⟨by omega, _, hg0, ?_⟩
              conv => whnf
              refine ⟨by omega, _, hget, ?_⟩
              conv => whnf
              rw [hw2]
              refine ⟨by omega, _, hg1, ?_⟩
              conv => whnf
              refine ⟨rfl, ?_⟩
              conv => whnf
              have hkl : k * l.length ≤ 1000 * 1000 := Nat.mul_le_mul (by omega) hl
              have hpt := pairsOf_take row i (by omega)
              have htl2 : ((pairsOf row).take i).length ≤ 1000 := by rw [List.length_take, pairsOf_len]; omega
              refine ⟨⟨by simp [rowsA], by simp [rowsA]; omega⟩, ?_⟩
              have e : rowsA (labLists l ++ (rowLists l k ++ (pairsOf row).take i)) ++ [.sl 1 [.int .i64 1, .int .i64 (row.getD (2 * i) 0), .int .i64 (row.getD (2 * i + 1) 0)]] = rowsA (labLists l ++ (rowLists l k ++ (pairsOf row).take (i + 1))) := by
                rw [hpt]; simp [rowsA, ints]
              rw [e]
              conv => whnf
              refine ⟨i + 1, ?_⟩
              conv => whnf
              repeat (refine And.intro ?_ ?_; (focus (first | rfl | (simp; done) | (rw [Wr64 _ (by omega) (by omega)]; omega))); conv => whnf)
              exact ⟨by omega, by omega⟩
            · simp at hge2
              have hall : (pairsOf row).take i = pairsOf row := List.take_of_length_le (by rw [pairsOf_len]; omega)
              rw [hall, ← hsucc]
              have hkl : k * l.length ≤ 1000 * 1000 := Nat.mul_le_mul (by omega) hl
              have hl2 : (rowLists l (k + 1)).length ≤ (k + 1) * l.length := by
                rw [hsucc, List.length_append, pairsOf_len, Nat.add_mul]; omega
              conv => whnf
              refine ⟨k + 1, ?_⟩
              conv => whnf
              repeat (refine And.intro ?_ ?_; (focus (first | rfl | (simp; done) | (rw [Wr64 _ (by omega) (by omega)]; omega))); conv => whnf)
              exact ⟨⟨by omega, hl2⟩, by omega⟩
        · have hw : Wr .i64 ((k : Int) + 1) = k + 1 := Wr64 _ (by omega) (by omega)
          rw [hw] at hge
          simp at hge
          have hke : k = height l.length := by omega
          conv => whnf
          refine ⟨⟨by simp [rowsA], closed_rowsA _⟩, ?_⟩
          rw [hke]; rfl
theorem Collide_spec (ls : List (List Int)) (hl : ls.length ≤ 1000000) (hs : ∀ s ∈ ls, s.length ≤ 1000000) : Ctr Tryd.prog 29 [.sl 1 (rowsA ls)] (fun r => r = .bool (collideB ls)) := by
  refine Ctr.of_body Tryd.func29 rfl tys_ok (by kernel_rfl) ?_
  conv => whnf
  refine cd_sound tys_ok _ ?_
  conv => whnf
  refine ACode.loopD (fun i : Nat => mk 39 [(0, .sl 1 (rowsA ls)), (3, .int .i64 i)]) (fun k => []) (fun i => i ≤ ls.length ∧ ∀ j, j < i → (List.range j).any (pairB ls j) = false) (fun k => ls.length - k) (fun k hk => ⟨rfl, trivial⟩) ⟨0, ?_⟩ (fun _ => rfl) fun i hi => ?_
  · conv => whnf
    repeat (refine And.intro ?_ ?_; (focus (first | rfl | (simp; done))); conv => whnf)
    intro j hj; omega
  · obtain ⟨hi, hp⟩ := hi
    refine cd_sound tys_ok _ ?_
    conv => whnf
    refine ⟨fun hlt => ?_, fun hge => ?_⟩
    · have hlt : i < ls.length := by simpa using hlt
      conv => whnf
      refine ACode.loopD (fun k : Nat => mk 39 [(0, .sl 1 (rowsA ls)), (3, .int .i64 i), (4, .int .i64 k)]) (fun k => []) (fun k => k ≤ i ∧ ∀ j, j < k → pairB ls i j = false) (fun k => i - k) (fun k hk => ⟨rfl, trivial⟩) ⟨0, ?_⟩ (fun _ => rfl) fun k hk => ?_
      · conv => whnf
        repeat (refine And.intro ?_ ?_; (focus (first | rfl | (simp; done))); conv => whnf)
        intro j hj; omega
      · obtain ⟨hk, hq⟩ := hk
        have hgi : (rowsA ls)[i]? = some (.sl 1 (ints ls[i])) := by simp [rowsA, hlt]
        refine cd_sound tys_ok _ ?_
        conv => whnf
        refine ⟨fun hlt2 => ?_, fun hge => ?_⟩
        · have hlt2 : k < i := by simpa using hlt2
          have hgk : (rowsA ls)[k]? = some (.sl 1 (ints (ls[k]'(by omega)))) := by simp [rowsA, show k < ls.length by omega]
          have hli := hs _ (List.getElem_mem hlt)
          have hlk := hs _ (List.getElem_mem (show k < ls.length by omega))
          conv => whnf
          refine ACode.draw [] tys_ok (by kernel_rfl) (by kernel_rfl) ?_
          conv => whnf
          refine ⟨by omega, _, hgi, ?_⟩
          conv => whnf
          refine ⟨by omega, _, hgk, ?_⟩
          conv => whnf
          refine ⟨_, ⟨Ints_spec ls[i] (ls[k]'(by omega)) hli hlk, rfl⟩, ?_⟩
          conv => whnf
          have hlk2 : k < ls.length := by omega
          have hpe : pairB ls i k = (!(ls[i] == ls[k]'(by omega)) && decide (sumL ls[i] = sumL (ls[k]'(by omega)))) := by simp [pairB, hlt, show k < ls.length by omega]
          have nxt : pairB ls i k = false → ∀ j, j < k + 1 → pairB ls i j = false := fun h j hj => by
            rcases Nat.lt_or_ge j k with h2 | h2
            · exact hq j h2
            · obtain rfl : j = k := by omega
              exact h
          refine ⟨fun q => ?_, fun q => ?_⟩
          · conv => whnf
            refine ⟨k + 1, ?_⟩
            conv => whnf
            repeat (refine And.intro ?_ ?_; (focus (first | rfl | (simp; done) | (rw [Wr64 _ (by omega) (by omega)]; omega))); conv => whnf)
            exact ⟨⟨by omega, nxt (by rw [hpe, q]; rfl)⟩, by omega⟩
          · conv => whnf
            refine ⟨by omega, _, hgi, ?_⟩
            conv => whnf
            refine ⟨_, ⟨refSum_spec ls[i] hli, rfl⟩, ?_⟩
            conv => whnf
            refine ⟨by omega, _, hgk, ?_⟩
            conv => whnf
            refine ⟨_, ⟨refSum_spec ls[k] hlk, rfl⟩, ?_⟩
            conv => whnf
            refine ⟨fun q2 => ?_, fun q2 => ?_⟩
            · conv => whnf
              refine congrArg AV.bool ?_
              symm
              unfold collideB
              rw [List.any_eq_true]
              refine ⟨i, List.mem_range.2 hlt, ?_⟩
              rw [List.any_eq_true]
              exact ⟨k, List.mem_range.2 hlt2, by rw [hpe, q, q2]; rfl⟩
            · conv => whnf
              refine ⟨k + 1, ?_⟩
              conv => whnf
              repeat (refine And.intro ?_ ?_; (focus (first | rfl | (simp; done) | (rw [Wr64 _ (by omega) (by omega)]; omega))); conv => whnf)
              exact ⟨⟨by omega, nxt (by rw [hpe, q2]; simp)⟩, by omega⟩
        · simp at hge
          conv => whnf
          refine ⟨i + 1, ?_⟩
          conv => whnf
          repeat (refine And.intro ?_ ?_; (focus (first | rfl | (simp; done) | (rw [Wr64 _ (by omega) (by omega)]; omega))); conv => whnf)
          refine ⟨⟨by omega, fun j hj => ?_⟩, by omega⟩
          rcases Nat.lt_or_ge j i with h | h
          · exact hp j h
          · obtain rfl : j = i := by omega
            rw [List.any_eq_false]
            intro x hx
            rw [List.mem_range] at hx
            simp [hq x (by omega)]
    · simp at hge
      conv => whnf
      refine congrArg AV.bool ?_
      symm
      unfold collideB
      rw [List.any_eq_false]
      intro x hx
      rw [List.mem_range] at hx
      intro h
      have h2 := hp x (by omega)
      rw [show (List.range x).any (fun k => pairB ls x k) = (List.range x).any (pairB ls x) from rfl, h2] at h
      cases h
theorem clFold_rows2 (s : List UInt8) (n : Nat) (path : List Int) (hs : s.length ≤ 1000000) : ∀ r ∈ (clFold s n path).ls, r.length ≤ 1000000 := by
  unfold clFold
  suffices h : ∀ c : Cl, (∀ r ∈ c.ls, r.length ≤ 1000000) → ∀ r ∈ (path.foldl clStep c).ls, r.length ≤ 1000000 from h (cl0 s n) (by
    intro r hr; simp only [cl0, List.mem_cons, List.not_mem_nil, or_false] at hr; rcases hr with rfl | rfl <;> simp; omega)
  induction path with
  | nil => intro c hc; exact hc
  | cons b r ih =>
    intro c hc
    refine ih (clStep c b) ?_
    unfold clStep
    split
    · exact hc
    · split
      · intro r hr; simp only [List.mem_append, List.mem_singleton] at hr; rcases hr with hr | rfl; exact hc r hr; simp
      · intro r hr; simp only [List.mem_append, List.mem_singleton] at hr; rcases hr with hr | rfl; exact hc r hr; simp
theorem climb_len2 (s : List UInt8) (i : Int) (path : List Int) (hs : s.length ≤ 1000000) : (climbOf s i path).2.length ≤ 1000000 ∧ ∀ r ∈ (climbOf s i path).2, r.length ≤ 1000000 := by
  unfold climbOf
  split
  · simp
  · rename_i hb
    have h20 : path.length ≤ 20 := by
      unfold badClimb at hb; omega
    have := clFold_len s i.toNat path
    exact ⟨by simp only; omega, clFold_rows2 s i.toNat path hs⟩
theorem listsOf_rows (l : List (List UInt8)) (hs : ∀ s ∈ l, s.length ≤ 1000000) : ∀ r ∈ listsOf l, r.length ≤ 1000000 := by
  intro r hr
  unfold listsOf labLists rowLists at hr
  rcases List.mem_append.1 hr with h | h
  · obtain ⟨s, h1, h2⟩ := List.mem_flatMap.1 h
    simp only [List.mem_cons, List.not_mem_nil, or_false] at h2
    rcases h2 with rfl | rfl
    · simpa using hs s h1
    · simp
  · obtain ⟨k, _, h2⟩ := List.mem_flatMap.1 h
    unfold pairsOf at h2
    obtain ⟨i, _, rfl⟩ := List.mem_map.1 h2
    simp
theorem rowLists_len (l : List (List UInt8)) : ∀ k, (rowLists l k).length ≤ k * l.length
  | 0 => by simp [rowLists]
  | k + 1 => by
    have h1 := rowLists_len l k
    have h2 := tier_length_le k (leaves l)
    rw [leaves_length] at h2
    rw [rowLists_succ, List.length_append, pairsOf_len, Nat.add_mul]; omega
theorem law5 (keys : List Int) (d : DD) (s : List UInt8) (i : Int) (path : List Int) (l : List (List UInt8))
    (hk : keys.length ≤ 9223372036854775807) (hd : d.lab.length ≤ 9223372036854775807) (hs : s.length ≤ 9223372036854775807) (hl : l.length ≤ 9223372036854775807) (hls : ∀ s ∈ l, s.length ≤ 9223372036854775807) :
    Ctr Tryd.prog 7 [.sl 1 (ints keys), papA d s i path, .sl 1 (strs l)] (fun r => r = .bool true) := by
  refine Ctr.of_body Tryd.func7 rfl tys_ok (by kernel_rfl) ?_
  conv => whnf
  refine cd_sound tys_ok _ ?_
  conv => whnf
  refine ACall.of_spec (head33_spec) rfl fun r hr => ?_
  subst hr
  conv => whnf
  refine ACode.draw [] tys_ok (by kernel_rfl) (by kernel_rfl) ?_
  conv => whnf
  refine ⟨_, ⟨Small_spec keys l d.lab path, rfl⟩, ?_⟩
  conv => whnf
  refine ⟨fun e1 => ?_, fun e1 => ?_⟩; rotate_left
  · conv => whnf
  try simp at e1
  obtain ⟨a1, a2, a3, a4, a5⟩ := small_all e1
  conv => whnf
  refine ⟨_, ⟨refContents_spec l hl hls, rfl⟩, ?_⟩
  conv => whnf
  refine ⟨fun e2 => ?_, fun e2 => ?_⟩; rotate_left
  · conv => whnf
  try simp at e2
  conv => whnf
  refine ⟨_, ⟨Verify_spec keys d s i path hd hs (by omega), rfl⟩, ?_⟩
  conv => whnf
  refine ⟨fun e3 => ?_, fun e3 => ?_⟩
  · conv => whnf
  try simp at e3
  conv => whnf
  refine ⟨_, ⟨Root_spec l (by omega) (fun s h => by have := a5 s h; omega), rfl⟩, ?_⟩
  conv => whnf
  refine ⟨fun e4 => ?_, fun e4 => ?_⟩
  · conv => whnf
  try simp at e4
  conv => whnf
  have hlab : ∀ x ∈ l, x.length ≤ 1000000 := fun x h => by have := a5 x h; omega
  have hne : l ≠ [] := by rintro rfl; simp [contB] at e2
  refine ACode.loopD (fun k : Nat => mk 78 [(2, .sl 1 (strs l)), (4, .ptr 0 0), (7, .bool true), (8, .int .i64 k)]) (fun _ => [HO.cells [.str d.lab, .int .i64 d.frm, .int .i64 d.to, .int .i64 d.time, .int .i64 d.count, .int .i64 d.root, .int .i64 d.give, .int .i64 d.take, .str s, .int .i64 i, .sl 1 (ints path)]] ++ List.replicate 29 HO.dead) (fun k => k ≤ l.length ∧ ∀ x ∈ l.take k, x ≠ s) (fun k => l.length - k) (fun k hk => ⟨rfl, rfl, trivial⟩) ⟨0, ?_⟩ (fun _ => rfl) fun k hk => ?_
  · conv => whnf
    repeat (refine And.intro ?_ ?_; (focus (first | rfl | (simp; done))); conv => whnf)
    simp
  · obtain ⟨hk, hq⟩ := hk
    refine cd_sound tys_ok _ ?_
    conv => whnf
    refine ⟨fun hlt => ?_, fun hge => ?_⟩
    · have hlt : k < l.length := by simpa using hlt
      conv => whnf
      refine ACode.draw [] tys_ok (by kernel_rfl) (by kernel_rfl) ?_
      conv => whnf
      refine ⟨by omega, _, strs_get l k hlt, ?_⟩
      conv => whnf
      refine ⟨fun q => ?_, fun q => ?_⟩
      · conv => whnf
      · simp at q
        conv => whnf
        refine ⟨k + 1, ?_⟩
        conv => whnf
        repeat (refine And.intro ?_ ?_; (focus (first | rfl | (simp; done) | (rw [Wr64 _ (by omega) (by omega)]; omega))); conv => whnf)
        refine ⟨⟨by omega, fun x hx => ?_⟩, by omega⟩
        rw [List.take_succ_eq_append_getElem hlt] at hx
        simp only [List.mem_append, List.mem_singleton] at hx
        rcases hx with hx | rfl
        · exact hq x hx
        · exact q
    · simp at hge
      rw [List.take_of_length_le hge] at hq
      have hns : s ∉ l := fun h => hq s h rfl
      have hcl := contents_law e3 hne (by omega) e4 hns
      have hmis := (verify_zero.1 e3).2.2.1
      simp [misB, belowB] at hmis
      have hsl := labelB_len hmis.1
      have hdb := (docB_iff _ _).1 (mal_doc (verify_zero.1 e3).1).2
      conv => whnf
      refine ACall.of_spec (Climb_spec s i path (by omega) (by omega) (by omega)) rfl fun r hr => ?_
      subst hr
      conv => whnf
      refine ⟨fun _ => ?_, fun h => absurd h (by simp)⟩
      conv => whnf
      have hcll := climb_len2 s i path (by omega)
      have hcln : (climbOf s i path).2.length ≤ 40 := by
        unfold climbOf
        split
        · simp
        · have := clFold_len s i.toNat path
          show (clFold s i.toNat path).ls.length ≤ 40
          omega
      have hh := height_le l.length
      have hln : (listsOf l).length ≤ 10000 := by
        have h1 := labLists_len l
        have h2 := rowLists_len l (height l.length)
        have h3 : height l.length * l.length ≤ 45 * 45 := Nat.mul_le_mul (by omega) (by omega)
        unfold listsOf
        rw [List.length_append]; omega
      refine ⟨⟨rfl, by simp [rowsA]; omega⟩, ?_⟩
      rw [List.nil_append]
      conv => whnf
      refine ACall.of_spec (Lists_spec l (by omega) hne hlab) rfl fun r hr => ?_
      subst hr
      conv => whnf
      refine ⟨⟨rfl, by simp [rowsA]; omega⟩, ?_⟩
      rw [← rowsA_append]
      conv => whnf
      refine ACall.of_vcall ⟨⟨by simp [rowsA], closed_rowsA _⟩, .bool true, ⟨?_, rfl⟩, ?_⟩ (by kernel_rfl)
      · have := Collide_spec ((climbOf s i path).2 ++ listsOf l) (by rw [List.length_append]; omega) (fun r hr => by
          rcases List.mem_append.1 hr with h | h
          · exact hcll.2 r h
          · exact listsOf_rows l hlab r h)
        rw [hcl] at this
        exact this
      · conv => whnf
end Go.Proofs.YtobdkjjakdjnaaaDoor
