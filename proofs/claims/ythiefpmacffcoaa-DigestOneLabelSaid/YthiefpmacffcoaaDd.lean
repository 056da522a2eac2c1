import Derived.Test.YthiefpmacffcoaaDc
set_option linter.unusedVariables false
set_option linter.unusedSimpArgs false
namespace Go.Proofs.Ythiefpmacffcoaa
open Go.Av
/-- Every element of a row is a digest. -/
def Bd (row : List Int) : Prop := ∀ j, 0 ≤ row.getD j 0 ∧ row.getD j 0 < 2147483647
theorem bd_up {row : List Int} (h : Bd row) : Bd (up row) := by
  intro j
  rcases Nat.lt_or_ge j ((row.length + 1) / 2) with hj | hj
  · rw [up_getD _ _ hj, upEl]
    split
    · exact sumL_bd _
    · exact h _
  · simp [List.getD, List.getElem?_eq_none (show (up row).length ≤ j by rw [up_length]; omega)]
theorem bd_tier {r : List Int} (h : Bd r) : ∀ k, Bd (tier k r)
  | 0 => h
  | k + 1 => bd_up (bd_tier h k)
theorem bd_leaves (l : List (List UInt8)) : Bd (leaves l) := by
  intro j
  rcases Nat.lt_or_ge j l.length with hj | hj
  · rw [leaves_getD l j hj]; exact sumL_bd _
  · simp [List.getD, List.getElem?_eq_none (show (leaves l).length ≤ j by simpa using hj)]
theorem height_pow : ∀ (m n : Nat), n ≤ 2 ^ m → height n ≤ m
  | 0, n, h => by rw [height, if_pos (by simpa using h)]; omega
  | m + 1, n, h => by
    rw [height]
    split
    · omega
    · have : (n + 1) / 2 ≤ 2 ^ m := by rw [Nat.pow_succ] at h; omega
      have := height_pow m _ this
      omega
theorem sib_cases (row : List Int) (m : Nat) (hb : Bd row) (hm : m < row.length) :
    (sib row (m : Int) = -1 ∧ m % 2 = 0 ∧ m + 1 = row.length) ∨ (sib row (m : Int) = row.getD (m - 1) 0 ∧ m % 2 = 1) ∨ (sib row (m : Int) = row.getD (m + 1) 0 ∧ m % 2 = 0 ∧ m + 1 < row.length) := by
  unfold sib
  split
  · exact .inr (.inl ⟨by simp, by omega⟩)
  · split
    · exact .inr (.inr ⟨by simp, by omega, by omega⟩)
    · exact .inl ⟨rfl, by omega, by omega⟩
theorem sib_bd (row : List Int) (m : Nat) (hb : Bd row) (hm : m < row.length) : -1 ≤ sib row (m : Int) ∧ sib row (m : Int) < 2147483647 := by
  rcases sib_cases row m hb hm with ⟨h, _⟩ | ⟨h, _⟩ | ⟨h, _⟩ <;> rw [h]
  · decide
  · have := hb (m - 1); omega
  · have := hb (m + 1); omega
theorem sib_none (row : List Int) (m : Nat) (hb : Bd row) (hm : m < row.length) : sib row (m : Int) = -1 ↔ (m + 1 = row.length ∧ m % 2 = 0) := by
  have h1 := hb (m - 1)
  have h2 := hb (m + 1)
  rcases sib_cases row m hb hm with ⟨h, _⟩ | ⟨h, _⟩ | ⟨h, _⟩ <;> rw [h] <;> constructor <;> omega
theorem clFold_snoc (s : List UInt8) (n : Nat) (p : List Int) (b : Int) : clFold s n (p ++ [b]) = clStep (clFold s n p) b := by
  unfold clFold; rw [List.foldl_append]; rfl
/-- Climbing along the path from a leaf leads to the element above it in each row. -/
theorem cl_path (s : List UInt8) (r : List Int) (n : Nat) (hn : n < r.length) (hs : r.getD n 0 = leaf s) (hb : Bd r) :
    ∀ k, k ≤ height r.length → (clFold s n (pathL r n k)).d = (tier k r).getD (n / 2 ^ k) 0 ∧ (clFold s n (pathL r n k)).n = n / 2 ^ k ∧ 2 ≤ (clFold s n (pathL r n k)).ls.length
  | 0, _ => by
    refine ⟨?_, ?_, ?_⟩
    · simp [pathL, clFold, cl0, tier, List.getD] at hs ⊢; exact hs.symm
    · simp [pathL, clFold, cl0]
    · simp [pathL, clFold, cl0]
  | k + 1, hk => by
    obtain ⟨h1, h2, h3⟩ := cl_path s r n hn hs hb k (by omega)
    rw [pathL_succ r n k (by omega), clFold_snoc]
    have hi := tier_idx n r hn k
    have hbk := bd_tier hb k
    generalize hm : n / 2 ^ k = m at *
    have hm1 : n / 2 ^ (k + 1) = m / 2 := by rw [Nat.pow_succ, ← Nat.div_div_eq_div_mul, hm]
    have hup : tier (k + 1) r = up (tier k r) := rfl
    rw [hm1, hup, up_getD _ _ (by omega)]
    generalize tier k r = row at *
    generalize clFold s n (pathL r n k) = c at *
    have c1 := hbk (m - 1)
    have c2 := hbk (m + 1)
    rcases sib_cases row m hbk hi with ⟨h, h5, h6⟩ | ⟨h, h5⟩ | ⟨h, h5, h6⟩
    · rw [h, clStep, if_pos rfl, upEl, if_neg (by omega)]
      refine ⟨?_, ?_, h3⟩
      · rw [show 2 * (m / 2) = m by omega]; exact h1
      · simp only [h2]
    · rw [h, clStep, if_neg (by omega), if_pos (by rw [h2]; exact h5), upEl, if_pos (by omega)]
      refine ⟨?_, ?_, by simp; omega⟩
      · rw [show 2 * (m / 2) = m - 1 by omega, show m - 1 + 1 = m by omega, h1]
      · simp only [h2]
    · rw [h, clStep, if_neg (by omega), if_neg (by rw [h2]; omega), upEl, if_pos (by omega)]
      refine ⟨?_, ?_, by simp; omega⟩
      · rw [show 2 * (m / 2) = m by omega, h1]
      · simp only [h2]
theorem pathL_in (r : List Int) (n : Nat) (hn : n < r.length) (hb : Bd r) (k : Nat) : ∀ b ∈ pathL r n k, -1 ≤ b ∧ b < 2147483647 := by
  intro b h
  unfold pathL at h
  simp only [List.mem_map] at h
  obtain ⟨j, hj, rfl⟩ := h
  exact sib_bd _ _ (bd_tier hb j) (tier_idx n r hn j)
theorem pathL_getD (r : List Int) (n k j : Nat) (h : j < min k (height r.length)) : (pathL r n k).getD j 0 = sib (tier j r) ((n / 2 ^ j : Nat) : Int) := by
  unfold pathL
  simp only [List.getD, List.getElem?_map, List.getElem?_range h, Option.map_some, Option.getD_some]
theorem good_path (r : List Int) (n : Nat) (hn : n < r.length) (hb : Bd r) (hr : r.length ≤ 1000) (k : Nat) : ¬ badClimb (n : Int) (pathL r n k) := by
  have hh := height_pow 10 r.length (by omega)
  unfold badClimb
  rintro (h | h | h)
  · omega
  · rw [pathL_length] at h; omega
  · rw [List.any_eq_true] at h
    obtain ⟨b, h1, h2⟩ := h
    have := pathL_in r n hn hb k b h1
    simp [outB] at h2
    omega
theorem pathOf_eq (l : List (List UInt8)) (n : Nat) (hn : n < l.length) (hl : l.length ≤ 1000) : pathOf l (n : Int) = pathL (leaves l) n (height l.length) := by
  unfold pathOf; rw [if_neg (by omega)]; rfl
/-- Climbing from a label along its path leads to the root. -/
theorem climb_path (l : List (List UInt8)) (n : Nat) (s : List UInt8) (r : List Int) (hn : n < r.length) (hr : r.length ≤ 1000) (hs : r.getD n 0 = leaf s) (hb : Bd r) :
    (climbOf s (n : Int) (pathL r n (height r.length))).1 = root r ∧ 2 ≤ (climbOf s (n : Int) (pathL r n (height r.length))).2.length ∧ (climbOf s (n : Int) (pathL r n (height r.length))).2.length ≤ height r.length + 2 := by
  have hg := good_path r n hn hb hr (height r.length)
  have hi := tier_idx n r hn (height r.length)
  rw [tier_top r (by omega)] at hi
  obtain ⟨h1, h2, h3⟩ := cl_path s r n hn hs hb (height r.length) (Nat.le_refl _)
  have h4 := clFold_len s n (pathL r n (height r.length))
  rw [pathL_length, Nat.min_self] at h4
  unfold climbOf
  rw [if_neg hg]
  refine ⟨?_, h3, h4⟩
  show (clFold s n _).d = _
  rw [h1, root, show n / 2 ^ height r.length = 0 by omega]
end Go.Proofs.Ythiefpmacffcoaa

set_option linter.unusedVariables false
set_option linter.unusedSimpArgs false
namespace Go.Proofs.Ythiefpmacffcoaa
open Go.Av
set_option maxRecDepth 100000 in
theorem law6 (l : List (List UInt8)) (which : Int) (hl : l.length ≤ 9223372036854775807) (h0 : 0 ≤ which) (h1 : which ≤ 255) : Ctr Try.prog 6 [.sl 1 (strs l), .int .u8 which] (fun r => r = .bool true) := by
  refine Ctr.of_body Try.func6 rfl tys_ok (by kernel_rfl) ?_
  conv => whnf
  refine cd_sound tys_ok _ ?_
  conv => whnf
  refine ACall.of_spec head_spec rfl fun r hr => ?_
  subst hr
  conv => whnf
  refine ACall.of_spec (few_spec l 70 hl) rfl fun r hr => ?_
  subst hr
  conv => whnf
  refine ⟨fun h2 => ?_, fun _ => ?_⟩
  rotate_left
  · conv => whnf
  · have h2 : fewB l 70 = true := by simpa using h2
    obtain ⟨hl70, hs40⟩ := few_len h2
    have hlM : l.length ≤ 1000000 := by omega
    have hsM : ∀ s ∈ l, s.length ≤ 1000000 := fun s hs => by have := hs40 s hs; omega
    have hll := strs_length l
    conv => whnf
    refine ⟨fun _ => ?_, fun h => ?_⟩
    · conv => whnf
    · have hne : l ≠ [] := by rintro rfl; simp at h
      have hpos : 0 < l.length := List.length_pos_iff.2 hne
      have hh := height_le l.length
      have htop := tier_top (leaves l) (by simpa using hpos)
      rw [leaves_length] at htop
      have hroot : rootOf l = root (leaves l) := rootOf_eq l hne (by omega)
      conv => whnf
      refine ⟨by omega, ?_⟩
      conv => whnf
      obtain ⟨n, hn, hlt⟩ : ∃ n : Nat, (Wr .i64 which).tmod ((strs l).length : Int) = (n : Int) ∧ n < l.length := by
        refine ⟨which.toNat % l.length, ?_, Nat.mod_lt _ hpos⟩
        rw [Wr64 which (by omega) (by omega), hll, Int.tmod_eq_emod_of_nonneg h0, Int.natCast_emod, Int.toNat_of_nonneg h0]
      rw [hn]
      have hbl := bd_leaves l
      have hP := Path_spec l n hlM hsM
      rw [pathOf_eq l n hlt (by omega)] at hP
      obtain ⟨c1, c2, c3⟩ := climb_path l n l[n] (leaves l) (by simpa using hlt) (by simp; omega) (leaves_getD l n hlt) hbl
      have hpl : (pathL (leaves l) n (height l.length)).length = height l.length := by simp
      have hpm := fun j (h : j < height l.length) => pathL_getD (leaves l) n (height l.length) j (by simpa using h)
      rw [leaves_length] at c1 c2 c3
      generalize hp : pathL (leaves l) n (height l.length) = p at *
      refine ACall.of_spec hP rfl fun r hr => ?_
      subst hr
      conv => whnf
      refine ACall.of_spec (Tree_spec l hlM hsM) rfl fun r hr => ?_
      rw [treeOf_eq l hne (by omega)] at hr
      subst hr
      have htl : (rowsA (tiers (leaves l) (height l.length + 1))).length = height l.length + 1 := by simp
      have hget : ∀ k, k ≤ height l.length → (rowsA (tiers (leaves l) (height l.length + 1)))[k]? = some (.sl 1 (ints (tier k (leaves l)))) := fun k hk => tiers_get _ _ _ (by omega)
      have hil : ∀ k, (ints (tier k (leaves l))).length = (tier k (leaves l)).length := fun k => ints_length _
      conv => whnf
      refine ⟨by omega, _, strs_get l n hlt, ?_⟩
      conv => whnf
      refine ACall.of_spec (Climb_spec l[n] n p (hsM _ (List.getElem_mem hlt)) (by omega) (by omega)) rfl fun r hr => ?_
      subst hr
      rw [c1]
      generalize climbOf l[n] n p = c at *
      have hcl : (rowsA c.2).length = c.2.length := rowsA_length _
      have hpi : (ints p).length = height l.length := by simp [hpl]
      conv => whnf
      have hw1 : Wr .i64 (((ints p).length : Int) + 1) = ((rowsA (tiers (leaves l) (height l.length + 1))).length : Int) := by rw [hpi, htl, Wr64 _ (by omega) (by omega)]; omega
      have hw2 : Wr .i64 (((ints p).length : Int) + 2) = ((height l.length + 2 : Nat) : Int) := by rw [hpi, Wr64 _ (by omega) (by omega)]; omega
      refine ⟨fun _ => ?_, fun h => absurd h (ndec hw1)⟩
      conv => whnf
      refine ACall.of_spec (Root_spec l hlM hsM) rfl fun r hr => ?_
      subst hr
      conv => whnf
      refine ⟨fun _ => ?_, fun h => absurd h (ndec hroot.symm)⟩
      conv => whnf
      refine ⟨fun _ => ?_, fun h => absurd h (by simp; omega)⟩
      conv => whnf
      rw [hw2]
      refine ⟨fun h => absurd h (by simp; omega), fun _ => ?_⟩
      conv => whnf
      refine ACode.loopD (fun k : Nat => mk 95 [(5, .bool true), (6, .int .i64 ((n / 2 ^ k : Nat) : Int)), (7, .sl 1 (ints p)), (8, .sl 1 (rowsA (tiers (leaves l) (height l.length + 1)))), (11, .int .i64 k)]) (fun _ => []) (fun k => k ≤ height l.length) (fun k => height l.length - k) (fun k hk => ⟨rfl, trivial⟩) ⟨0, ?_⟩ (fun _ => rfl) fun k hk => ?_
      · conv => whnf
        repeat (refine ⟨by first | rfl | (simp), ?_⟩; conv => whnf)
        exact Nat.zero_le _
      · refine cd_sound tys_ok _ ?_
        conv => whnf
        rw [hpi]
        refine ⟨fun hlt2 => ?_, fun hge => ?_⟩
        · have hkh : k < height l.length := by simp at hlt2; omega
          have hidx := tier_idx n (leaves l) (by simpa using hlt) k
          have hq := sib_none _ _ (bd_tier hbl k) hidx
          rw [← hpm k hkh] at hq
          have hpk : (ints p)[k]? = some (.int .i64 (p.getD k 0)) := ints_getD p k (by omega)
          have hgk := hget k (by omega)
          have hlen := tier_length_le k (leaves l)
          have hm1 : n / 2 ^ (k + 1) = n / 2 ^ k / 2 := by rw [Nat.pow_succ, ← Nat.div_div_eq_div_mul]
          have hm2 : n / 2 ^ k ≤ n := Nat.div_le_self _ _
          rw [leaves_length] at hlen
          generalize hm : n / 2 ^ k = m at *
          have hmd : (m : Int).tmod 2 = ((m % 2 : Nat) : Int) := by rw [Int.tmod_eq_emod_of_nonneg (by omega)]; omega
          have hmq : Wr .i64 ((m : Int).tdiv 2) = ((n / 2 ^ (k + 1) : Nat) : Int) := by rw [hm1, Int.tdiv_eq_ediv_of_nonneg (by omega), Wr64 _ (by omega) (by omega)]; omega
          conv => whnf
          refine ACode.draw [] tys_ok (by kernel_rfl) (by kernel_rfl) ?_
          conv => whnf
          refine ⟨by omega, _, hpk, ?_⟩
          conv => whnf
          have hws : Wr .i64 (((ints (tier k (leaves l))).length : Int) - 1) = (((tier k (leaves l)).length - 1 : Nat) : Int) := by rw [ints_length, Wr64 _ (by omega) (by omega)]; omega
          refine ⟨fun hA => ?_, fun hA => ?_⟩
          · have hA : p.getD k 0 = -1 := by simpa using hA
            obtain ⟨q1, q2⟩ := hq.1 hA
            conv => whnf
            refine ⟨by omega, _, hgk, ?_⟩
            conv => whnf
            rw [hws]
            refine ⟨fun hB => ?_, fun hB => absurd hB (by simp; omega)⟩
            conv => whnf
            refine ⟨by decide, ?_⟩
            conv => whnf
            rw [hmd]
            refine ⟨fun hC => ?_, fun hC => absurd hC (by simp; omega)⟩
            conv => whnf
            refine ⟨fun h => absurd h (by decide), fun _ => ?_⟩
            conv => whnf
            refine ⟨by decide, ?_⟩
            conv => whnf
            refine ⟨k + 1, ?_⟩
            conv => whnf
            rw [hmq]
            repeat (refine ⟨by first | rfl | exact wr_succ k (by omega), ?_⟩; conv => whnf)
            exact ⟨by omega, by omega⟩
          · have hA : ¬ p.getD k 0 = -1 := by simpa using hA
            have hq2 := fun h => hA (hq.2 h)
            conv => whnf
            refine ⟨by omega, _, hgk, ?_⟩
            conv => whnf
            rw [hws]
            refine ⟨fun hB => ?_, fun hB => ?_⟩
            · have hB : m + 1 = (tier k (leaves l)).length := by simp at hB; omega
              conv => whnf
              refine ⟨by decide, ?_⟩
              conv => whnf
              rw [hmd]
              refine ⟨fun hC => absurd hC (by simp; omega), fun hC => ?_⟩
              conv => whnf
              refine ⟨fun h => absurd h (by decide), fun _ => ?_⟩
              conv => whnf
              refine ⟨by decide, ?_⟩
              conv => whnf
              refine ⟨k + 1, ?_⟩
              conv => whnf
              rw [hmq]
              repeat (refine ⟨by first | rfl | exact wr_succ k (by omega), ?_⟩; conv => whnf)
              exact ⟨by omega, by omega⟩
            · conv => whnf
              refine ⟨fun h => absurd h (by decide), fun _ => ?_⟩
              conv => whnf
              refine ⟨by decide, ?_⟩
              conv => whnf
              refine ⟨k + 1, ?_⟩
              conv => whnf
              rw [hmq]
              repeat (refine ⟨by first | rfl | exact wr_succ k (by omega), ?_⟩; conv => whnf)
              exact ⟨by omega, by omega⟩
        · conv => whnf
end Go.Proofs.Ythiefpmacffcoaa
