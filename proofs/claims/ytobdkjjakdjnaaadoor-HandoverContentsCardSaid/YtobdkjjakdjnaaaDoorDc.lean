import Derived.Test.YtobdkjjakdjnaaaDoorDb
set_option linter.unusedVariables false
set_option linter.unusedSimpArgs false
namespace Go.Proofs.YtobdkjjakdjnaaaDoor
open Go.Av
theorem stp_bd (h n : Int) : 0 ≤ stp h n ∧ stp h n < 2147483647 := by unfold stp; omega
theorem emod_sub (x y M : Int) (h : x % M = y % M) : ∃ q, x - y = M * q := by
  refine ⟨x / M - y / M, ?_⟩
  have h1 := Int.mul_ediv_add_emod x M
  have h2 := Int.mul_ediv_add_emod y M
  rw [Int.mul_sub]
  omega
theorem unit_dvd (M d q u t f : Int) (h : d * f = M * q) (hi : f * u = 1 + M * t) : d = M * (q * u - d * t) := by
  have h1 : d * f * u = M * q * u := by rw [h]
  rw [Int.mul_assoc, hi, Int.mul_add, Int.mul_one] at h1
  rw [Int.mul_sub, ← Int.mul_assoc, ← h1]
  have : d * (M * t) = M * (d * t) := by rw [← Int.mul_assoc, Int.mul_comm d M, Int.mul_assoc]
  omega
theorem small_zero (M d s : Int) (hM : 0 < M) (h : d = M * s) (h1 : -M < d) (h2 : d < M) : d = 0 := by
  rcases Int.lt_trichotomy s 0 with hs | hs | hs
  · have : M * s ≤ M * (-1) := Int.mul_le_mul_of_nonneg_left (by omega) (by omega)
    omega
  · subst hs; simpa using h
  · have : M * 1 ≤ M * s := Int.mul_le_mul_of_nonneg_left (by omega) (by omega)
    omega
theorem stp_inj (h1 h2 n : Int) (a0 : 0 ≤ h1) (a1 : h1 < 2147483647) (b0 : 0 ≤ h2) (b1 : h2 < 2147483647) (h : stp h1 n = stp h2 n) : h1 = h2 := by
  unfold stp at h
  obtain ⟨q, hq⟩ := emod_sub _ _ _ h
  clear h
  generalize n % 2147483647 = r at hq
  have hd : (h1 - h2) * 1000003 = 2147483647 * q := by rw [← hq, Int.sub_mul]; omega
  clear hq
  have hu : (1000003 : Int) * 1523789695 = 1 + 2147483647 * 709572 := by decide +kernel
  have hs := unit_dvd 2147483647 (h1 - h2) q 1523789695 709572 1000003 hd hu
  have hz := small_zero 2147483647 _ _ (by decide +kernel) hs (by clear hs hd; omega) (by clear hs hd; omega)
  clear hs hd
  omega
theorem stp_iff (h m n : Int) : stp h m = stp h n ↔ m % 2147483647 = n % 2147483647 := by
  unfold stp
  constructor
  · intro e; omega
  · intro e; rw [e]
theorem fold_inj : ∀ (l : List Int) (h1 h2 : Int), 0 ≤ h1 → h1 < 2147483647 → 0 ≤ h2 → h2 < 2147483647 → l.foldl stp h1 = l.foldl stp h2 → h1 = h2
  | [], _, _, _, _, _, _, h => h
  | n :: l, h1, h2, a0, a1, b0, b1, h => by
    have k1 := stp_bd h1 n
    have k2 := stp_bd h2 n
    exact stp_inj h1 h2 n a0 a1 b0 b1 (fold_inj l _ _ k1.1 k1.2 k2.1 k2.2 h)
theorem sumL_set (a : List Int) (k : Nat) (o : Int) (hk : k < a.length) : (sumL (a.set k o) = sumL a) ↔ (o % 2147483647 = a[k] % 2147483647) := by
  have e1 : a = a.take k ++ a[k] :: a.drop (k + 1) := by rw [← List.drop_eq_getElem_cons hk, List.take_append_drop]
  have e2 : a.set k o = a.take k ++ o :: a.drop (k + 1) := by
    rw [List.set_eq_take_append_cons_drop, if_pos hk]
  have hb := sumL_bd (a.take k)
  have f1 : sumL a = (a.drop (k + 1)).foldl stp (stp (sumL (a.take k)) a[k]) := by
    conv => lhs; rw [e1]
    unfold sumL; rw [List.foldl_append]; rfl
  have f2 : sumL (a.set k o) = (a.drop (k + 1)).foldl stp (stp (sumL (a.take k)) o) := by
    rw [e2]; unfold sumL; rw [List.foldl_append]; rfl
  rw [f1, f2, ← stp_iff (sumL (a.take k))]
  have k1 := stp_bd (sumL (a.take k)) o
  have k2 := stp_bd (sumL (a.take k)) a[k]
  constructor
  · exact fun h => fold_inj _ _ _ k1.1 k1.2 k2.1 k2.2 h
  · exact fun h => by rw [h]
end Go.Proofs.YtobdkjjakdjnaaaDoor

set_option linter.unusedVariables false
set_option linter.unusedSimpArgs false
namespace Go.Proofs.YtobdkjjakdjnaaaDoor
open Go.Av
theorem getD_append_left (a b : List Int) (i : Nat) (h : i < a.length) : (a ++ b).getD i 0 = a.getD i 0 := by
  simp [List.getD, List.getElem?_append_left h]
theorem getD_append_right (a b : List Int) (i : Nat) : (a ++ b).getD (a.length + i) 0 = b.getD i 0 := by
  simp [List.getD, List.getElem?_append_right (Nat.le_add_right a.length i)]
theorem up_append (a b : List Int) (h : a.length % 2 = 0) : up (a ++ b) = up a ++ up b := by
  rw [up_eq, up_eq, up_eq]
  have e : ((a ++ b).length + 1) / 2 = a.length / 2 + (b.length + 1) / 2 := by simp; omega
  have e2 : (a.length + 1) / 2 = a.length / 2 := by omega
  rw [e, e2, List.range_add, List.map_append, List.map_map]
  congr 1
  · apply List.map_congr_left
    intro i hi
    simp at hi
    have h1 : 2 * i + 1 < a.length := by omega
    have h2 : 2 * i + 1 < (a ++ b).length := by simp; omega
    simp only [upEl, h1, h2, if_true, getD_append_left a b _ (show 2 * i < a.length by omega), getD_append_left a b _ h1]
  · apply List.map_congr_left
    intro i hi
    simp at hi
    have e3 : 2 * (a.length / 2 + i) = a.length + 2 * i := by omega
    have e4 : 2 * (a.length / 2 + i) + 1 = a.length + (2 * i + 1) := by omega
    have e5 : (a.length + (2 * i + 1) < (a ++ b).length) ↔ (2 * i + 1 < b.length) := by simp
    simp only [Function.comp, upEl, e4, e5, getD_append_right]
    simp only [e3, getD_append_right]
theorem tier_len_pow : ∀ (j m : Nat) (a : List Int), j ≤ m → a.length = 2 ^ m → (tier j a).length = 2 ^ (m - j)
  | 0, m, a, _, h => by simpa [tier] using h
  | j + 1, m, a, hj, h => by
    have ih := tier_len_pow j m a (by omega) h
    show (up (tier j a)).length = _
    rw [up_length, ih]
    have : 2 ^ (m - j) = 2 * 2 ^ (m - (j + 1)) := by rw [← Nat.pow_succ']; congr 1; omega
    omega
theorem tier_append : ∀ (j m : Nat) (a b : List Int), j ≤ m → a.length = 2 ^ m → tier j (a ++ b) = tier j a ++ tier j b
  | 0, _, _, _, _, _ => rfl
  | j + 1, m, a, b, hj, h => by
    have ih := tier_append j m a b (by omega) h
    have hl := tier_len_pow j m a (by omega) h
    show up (tier j (a ++ b)) = up (tier j a) ++ up (tier j b)
    rw [ih, up_append]
    rw [hl]
    have : 2 ^ (m - j) = 2 * 2 ^ (m - (j + 1)) := by rw [← Nat.pow_succ']; congr 1; omega
    omega
theorem tier_len_le : ∀ (j : Nat) (b : List Int) (m : Nat), j ≤ m → b.length ≤ 2 ^ m → (tier j b).length ≤ 2 ^ (m - j)
  | 0, b, m, _, h => by simpa [tier] using h
  | j + 1, b, m, hj, h => by
    have ih := tier_len_le j b m (by omega) h
    show (up (tier j b)).length ≤ _
    rw [up_length]
    have : 2 ^ (m - j) = 2 * 2 ^ (m - (j + 1)) := by rw [← Nat.pow_succ']; congr 1; omega
    omega
theorem up_one (x : Int) : up [x] = [x] := by rw [up_eq]; simp [upEl]
def root (r : List Int) : Int := (tier (height r.length) r).getD 0 0
theorem tier_top (r : List Int) (h : 0 < r.length) : (tier (height r.length) r).length = 1 := by
  have h1 := tier_height (height r.length) r (Nat.le_refl _)
  have h2 := tier_pos (height r.length) r h
  omega
theorem tier_beyond (r : List Int) (h : 0 < r.length) (i : Nat) : tier (height r.length + i) r = tier (height r.length) r := by
  induction i with
  | zero => rfl
  | succ i ih =>
    show up (tier (height r.length + i) r) = _
    rw [ih]
    have ht := tier_top r h
    match hx : tier (height r.length) r with
    | [] => rw [hx] at ht; cases ht
    | [x] => exact up_one x
    | _ :: _ :: _ => rw [hx] at ht; simp at ht
theorem root_of_one (r : List Int) (h : 0 < r.length) (k : Nat) (hk : (tier k r).length = 1) : root r = (tier k r).getD 0 0 := by
  have hh : height r.length ≤ k := by
    rcases Nat.lt_or_ge k (height r.length) with hlt | hge
    · have := (tier_height k r (Nat.le_of_lt hlt)).2 hlt; omega
    · exact hge
  obtain ⟨i, rfl⟩ := Nat.exists_eq_add_of_le hh
  rw [tier_beyond r h i]; rfl
theorem rootOf_eq (l : List (List UInt8)) (hne : l ≠ []) (hl : l.length ≤ 1000) : rootOf l = root (leaves l) := by
  rw [rootOf, if_neg (by omega)]
  have hrl : (rowsOf l).length = height l.length + 1 := by simp [rowsOf, hne, levels_length]
  rw [rootL, if_neg (by omega), hrl]
  obtain ⟨_, _, h3⟩ := rowsOf_get l (height l.length) (by omega)
  have : (rowsOf l).getD (height l.length + 1 - 1) [] = (rowsOf l)[height l.length] := by simp [List.getD, List.getElem?_eq_getElem (show height l.length < (rowsOf l).length by omega)]
  rw [this, h3, root, leaves_length]
theorem root_halves (a b : List Int) (m : Nat) (ha : a.length = 2 ^ m) (hb : 0 < b.length) (hb2 : b.length ≤ 2 ^ m) : root (a ++ b) = sumL [1, root a, root b] := by
  have hla := tier_len_pow m m a (Nat.le_refl _) ha
  have hlb := tier_len_le m b m (Nat.le_refl _) hb2
  have hpb := tier_pos m b hb
  simp only [Nat.sub_self, Nat.pow_zero] at hla hlb
  have hlb1 : (tier m b).length = 1 := by omega
  have hpa : 0 < a.length := by rw [ha]; exact Nat.pow_pos (by omega)
  have hra := root_of_one a hpa m hla
  have hrb := root_of_one b hb m hlb1
  have ht : tier (m + 1) (a ++ b) = [sumL [1, root a, root b]] := by
    show up (tier m (a ++ b)) = _
    rw [tier_append m m a b (Nat.le_refl _) ha, hra, hrb]
    match h1 : tier m a, h2 : tier m b with
    | [x], [y] => rw [up_eq]; simp [upEl]
    | [], _ => rw [h1] at hla; cases hla
    | _ :: _ :: _, _ => rw [h1] at hla; simp at hla
    | [x], [] => rw [h2] at hlb1; cases hlb1
    | [x], _ :: _ :: _ => rw [h2] at hlb1; simp at hlb1
  rw [root_of_one (a ++ b) (by simp; omega) (m + 1) (by rw [ht]; rfl), ht]
  rfl
end Go.Proofs.YtobdkjjakdjnaaaDoor

set_option linter.unusedVariables false
set_option linter.unusedSimpArgs false
namespace Go.Proofs.YtobdkjjakdjnaaaDoor
open Go.Av
theorem tiers_get (r : List Int) (m k : Nat) (h : k < m) : (rowsA (tiers r m))[k]? = some (.sl 1 (ints (tier k r))) := by
  rw [rowsA_get _ _ (by simpa using h)]; simp [tiers]
theorem leaves_getD (l : List (List UInt8)) (k : Nat) (h : k < l.length) : (leaves l).getD k 0 = leaf l[k] := by
  simp [leaves, List.getD, h]
theorem up_getD (row : List Int) (i : Nat) (h : i < (row.length + 1) / 2) : (up row).getD i 0 = upEl row i := by
  rw [up_eq]; simp [List.getD, h]
theorem ndec {a b : Int} (h : a = b) : ¬ (!decide (a = b)) = true := by subst h; simp
theorem ndec' {a b : Int} (h : a = b) : ¬ decide (a = b) = false := by subst h; simp
end Go.Proofs.YtobdkjjakdjnaaaDoor

set_option linter.unusedVariables false
set_option linter.unusedSimpArgs false
namespace Go.Proofs.YtobdkjjakdjnaaaDoor
open Go.Av
/-- Every element of a row is a digest. -/
def Bd (row : List Int) : Prop := ∀ j, 0 ≤ row.getD j 0 ∧ row.getD j 0 < 2147483647
theorem bd_up {row : List Int} (h : Bd row) : Bd (up row) := by
  intro j
  rcases Nat.lt_or_ge j ((row.length + 1) / 2) with hj | hj
  · rw [up_getD _ _ hj, upEl]
    split
    · exact sumL_bd _
    · exact h _
  · simp [List.getD, List.getElem?_eq_none (show (up row).length ≤ j by rw [up_length]; omega)]
theorem bd_tier {r : List Int} (h : Bd r) : ∀ k, Bd (tier k r)
  | 0 => h
  | k + 1 => bd_up (bd_tier h k)
theorem bd_leaves (l : List (List UInt8)) : Bd (leaves l) := by
  intro j
  rcases Nat.lt_or_ge j l.length with hj | hj
  · rw [leaves_getD l j hj]; exact sumL_bd _
  · simp [List.getD, List.getElem?_eq_none (show (leaves l).length ≤ j by simpa using hj)]
theorem height_pow : ∀ (m n : Nat), n ≤ 2 ^ m → height n ≤ m
  | 0, n, h => by rw [height, if_pos (by simpa using h)]; omega
  | m + 1, n, h => by
    rw [height]
    split
    · omega
    · have : (n + 1) / 2 ≤ 2 ^ m := by rw [Nat.pow_succ] at h; omega
      have := height_pow m _ this
      omega
theorem sib_cases (row : List Int) (m : Nat) (hb : Bd row) (hm : m < row.length) :
    (sib row (m : Int) = -1 ∧ m % 2 = 0 ∧ m + 1 = row.length) ∨ (sib row (m : Int) = row.getD (m - 1) 0 ∧ m % 2 = 1) ∨ (sib row (m : Int) = row.getD (m + 1) 0 ∧ m % 2 = 0 ∧ m + 1 < row.length) := by
  unfold sib
  split
  · exact .inr (.inl ⟨by simp, by omega⟩)
  · split
    · exact .inr (.inr ⟨by simp, by omega, by omega⟩)
    · exact .inl ⟨rfl, by omega, by omega⟩
theorem sib_bd (row : List Int) (m : Nat) (hb : Bd row) (hm : m < row.length) : -1 ≤ sib row (m : Int) ∧ sib row (m : Int) < 2147483647 := by
  rcases sib_cases row m hb hm with ⟨h, _⟩ | ⟨h, _⟩ | ⟨h, _⟩ <;> rw [h]
  · decide
  · have := hb (m - 1); omega
  · have := hb (m + 1); omega
theorem sib_none (row : List Int) (m : Nat) (hb : Bd row) (hm : m < row.length) : sib row (m : Int) = -1 ↔ (m + 1 = row.length ∧ m % 2 = 0) := by
  have h1 := hb (m - 1)
  have h2 := hb (m + 1)
  rcases sib_cases row m hb hm with ⟨h, _⟩ | ⟨h, _⟩ | ⟨h, _⟩ <;> rw [h] <;> constructor <;> omega
theorem clFold_snoc (s : List UInt8) (n : Nat) (p : List Int) (b : Int) : clFold s n (p ++ [b]) = clStep (clFold s n p) b := by
  unfold clFold; rw [List.foldl_append]; rfl
/-- Climbing along the path from a leaf leads to the element above it in each row. -/
theorem cl_path (s : List UInt8) (r : List Int) (n : Nat) (hn : n < r.length) (hs : r.getD n 0 = leaf s) (hb : Bd r) :
    ∀ k, k ≤ height r.length → (clFold s n (pathL r n k)).d = (tier k r).getD (n / 2 ^ k) 0 ∧ (clFold s n (pathL r n k)).n = n / 2 ^ k ∧ 2 ≤ (clFold s n (pathL r n k)).ls.length
  | 0, _ => by
    refine ⟨?_, ?_, ?_⟩
    · simp [pathL, clFold, cl0, tier, List.getD] at hs ⊢; exact hs.symm
    · simp [pathL, clFold, cl0]
    · simp [pathL, clFold, cl0]
  | k + 1, hk => by
    obtain ⟨h1, h2, h3⟩ := cl_path s r n hn hs hb k (by omega)
    rw [pathL_succ r n k (by omega), clFold_snoc]
    have hi := tier_idx n r hn k
    have hbk := bd_tier hb k
    generalize hm : n / 2 ^ k = m at *
    have hm1 : n / 2 ^ (k + 1) = m / 2 := by rw [Nat.pow_succ, ← Nat.div_div_eq_div_mul, hm]
    have hup : tier (k + 1) r = up (tier k r) := rfl
    rw [hm1, hup, up_getD _ _ (by omega)]
    generalize tier k r = row at *
    generalize clFold s n (pathL r n k) = c at *
    have c1 := hbk (m - 1)
    have c2 := hbk (m + 1)
    rcases sib_cases row m hbk hi with ⟨h, h5, h6⟩ | ⟨h, h5⟩ | ⟨h, h5, h6⟩
    · rw [h, clStep, if_pos rfl, upEl, if_neg (by omega)]
      refine ⟨?_, ?_, h3⟩
      · rw [show 2 * (m / 2) = m by omega]; exact h1
      · simp only [h2]
    · rw [h, clStep, if_neg (by omega), if_pos (by rw [h2]; exact h5), upEl, if_pos (by omega)]
      refine ⟨?_, ?_, by simp; omega⟩
      · rw [show 2 * (m / 2) = m - 1 by omega, show m - 1 + 1 = m by omega, h1]
      · simp only [h2]
    · rw [h, clStep, if_neg (by omega), if_neg (by rw [h2]; omega), upEl, if_pos (by omega)]
      refine ⟨?_, ?_, by simp; omega⟩
      · rw [show 2 * (m / 2) = m by omega, h1]
      · simp only [h2]
theorem pathL_in (r : List Int) (n : Nat) (hn : n < r.length) (hb : Bd r) (k : Nat) : ∀ b ∈ pathL r n k, -1 ≤ b ∧ b < 2147483647 := by
  intro b h
  unfold pathL at h
  simp only [List.mem_map] at h
  obtain ⟨j, hj, rfl⟩ := h
  exact sib_bd _ _ (bd_tier hb j) (tier_idx n r hn j)
theorem pathL_getD (r : List Int) (n k j : Nat) (h : j < min k (height r.length)) : (pathL r n k).getD j 0 = sib (tier j r) ((n / 2 ^ j : Nat) : Int) := by
  unfold pathL
  simp only [List.getD, List.getElem?_map, List.getElem?_range h, Option.map_some, Option.getD_some]
theorem good_path (r : List Int) (n : Nat) (hn : n < r.length) (hb : Bd r) (hr : r.length ≤ 1000) (k : Nat) : ¬ badClimb (n : Int) (pathL r n k) := by
  have hh := height_pow 10 r.length (by omega)
  unfold badClimb
  rintro (h | h | h)
  · omega
  · rw [pathL_length] at h; omega
  · rw [List.any_eq_true] at h
    obtain ⟨b, h1, h2⟩ := h
    have := pathL_in r n hn hb k b h1
    simp [outB] at h2
    omega
theorem pathOf_eq (l : List (List UInt8)) (n : Nat) (hn : n < l.length) (hl : l.length ≤ 1000) : pathOf l (n : Int) = pathL (leaves l) n (height l.length) := by
  unfold pathOf; rw [if_neg (by omega)]; rfl
/-- Climbing from a label along its path leads to the root. -/
theorem climb_path (l : List (List UInt8)) (n : Nat) (s : List UInt8) (r : List Int) (hn : n < r.length) (hr : r.length ≤ 1000) (hs : r.getD n 0 = leaf s) (hb : Bd r) :
    (climbOf s (n : Int) (pathL r n (height r.length))).1 = root r ∧ 2 ≤ (climbOf s (n : Int) (pathL r n (height r.length))).2.length ∧ (climbOf s (n : Int) (pathL r n (height r.length))).2.length ≤ height r.length + 2 := by
  have hg := good_path r n hn hb hr (height r.length)
  have hi := tier_idx n r hn (height r.length)
  rw [tier_top r (by omega)] at hi
  obtain ⟨h1, h2, h3⟩ := cl_path s r n hn hs hb (height r.length) (Nat.le_refl _)
  have h4 := clFold_len s n (pathL r n (height r.length))
  rw [pathL_length, Nat.min_self] at h4
  unfold climbOf
  rw [if_neg hg]
  refine ⟨?_, h3, h4⟩
  show (clFold s n _).d = _
  rw [h1, root, show n / 2 ^ height r.length = 0 by omega]
end Go.Proofs.YtobdkjjakdjnaaaDoor

set_option linter.unusedVariables false
set_option linter.unusedSimpArgs false
namespace Go.Proofs.YtobdkjjakdjnaaaDoor
open Go.Av
theorem stp_num (h a b : Int) (a0 : 0 ≤ a) (a1 : a < 2147483647) (b0 : 0 ≤ b) (b1 : b < 2147483647) (h1 : stp h a = stp h b) : a = b := by
  have := (stp_iff h a b).1 h1
  rw [Int.emod_eq_of_lt a0 a1, Int.emod_eq_of_lt b0 b1] at this
  exact this
theorem sum3_left (a a' b : Int) (h0 : 0 ≤ a) (h1 : a < 2147483647) (h2 : 0 ≤ a') (h3 : a' < 2147483647) (h : sumL [1, a, b] = sumL [1, a', b]) : a = a' := by
  have h : stp (stp (stp 7 1) a) b = stp (stp (stp 7 1) a') b := h
  have k1 := stp_bd (stp 7 1) a
  have k2 := stp_bd (stp 7 1) a'
  exact stp_num _ _ _ h0 h1 h2 h3 (stp_inj _ _ _ k1.1 k1.2 k2.1 k2.2 h)
theorem sum3_right (a b b' : Int) (h0 : 0 ≤ b) (h1 : b < 2147483647) (h2 : 0 ≤ b') (h3 : b' < 2147483647) (h : sumL [1, a, b] = sumL [1, a, b']) : b = b' := by
  have h : stp (stp (stp 7 1) a) b = stp (stp (stp 7 1) a) b' := h
  exact stp_num _ _ _ h0 h1 h2 h3 h
theorem leaf_iff (s t : List UInt8) : leaf s = leaf t ↔ sumL (codes s) = sumL (codes t) := by
  constructor
  · intro h
    have k1 := sumL_bd (codes s)
    have k2 := sumL_bd (codes t)
    have h : stp (stp 7 0) (sumL (codes s)) = stp (stp 7 0) (sumL (codes t)) := h
    exact stp_num _ _ _ k1.1 k1.2 k2.1 k2.2 h
  · intro h; unfold leaf; rw [h]
/-- Two rows that differ at most at one place. -/
structure Off (r r' : List Int) (n : Nat) : Prop where
  len : r'.length = r.length
  off : ∀ j, j ≠ n → r'.getD j 0 = r.getD j 0
theorem Off.up {r r' : List Int} {n : Nat} (h : Off r r' n) : Off (up r) (up r') (n / 2) := by
  refine ⟨by rw [up_length, up_length, h.len], fun j hj => ?_⟩
  rcases Nat.lt_or_ge j ((r.length + 1) / 2) with hlt | hge
  · rw [up_getD _ _ hlt, up_getD _ _ (by rw [h.len]; exact hlt), upEl, upEl, h.len, h.off (2 * j) (by omega), h.off (2 * j + 1) (by omega)]
  · simp [List.getD, List.getElem?_eq_none (show (Go.Proofs.YtobdkjjakdjnaaaDoor.up r).length ≤ j by rw [up_length]; omega), List.getElem?_eq_none (show (Go.Proofs.YtobdkjjakdjnaaaDoor.up r').length ≤ j by rw [up_length, h.len]; omega)]
theorem Off.tier {r r' : List Int} {n : Nat} (h : Off r r' n) : ∀ k, Off (tier k r) (tier k r') (n / 2 ^ k)
  | 0 => by simpa [Go.Proofs.YtobdkjjakdjnaaaDoor.tier] using h
  | k + 1 => by
    rw [Nat.pow_succ, ← Nat.div_div_eq_div_mul]
    exact (Off.tier h k).up
theorem Off.upHit {r r' : List Int} {n : Nat} (h : Off r r' n) (hn : n < r.length) (b : Bd r) (b' : Bd r') : (Go.Proofs.YtobdkjjakdjnaaaDoor.up r').getD (n / 2) 0 = (Go.Proofs.YtobdkjjakdjnaaaDoor.up r).getD (n / 2) 0 ↔ r'.getD n 0 = r.getD n 0 := by
  have hl := h.len
  rw [up_getD r' _ (by omega), up_getD r _ (by omega), upEl, upEl, h.len]
  have k1 := b n
  have k2 := b' n
  rcases Nat.mod_two_eq_zero_or_one n with e | e
  · rw [show 2 * (n / 2) = n by omega]
    split
    · rw [h.off (n + 1) (by omega)]
      exact ⟨sum3_left _ _ _ k2.1 k2.2 k1.1 k1.2, fun h => by rw [h]⟩
    · exact Iff.rfl
  · rw [if_pos (by omega), if_pos (by omega), show 2 * (n / 2) + 1 = n by omega, h.off (2 * (n / 2)) (by omega)]
    exact ⟨sum3_right _ _ _ k2.1 k2.2 k1.1 k1.2, fun h => by rw [h]⟩
theorem Off.hit {r r' : List Int} {n : Nat} (h : Off r r' n) (hn : n < r.length) (b : Bd r) (b' : Bd r') : ∀ k, (Go.Proofs.YtobdkjjakdjnaaaDoor.tier k r').getD (n / 2 ^ k) 0 = (Go.Proofs.YtobdkjjakdjnaaaDoor.tier k r).getD (n / 2 ^ k) 0 ↔ r'.getD n 0 = r.getD n 0
  | 0 => by simp [Go.Proofs.YtobdkjjakdjnaaaDoor.tier]
  | k + 1 => by
    rw [Nat.pow_succ, ← Nat.div_div_eq_div_mul]
    exact ((h.tier k).upHit (tier_idx n r hn k) (bd_tier b k) (bd_tier b' k)).trans (Off.hit h hn b b' k)
theorem Off.path {r r' : List Int} {n : Nat} (h : Off r r' n) (k : Nat) : pathL r' n k = pathL r n k := by
  unfold pathL
  rw [h.len]
  apply List.map_congr_left
  intro j _
  have hj := h.tier j
  unfold sib
  rw [hj.len]
  generalize n / 2 ^ j = m at *
  split
  · rw [hj.off _ (by omega)]
  · split
    · rw [hj.off _ (by omega)]
    · rfl
theorem off_set (l : List (List UInt8)) (i : Nat) (o : List UInt8) : Off (leaves l) (leaves (l.set i o)) i := by
  refine ⟨by simp, fun j hj => ?_⟩
  simp [leaves, List.getD, List.getElem?_set, Ne.symm hj]
end Go.Proofs.YtobdkjjakdjnaaaDoor
