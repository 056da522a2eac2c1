import Derived.Test.YtobdkjjakdjnaaaDoorDa
set_option linter.unusedVariables false
set_option linter.unusedSimpArgs false
namespace Go.Proofs.YtobdkjjakdjnaaaDoor
open Go.Av
theorem modulus_spec : Ctr Tryd.prog 64 [] (fun r => r = .int .i64 2147483647) := by
  refine Ctr.of_body Tryd.func64 rfl tys_ok (by kernel_rfl) ?_
  conv => whnf
  refine cd_sound tys_ok _ ?_
  conv => whnf
theorem wr_succ (k : Nat) (h : k < 9223372036854775807) : Wr .i64 ((k : Int) + 1) = ((k + 1 : Nat) : Int) := by rw [Wr64 _ (by omega) (by omega)]; omega
theorem refSum_spec (xs : List Int) (hx : xs.length ≤ 1000000) : Ctr Tryd.prog 38 [.sl 1 (ints xs)] (fun r => r = .int .i64 (sumL xs)) := by
  refine Ctr.of_body Tryd.func38 rfl tys_ok (by kernel_rfl) ?_
  conv => whnf
  refine cd_sound tys_ok _ ?_
  conv => whnf
  refine ACode.loopD (fun k : Nat => mk 31 [(0, .sl 1 (ints xs)), (3, .int .i64 (sumL (xs.take k))), (4, .int .i64 k)]) (fun _ => []) (fun k => k ≤ xs.length) (fun k => xs.length - k) (fun k hk => ⟨rfl, trivial⟩) ⟨0, ?_⟩ (fun _ => rfl) fun k hk => ?_
  · conv => whnf
    repeat (refine ⟨by first | rfl, ?_⟩; conv => whnf)
    exact Nat.zero_le _
  · refine cd_sound tys_ok _ ?_
    have hb := sumL_bd (xs.take k)
    conv => whnf
    refine ⟨fun hlt => ?_, fun hge => ?_⟩
    · have hlt : k < xs.length := by simpa using hlt
      have hs := foldl_take xs k hlt
      have ht := tmod_cases xs[k] 2147483647 (by decide)
      conv => whnf
      refine ACode.draw [] tys_ok (by kernel_rfl) (by kernel_rfl) ?_
      conv => whnf
      refine ⟨by omega, .int .i64 xs[k], ints_get _ _ hlt, ?_⟩
      conv => whnf
      refine ⟨_, ⟨modulus_spec, rfl⟩, ?_⟩
      conv => whnf
      refine ⟨by decide, ?_⟩
      conv => whnf
      refine ⟨fun hn => ?_, fun hn => ?_⟩
      · have hn := hn
        simp at hn
        conv => whnf
        refine ACall.of_spec modulus_spec rfl fun r hr => ?_
        subst hr
        conv => whnf
        refine ACall.of_spec modulus_spec rfl fun r hr => ?_
        subst hr
        conv => whnf
        refine ⟨by decide, ?_⟩
        conv => whnf
        refine ⟨k + 1, ?_⟩
        conv => whnf
        have e : (Wr .i64 (Wr .i64 (Wr .i64 (sumL (xs.take k) * 1000003) + Wr .i64 (xs[k].tmod 2147483647 + 2147483647)) + 1)).tmod 2147483647 = sumL (xs.take (k + 1)) := by
          rw [hs, Wr64 (xs[k].tmod 2147483647 + 2147483647) (by omega) (by omega)]; exact stp_of _ _ _ (by omega) hb.1 hb.2 (by omega) (by omega)
        rw [e]
        repeat (refine ⟨by first | rfl | exact wr_succ k (by omega), ?_⟩; conv => whnf)
        exact ⟨by omega, by omega⟩
      · have hn := hn
        simp at hn
        conv => whnf
        refine ACall.of_spec modulus_spec rfl fun r hr => ?_
        subst hr
        conv => whnf
        refine ⟨by decide, ?_⟩
        conv => whnf
        refine ⟨k + 1, ?_⟩
        conv => whnf
        have e : (Wr .i64 (Wr .i64 (Wr .i64 (sumL (xs.take k) * 1000003) + xs[k].tmod 2147483647) + 1)).tmod 2147483647 = sumL (xs.take (k + 1)) := by
          rw [hs]; exact stp_of _ _ _ (by omega) hb.1 hb.2 (by omega) (by omega)
        rw [e]
        repeat (refine ⟨by first | rfl | exact wr_succ k (by omega), ?_⟩; conv => whnf)
        exact ⟨by omega, by omega⟩
    · conv => whnf
      simp at hge
      rw [List.take_of_length_le hge]
theorem codes_take_succ (s : List UInt8) (k : Nat) (h : k < s.length) : ints (codes (s.take k)) ++ [.int .i64 ((s.getD k 0).toNat : Int)] = ints (codes (s.take (k + 1))) := by
  rw [List.take_succ_eq_append_getElem h]; simp only [codes, ints, List.map_append, List.map_cons, List.map_nil, List.getD, List.getElem?_eq_getElem h, Option.getD_some]
theorem Codes_spec (s : List UInt8) (hs : s.length ≤ 1000000) : Ctr Tryd.prog 26 [.str s] (fun r => r = .sl 1 (ints (codes s))) := by
  refine Ctr.of_body Tryd.func26 rfl tys_ok (by kernel_rfl) ?_
  conv => whnf
  refine cd_sound tys_ok _ ?_
  conv => whnf
  refine ACode.loopD (fun k : Nat => mk 20 [(0, .str s), (3, .own 0 1 0 k), (4, .int .i64 k)]) (fun k => [.arr 3 1 (ints (codes (s.take k)))]) (fun k => k ≤ s.length) (fun k => s.length - k) (fun k hk => ⟨rfl, closed_ints _, trivial⟩) ⟨0, ?_⟩ (fun _ => rfl) fun k hk => ?_
  · conv => whnf
    repeat (refine ⟨by first | rfl, ?_⟩; conv => whnf)
    exact Nat.zero_le _
  · refine cd_sound tys_ok _ ?_
    have hb := code_bd s k
    conv => whnf
    refine ⟨fun hlt => ?_, fun hge => ?_⟩
    · have hlt : k < s.length := by simpa using hlt
      conv => whnf
      refine ⟨by omega, ?_⟩
      conv => whnf
      refine ⟨rfl, ?_⟩
      conv => whnf
      have hl : (ints (codes (s.take k))).length = k := by simp; omega
      have hl1 : (ints (codes (s.take (k + 1)))).length = k + 1 := by simp; omega
      have e : ints (codes (s.take k)) ++ [AV.int .i64 (Wr .i64 ((s.getD (k : Int).toNat 0).toNat : Int))] = ints (codes (s.take (k + 1))) := by
        rw [Wr64 _ (by simp only [Int.toNat_natCast]; omega) (by simp only [Int.toNat_natCast]; omega)]; exact codes_take_succ s k hlt
      rw [e, hl, hl1]
      refine ⟨⟨rfl, by omega⟩, ?_⟩
      conv => whnf
      refine ⟨k + 1, ?_⟩
      conv => whnf
      repeat (refine ⟨by first | rfl | exact wr_succ k (by omega), ?_⟩; conv => whnf)
      exact ⟨by omega, by omega⟩
    · conv => whnf
      simp at hge
      rw [List.take_of_length_le hge]
      exact ⟨⟨by simp; omega, closed_ints _⟩, rfl⟩
theorem refLabel_spec (s : List UInt8) (hs : s.length ≤ 1000000) : Ctr Tryd.prog 51 [.str s] (fun r => r = .int .i64 (sumL (codes s))) := by
  refine Ctr.of_body Tryd.func51 rfl tys_ok (by kernel_rfl) ?_
  conv => whnf
  refine cd_sound tys_ok _ ?_
  conv => whnf
  refine ACall.of_spec (Codes_spec s hs) rfl fun r hr => ?_
  subst hr
  conv => whnf
  refine ACall.of_spec (refSum_spec (codes s) (by simpa using hs)) rfl fun r hr => ?_
  subst hr
  conv => whnf
end Go.Proofs.YtobdkjjakdjnaaaDoor

set_option linter.unusedVariables false
set_option linter.unusedSimpArgs false
namespace Go.Proofs.YtobdkjjakdjnaaaDoor
open Go.Av
def eqFrom (a b : List Int) (k : Nat) : Bool := a.drop k == b.drop k
theorem eqFrom_step (a b : List Int) (k : Nat) (ha : k < a.length) (hb : k < b.length) : (a.drop k == b.drop k) = (decide (a[k] = b[k]) && (a.drop (k + 1) == b.drop (k + 1))) := by
  rw [List.drop_eq_getElem_cons ha, List.drop_eq_getElem_cons hb]
  rw [List.cons_beq_cons]
  congr 1
theorem Ints_spec (a b : List Int) (ha : a.length ≤ 1000000) (hb : b.length ≤ 1000000) : Ctr Tryd.prog 43 [.sl 1 (ints a), .sl 1 (ints b)] (fun r => r = .bool (a == b)) := by
  refine Ctr.of_body Tryd.func43 rfl tys_ok (by kernel_rfl) ?_
  conv => whnf
  refine cd_sound tys_ok _ ?_
  conv => whnf
  refine ⟨fun ht => ?_, fun hf => ?_⟩
  · simp at ht
    have : ¬ a = b := by rintro rfl; omega
    conv => whnf
    simp [this]
  · simp at hf
    have hf : a.length = b.length := by omega
    conv => whnf
    refine ACode.loopD (fun k : Nat => mk 26 [(0, .sl 1 (ints a)), (1, .sl 1 (ints b)), (5, .int .i64 k)]) (fun _ => []) (fun k => k ≤ a.length ∧ (a == b) = (a.drop k == b.drop k)) (fun k => a.length - k) (fun k hk => ⟨rfl, trivial⟩) ⟨0, ?_⟩ (fun _ => rfl) fun k hk => ?_
    · conv => whnf
      repeat (refine ⟨by first | rfl, ?_⟩; conv => whnf)
      exact ⟨Nat.zero_le _, rfl⟩
    · obtain ⟨hk, he⟩ := hk
      refine cd_sound tys_ok _ ?_
      conv => whnf
      refine ⟨fun hlt => ?_, fun hge => ?_⟩
      · have hlt : k < a.length := by simpa using hlt
        rw [eqFrom_step a b k hlt (by omega)] at he
        conv => whnf
        refine ACode.draw [] tys_ok (by kernel_rfl) (by kernel_rfl) ?_
        conv => whnf
        refine ⟨by omega, .int .i64 a[k], ints_get _ _ hlt, ?_⟩
        conv => whnf
        refine ⟨by omega, .int .i64 (b[k]'(by omega)), ints_get _ _ (by omega), ?_⟩
        conv => whnf
        refine ⟨fun ht => ?_, fun hf2 => ?_⟩
        · simp at ht
          conv => whnf
          rw [he]; simp [ht]
        · simp at hf2
          conv => whnf
          refine ⟨k + 1, ?_⟩
          conv => whnf
          repeat (refine ⟨by first | rfl | exact wr_succ k (by omega), ?_⟩; conv => whnf)
          exact ⟨⟨by omega, by rw [he]; simp [hf2]⟩, by omega⟩
      · simp at hge
        conv => whnf
        rw [he, List.drop_eq_nil_of_le hge, List.drop_eq_nil_of_le (by omega)]
        rfl
theorem rowsFrom_step (a b : List (List Int)) (k : Nat) (ha : k < a.length) (hb : k < b.length) : (a.drop k == b.drop k) = ((a[k] == b[k]) && (a.drop (k + 1) == b.drop (k + 1))) := by
  rw [List.drop_eq_getElem_cons ha, List.drop_eq_getElem_cons hb, List.cons_beq_cons]
end Go.Proofs.YtobdkjjakdjnaaaDoor

set_option linter.unusedVariables false
set_option linter.unusedSimpArgs false
namespace Go.Proofs.YtobdkjjakdjnaaaDoor
open Go.Av
theorem leaves_take_succ (l : List (List UInt8)) (k : Nat) (h : k < l.length) : ints (leaves (l.take k)) ++ [.int .i64 (leaf l[k])] = ints (leaves (l.take (k + 1))) := by
  rw [List.take_succ_eq_append_getElem h]; simp only [leaves, ints, List.map_append, List.map_cons, List.map_nil]
/-- Element k of the row above. -/
def upEl (row : List Int) (k : Nat) : Int := if 2 * k + 1 < row.length then sumL [1, row.getD (2 * k) 0, row.getD (2 * k + 1) 0] else row.getD (2 * k) 0
theorem up_eq (row : List Int) : up row = (List.range ((row.length + 1) / 2)).map (upEl row) := by
  unfold up upL
  have hm : (List.range (row.length / 2)).map (fun j => sumL [1, row.getD (2 * j) 0, row.getD (2 * j + 1) 0]) = (List.range (row.length / 2)).map (upEl row) := by
    apply List.map_congr_left
    intro j hj
    simp at hj
    simp [upEl, show 2 * j + 1 < row.length by omega]
  rw [hm]
  split
  · rename_i h
    rw [show (row.length + 1) / 2 = row.length / 2 + 1 by omega, List.range_succ]
    have e : 2 * (row.length / 2) = row.length - 1 := by omega
    simp [upEl, e]
    omega
  · rw [show (row.length + 1) / 2 = row.length / 2 by omega]; simp
theorem up_take_succ (row : List Int) (k : Nat) (h : 2 * k < row.length) : (up row).take (k + 1) = (up row).take k ++ [upEl row k] := by
  have hl : k < (up row).length := by rw [up_length]; omega
  rw [List.take_succ_eq_append_getElem hl]
  congr 1
  simp [up_eq]
def tiers (r : List Int) (m : Nat) : List (List Int) := (List.range m).map fun j => tier j r
@[simp] theorem tiers_length (r : List Int) (m : Nat) : (tiers r m).length = m := by simp [tiers]
theorem tiers_succ (r : List Int) (m : Nat) : rowsA (tiers r m) ++ [.sl 1 (ints (tier m r))] = rowsA (tiers r (m + 1)) := by
  simp [tiers, List.range_succ, rowsA]
theorem treeOf_eq (l : List (List UInt8)) (hn : l ≠ []) (hl : l.length ≤ 1000) : treeOf l = tiers (leaves l) (height l.length + 1) := by
  simp [treeOf, show ¬ 1000 < l.length by omega, rowsOf, hn, levels, tiers]
set_option maxRecDepth 100000 in
theorem refTree_spec (l : List (List UInt8)) (hl : l.length ≤ 1000000) (hs : ∀ s ∈ l, s.length ≤ 1000000) : Ctr Tryd.prog 57 [.sl 1 (strs l)] (fun r => r = .sl 1 (rowsA (treeOf l))) := by
  refine Ctr.of_body Tryd.func57 rfl tys_ok (by kernel_rfl) ?_
  conv => whnf
  refine cd_sound tys_ok _ ?_
  have hll := strs_length l
  conv => whnf
  refine ⟨fun hf => ?_, fun ht => ?_⟩
  rotate_left
  · simp at ht
    conv => whnf
    refine ⟨1, ?_⟩
    have : l = [] := by cases l <;> simp_all
    subst this
    simp [treeOf, rowsOf, rowsA]
  · simp at hf
    conv => whnf
    refine ⟨fun ht => ?_, fun hf2 => ?_⟩
    · simp at ht
      conv => whnf
      refine ⟨1, ?_⟩
      simp [treeOf, show 1000 < l.length by omega, rowsA]
    · simp at hf2
      have hl1 : l.length ≤ 1000 := by omega
      have hne : l ≠ [] := by rintro rfl; simp at hf
      conv => whnf
      refine ACode.nilArr 3 3 1 rfl ?_
      refine ACode.loopD (fun k : Nat => mk 75 [(0, .sl 1 (strs l)), (3, .own 0 1 0 k), (4, .int .i64 k)]) (fun k => [.arr 3 1 (ints (leaves (l.take k)))]) (fun k => k ≤ l.length) (fun k => l.length - k) (fun k hk => ⟨rfl, closed_ints _, trivial⟩) ⟨0, ?_⟩ (fun _ => rfl) fun k hk => ?_
      · conv => whnf
        repeat (refine ⟨by first | rfl, ?_⟩; conv => whnf)
        exact Nat.zero_le _
      · refine cd_sound tys_ok _ ?_
        conv => whnf
        refine ⟨fun hlt => ?_, fun hge => ?_⟩
        · have hlt : k < l.length := by simpa using hlt
          have hsk := hs l[k] (List.getElem_mem hlt)
          conv => whnf
          refine ⟨by omega, .str l[k], strs_get l k hlt, ?_⟩
          conv => whnf
          refine ACall.of_spec (refLabel_spec l[k] hsk) rfl fun r hr => ?_
          subst hr
          conv => whnf
          refine ACall.of_vcall ⟨⟨rfl, by simp [closed]⟩, .int .i64 (leaf l[k]), ⟨refSum_spec [0, sumL (codes l[k])] (by simp), rfl⟩, ?_⟩ (by kernel_rfl)
          conv => whnf
          refine ⟨rfl, ?_⟩
          conv => whnf
          have hk1 : (ints (leaves (l.take k))).length = k := by simp; omega
          have hk2 : (ints (leaves (l.take (k + 1)))).length = k + 1 := by simp; omega
          rw [leaves_take_succ l k hlt, hk1, hk2]
          refine ⟨⟨rfl, by omega⟩, ?_⟩
          conv => whnf
          refine ⟨k + 1, ?_⟩
          conv => whnf
          repeat (refine ⟨by first | rfl | exact wr_succ k (by omega), ?_⟩; conv => whnf)
          exact ⟨by omega, by omega⟩
        · simp at hge
          have hkl : l.take k = l := List.take_of_length_le (by omega)
          rw [hkl]
          have hke : k = (ints (leaves l)).length := by simp; omega
          conv => whnf
          refine ⟨closed_ints _, ?_⟩
          conv => whnf
          refine ⟨hke, ?_⟩
          conv => whnf
          refine ⟨hke, ?_⟩
          conv => whnf
          have hh := height_le l.length
          refine ACode.loopD (fun j : Nat => mk 75 [(3, .sl 1 (ints (tier j (leaves l)))), (5, .own 1 1 0 (j + 1))]) (fun j => [.dead, .arr 22 1 (rowsA (tiers (leaves l) (j + 1)))]) (fun j => j ≤ height l.length) (fun j => height l.length - j) (fun k hk => ⟨rfl, closed_rowsA _, trivial⟩) ⟨0, ?_⟩ (fun _ => rfl) fun j hj => ?_
          · conv => whnf
            repeat (refine ⟨by first | rfl, ?_⟩; conv => whnf)
            exact Nat.zero_le _
          · refine cd_sound tys_ok _ ?_
            have hT := tier_height j (leaves l) (by simpa using hj)
            have hlen := tier_length_le j (leaves l)
            simp only [leaves_length] at hT hlen
            have htj : tier (j + 1) (leaves l) = up (tier j (leaves l)) := rfl
            generalize hrow : tier j (leaves l) = row at hT hlen htj ⊢
            conv => whnf
            refine ⟨fun ht => ?_, fun hf => ?_⟩
            · have hlt : 1 < row.length := by simp at ht; omega
              conv => whnf
              refine ACode.nilArr 6 3 1 rfl ?_
              refine ACode.loopD (fun k : Nat => mk 75 [(3, .sl 1 (ints row)), (5, .own 1 1 0 (j + 1)), (6, .own 2 1 0 k), (7, .int .i64 (2 * k : Nat))]) (fun k => [.dead, .arr 22 1 (rowsA (tiers (leaves l) (j + 1))), .arr 3 1 (ints ((up row).take k))])
                (fun k => k ≤ (row.length + 1) / 2) (fun k => row.length - k) (fun k hk => ⟨rfl, closed_rowsA _, closed_ints _, trivial⟩) ⟨0, ?_⟩ (fun _ => rfl) fun k hk => ?_
              · conv => whnf
                repeat (refine ⟨by first | rfl, ?_⟩; conv => whnf)
                exact Nat.zero_le _
              · refine cd_sound tys_ok _ ?_
                have hw : Wr .i64 (((2 * k : Nat) : Int) + 1) = ((2 * k + 1 : Nat) : Int) := by rw [Wr64 _ (by omega) (by omega)]; omega
                have hw2 : Wr .i64 (((2 * k : Nat) : Int) + 2) = ((2 * (k + 1) : Nat) : Int) := by rw [Wr64 _ (by omega) (by omega)]; omega
                have hul := up_length row
                conv => whnf
                refine ⟨fun ht => ?_, fun hf => ?_⟩
                · have hk2 : 2 * k < row.length := by simp at ht; omega
                  have hk3 : (ints ((up row).take k)).length = k := by simp; omega
                  have hk4 : (ints ((up row).take (k + 1))).length = k + 1 := by simp; omega
                  have hap : ints ((up row).take k) ++ [AV.int .i64 (upEl row k)] = ints ((up row).take (k + 1)) := by rw [up_take_succ row k hk2, ints_append]; rfl
                  conv => whnf
                  rw [hw]
                  refine ⟨fun ht => ?_, fun hf => ?_⟩
                  · have hlt2 : 2 * k + 1 < row.length := by simp at ht; omega
                    have hue : upEl row k = sumL [1, row.getD (2 * k) 0, row.getD (2 * k + 1) 0] := by simp [upEl, hlt2]
                    conv => whnf
                    refine ACode.draw [13] tys_ok (by kernel_rfl) (by kernel_rfl) ?_
                    conv => whnf
                    refine ⟨by omega, .int .i64 (row.getD (2 * k) 0), ints_getD _ _ (by omega), ?_⟩
                    conv => whnf
                    rw [hw]
                    refine ⟨by omega, .int .i64 (row.getD (2 * k + 1) 0), ints_getD _ _ (by omega), ?_⟩
                    conv => whnf
                    refine ⟨⟨rfl, by simp [closed]⟩, ?_⟩
                    conv => whnf
                    refine ⟨.int .i64 (upEl row k), ⟨by rw [hue]; exact refSum_spec [1, row.getD (2 * k) 0, row.getD (2 * k + 1) 0] (by simp), rfl⟩, ?_⟩
                    conv => whnf
                    refine ⟨rfl, ?_⟩
                    conv => whnf
                    rw [hap, hk3, hk4]
                    refine ⟨⟨rfl, by omega⟩, ?_⟩
                    conv => whnf
                    refine ⟨k + 1, ?_⟩
                    conv => whnf
                    repeat (refine ⟨by first | rfl | exact hw2, ?_⟩; conv => whnf)
                    exact ⟨by omega, by omega⟩
                  · have hlt2 : ¬ 2 * k + 1 < row.length := by simp at hf; omega
                    have hue : upEl row k = row.getD (2 * k) 0 := by simp [upEl, hlt2]
                    conv => whnf
                    refine ⟨by omega, .int .i64 (upEl row k), by rw [hue]; exact ints_getD _ _ (by omega), ?_⟩
                    conv => whnf
                    refine ⟨rfl, ?_⟩
                    conv => whnf
                    rw [hap, hk3, hk4]
                    refine ⟨⟨rfl, by omega⟩, ?_⟩
                    conv => whnf
                    refine ⟨k + 1, ?_⟩
                    conv => whnf
                    repeat (refine ⟨by first | rfl | exact hw2, ?_⟩; conv => whnf)
                    exact ⟨by omega, by omega⟩
                · have hk2 : ¬ 2 * k < row.length := by simp at hf; omega
                  have hall : (up row).take k = up row := List.take_of_length_le (by omega)
                  rw [hall]
                  have hke : k = (ints (up row)).length := by simp; omega
                  conv => whnf
                  refine ⟨closed_ints _, ?_⟩
                  conv => whnf
                  repeat (refine ⟨hke, ?_⟩; conv => whnf)
                  refine ⟨rfl, ?_⟩
                  conv => whnf
                  have hap : rowsA (tiers (leaves l) (j + 1)) ++ [.sl 1 (ints (up row))] = rowsA (tiers (leaves l) (j + 1 + 1)) := by rw [← tiers_succ _ (j + 1), htj]
                  have hle : (rowsA (tiers (leaves l) (j + 1))).length = j + 1 := by simp
                  have hle2 : (rowsA (tiers (leaves l) (j + 1 + 1))).length = j + 1 + 1 := by simp
                  rw [hap, hle, hle2]
                  refine ⟨⟨rfl, by omega⟩, ?_⟩
                  conv => whnf
                  refine ⟨j + 1, ?_⟩
                  rw [htj]
                  conv => whnf
                  repeat (refine ⟨rfl, ?_⟩; conv => whnf)
                  exact ⟨by omega, by omega⟩
            · simp at hf
              have hjh : j = height l.length := by omega
              conv => whnf
              refine ⟨⟨by simp, closed_rowsA _⟩, ?_⟩
              rw [treeOf_eq l hne hl1, hjh]
end Go.Proofs.YtobdkjjakdjnaaaDoor

set_option linter.unusedVariables false
set_option linter.unusedSimpArgs false
namespace Go.Proofs.YtobdkjjakdjnaaaDoor
open Go.Av
theorem treeOf_length (l : List (List UInt8)) : (treeOf l).length ≤ l.length + 1 := by
  unfold treeOf; split
  · simp
  · exact rowsOf_length l
theorem treeOf_rows (l : List (List UInt8)) : ∀ r ∈ treeOf l, r.length ≤ l.length := by
  intro r hr
  unfold treeOf at hr
  split at hr
  · simp at hr
  · unfold rowsOf at hr
    split at hr
    · simp at hr
    · simp only [levels, List.mem_map] at hr
      obtain ⟨k, _, rfl⟩ := hr
      have := tier_length_le k (leaves l); simpa using this
set_option maxRecDepth 100000 in
theorem refRoot_spec (l : List (List UInt8)) (hl : l.length ≤ 1000000) (hs : ∀ s ∈ l, s.length ≤ 1000000) : Ctr Tryd.prog 37 [.sl 1 (strs l)] (fun r => r = .int .i64 (rootOf l)) := by
  refine Ctr.of_body Tryd.func37 rfl tys_ok (by kernel_rfl) ?_
  conv => whnf
  refine cd_sound tys_ok _ ?_
  have hll := strs_length l
  conv => whnf
  refine ⟨fun ht => ?_, fun hf => ?_⟩
  · simp at ht
    conv => whnf
    simp [rootOf, show 1000 < l.length by omega]
  · simp at hf
    conv => whnf
    refine ⟨fun ht => ?_, fun hf2 => ?_⟩
    · simp at ht
      have : l = [] := by cases l <;> simp_all
      subst this
      conv => whnf
      simp [rootOf, rootL, rowsOf]
    · simp at hf2
      have hne : l ≠ [] := by rintro rfl; simp at hf2
      have hl1 : l.length ≤ 1000 := by omega
      have htr : treeOf l = rowsOf l := by simp [treeOf, show ¬ 1000 < l.length by omega]
      have hrl : (rowsOf l).length = height l.length + 1 := by simp [rowsOf, hne, levels_length]
      have hh := height_le l.length
      conv => whnf
      refine ACall.of_spec (refTree_spec l hl hs) rfl fun r hr => ?_
      subst hr
      rw [htr]
      conv => whnf
      have hw : Wr .i64 (((rowsA (rowsOf l)).length : Int) - 1) = ((height l.length : Nat) : Int) := by rw [rowsA_length, hrl, Wr64 _ (by omega) (by omega)]; omega
      rw [hw]
      have hlast : height l.length < (rowsOf l).length := by omega
      obtain ⟨_, _, hr3⟩ := rowsOf_get l (height l.length) hlast
      have hpos : 0 < (rowsOf l)[height l.length].length := by rw [hr3]; exact tier_pos _ _ (by simp; exact List.length_pos_iff.2 hne)
      refine ⟨by omega, .sl 1 (ints (rowsOf l)[height l.length]), rowsA_get _ _ hlast, ?_⟩
      conv => whnf
      refine ⟨by omega, .int .i64 ((rowsOf l)[height l.length].getD 0 0), ints_getD _ _ hpos, ?_⟩
      conv => whnf
      simp [rootOf, show ¬ 1000 < l.length by omega, rootL, hrl]
set_option maxRecDepth 100000 in
theorem refPath_spec (l : List (List UInt8)) (i : Int) (hl : l.length ≤ 1000000) (hs : ∀ s ∈ l, s.length ≤ 1000000) : Ctr Tryd.prog 42 [.sl 1 (strs l), .int .i64 i] (fun r => r = .sl 1 (ints (pathOf l i))) := by
  refine Ctr.of_body Tryd.func42 rfl tys_ok (by kernel_rfl) ?_
  conv => whnf
  refine cd_sound tys_ok _ ?_
  have hll := strs_length l
  have bad : 1000 < l.length ∨ i < 0 ∨ (l.length : Int) ≤ i → ∃ sz, AV.sl sz [] = AV.sl 1 (ints (pathOf l i)) := fun h => ⟨1, by simp [pathOf, h, ints]⟩
  conv => whnf
  refine ACall.of_spec (refTree_spec l hl hs) rfl fun r hr => ?_
  subst hr
  conv => whnf
  refine ⟨fun hf => ?_, fun ht => ?_⟩
  rotate_left
  · simp at ht
    conv => whnf
    exact bad (by omega)
  · simp at hf
    conv => whnf
    refine ⟨fun hf2 => ?_, fun ht => ?_⟩
    rotate_left
    · simp at ht
      conv => whnf
      exact bad (by omega)
    · simp at hf2
      obtain ⟨n, rfl⟩ := Int.eq_ofNat_of_zero_le hf
      have hn : n < l.length := by omega
      have hne : l ≠ [] := by rintro rfl; simp at hn
      conv => whnf
      refine ⟨fun ht => ?_, fun hf3 => ?_⟩
      · simp at ht
        conv => whnf
        refine bad (.inl ?_)
        rcases Nat.lt_or_ge 1000 l.length with h | h
        · exact h
        · rw [treeOf_eq l hne h] at ht; simp [tiers] at ht
      · have hl1 : l.length ≤ 1000 := by
          rcases Nat.lt_or_ge 1000 l.length with h | h
          · simp [treeOf, h] at hf3
          · exact h
        have hh := height_le l.length
        rw [treeOf_eq l hne hl1]
        have htl : (rowsA (tiers (leaves l) (height l.length + 1))).length = height l.length + 1 := by simp
        conv => whnf
        refine ACode.nilArr 6 3 1 rfl ?_
        refine ACode.loopD (fun k : Nat => mk 65 [(1, .int .i64 ((n / 2 ^ k : Nat) : Int)), (5, .sl 1 (rowsA (tiers (leaves l) (height l.length + 1)))), (6, .own 0 1 0 k), (7, .int .i64 k)]) (fun k => [.arr 3 1 (ints (pathL (leaves l) n k))])
          (fun k => k ≤ height l.length) (fun k => height l.length - k) (fun k hk => ⟨rfl, closed_ints _, trivial⟩) ⟨0, ?_⟩ (fun _ => rfl) fun k hk => ?_
        · conv => whnf
          repeat (refine ⟨by first | rfl | simp, ?_⟩; conv => whnf)
          first | exact Nat.zero_le _ | exact ⟨by simp [pathL, ints], Nat.zero_le _⟩
        · refine cd_sound tys_ok _ ?_
          have hT := tier_height k (leaves l) (by simpa using hk)
          have hidx := tier_idx n (leaves l) (by simpa using hn) k
          have hlen := tier_length_le k (leaves l)
          simp only [leaves_length] at hT hidx hlen
          have hget : (rowsA (tiers (leaves l) (height l.length + 1)))[k]? = some (.sl 1 (ints (tier k (leaves l)))) := by
            rw [rowsA_get _ _ (by simp; omega)]; simp [tiers]
          have hmn : n / 2 ^ k ≤ n := Nat.div_le_self _ _
          have hmm : n / 2 ^ (k + 1) = n / 2 ^ k / 2 := by rw [Nat.pow_succ, ← Nat.div_div_eq_div_mul]
          generalize hrow : tier k (leaves l) = row at hT hidx hlen hget
          generalize hm : n / 2 ^ k = m at hidx hmn hmm ⊢
          have hpk : (ints (pathL (leaves l) n k)).length = k := by simp; omega
          conv => whnf
          rw [wr_succ k (by omega)]
          refine ⟨fun ht => ?_, fun hf => ?_⟩
          · have hkh : k < height l.length := by simp at ht; omega
            have hpk1 : (ints (pathL (leaves l) n (k + 1))).length = k + 1 := by simp; omega
            have hap : ints (pathL (leaves l) n k) ++ [AV.int .i64 (sib row (m : Int))] = ints (pathL (leaves l) n (k + 1)) := by
              rw [pathL_succ _ _ _ (by simpa using hkh), ints_append, hrow, hm]; rfl
            have htm : ((m : Nat) : Int).tmod 2 = ((m % 2 : Nat) : Int) := by rw [Int.tmod_eq_emod_of_nonneg (by omega)]; omega
            have hdiv : Wr .i64 (((m : Nat) : Int).tdiv 2) = ((n / 2 ^ (k + 1) : Nat) : Int) := by
              rw [hmm, Int.tdiv_eq_ediv_of_nonneg (by omega), Wr64 _ (by omega) (by omega)]; omega
            have hwp : Wr .i64 (((m : Nat) : Int) + 1) = ((m + 1 : Nat) : Int) := by rw [Wr64 _ (by omega) (by omega)]; omega
            conv => whnf
            refine ⟨by decide, ?_⟩
            conv => whnf
            refine ⟨fun ht => ?_, fun hf => ?_⟩
            · have hodd : m % 2 = 1 := by simp [htm] at ht; omega
              have hwm : Wr .i64 (((m : Nat) : Int) - 1) = ((m - 1 : Nat) : Int) := by rw [Wr64 _ (by omega) (by omega)]; omega
              have hsib : sib row (m : Int) = row.getD (m - 1) 0 := by
                unfold sib; rw [if_pos (by omega)]; simp
              conv => whnf
              refine ⟨by omega, .sl 1 (ints row), hget, ?_⟩
              conv => whnf
              rw [hwm]
              refine ⟨by omega, .int .i64 (sib row (m : Int)), by rw [hsib]; exact ints_getD _ _ (by omega), ?_⟩
              conv => whnf
              refine ⟨rfl, ?_⟩
              conv => whnf
              rw [hap, hpk, hpk1]
              refine ⟨⟨rfl, by omega⟩, ?_⟩
              conv => whnf
              refine ⟨by decide, ?_⟩
              conv => whnf
              refine ⟨k + 1, ?_⟩
              conv => whnf
              repeat (refine ⟨by first | rfl | exact wr_succ k (by omega) | exact hdiv, ?_⟩; conv => whnf)
              exact ⟨by omega, by omega⟩
            · have hodd : ¬ m % 2 = 1 := by simp [htm] at hf; omega
              conv => whnf
              refine ⟨by omega, .sl 1 (ints row), hget, ?_⟩
              conv => whnf
              rw [hwp]
              refine ⟨fun ht => ?_, fun hf => ?_⟩
              · have hlt : m + 1 < row.length := by simp at ht; omega
                have hsib : sib row (m : Int) = row.getD (m + 1) 0 := by
                  unfold sib; rw [if_neg (by omega), if_pos (by omega)]; simp
                conv => whnf
                refine ⟨by omega, .sl 1 (ints row), hget, ?_⟩
                conv => whnf
                rw [hwp]
                refine ⟨by omega, .int .i64 (sib row (m : Int)), by rw [hsib]; exact ints_getD _ _ (by omega), ?_⟩
                conv => whnf
                refine ⟨rfl, ?_⟩
                conv => whnf
                rw [hap, hpk, hpk1]
                refine ⟨⟨rfl, by omega⟩, ?_⟩
                conv => whnf
                refine ⟨by decide, ?_⟩
                conv => whnf
                refine ⟨k + 1, ?_⟩
                conv => whnf
                repeat (refine ⟨by first | rfl | exact wr_succ k (by omega) | exact hdiv, ?_⟩; conv => whnf)
                exact ⟨by omega, by omega⟩
              · have hlt : ¬ m + 1 < row.length := by simp at hf; omega
                have hsib : sib row (m : Int) = -1 := by
                  unfold sib; rw [if_neg (by omega), if_neg (by omega)]
                rw [hsib] at hap
                conv => whnf
                refine ⟨rfl, ?_⟩
                conv => whnf
                rw [hap, hpk, hpk1]
                refine ⟨⟨rfl, by omega⟩, ?_⟩
                conv => whnf
                refine ⟨by decide, ?_⟩
                conv => whnf
                refine ⟨k + 1, ?_⟩
                conv => whnf
                repeat (refine ⟨by first | rfl | exact wr_succ k (by omega) | exact hdiv, ?_⟩; conv => whnf)
                exact ⟨by omega, by omega⟩
          · have hkh : k = height l.length := by simp at hf; omega
            conv => whnf
            refine ⟨⟨by rw [hpk], closed_ints _⟩, ?_⟩
            rw [pathOf, if_neg (by omega), hkh]
            simp
end Go.Proofs.YtobdkjjakdjnaaaDoor

set_option linter.unusedVariables false
set_option linter.unusedSimpArgs false
namespace Go.Proofs.YtobdkjjakdjnaaaDoor
open Go.Av
theorem any_drop (p : Int → Bool) (l : List Int) (k : Nat) (h : k < l.length) : (l.drop k).any p = (p l[k] || (l.drop (k + 1)).any p) := by
  rw [List.drop_eq_getElem_cons h, List.any_cons]
set_option maxRecDepth 100000 in
theorem refClimb_spec (s : List UInt8) (i : Int) (path : List Int) (hs : s.length ≤ 1000000) (hi : i ≤ 9223372036854775807) (hp : path.length ≤ 1000000) :
    Ctr Tryd.prog 48 [.str s, .int .i64 i, .sl 1 (ints path)] (fun r => r = .tuple [.int .i64 (climbOf s i path).1, .sl 1 (rowsA (climbOf s i path).2)]) := by
  refine Ctr.of_body Tryd.func48 rfl tys_ok (by kernel_rfl) ?_
  conv => whnf
  refine cd_sound tys_ok _ ?_
  have bad : badClimb i path → ∃ sz, AV.tuple [.int .i64 0, .sl sz []] = AV.tuple [.int .i64 (climbOf s i path).1, .sl 1 (rowsA (climbOf s i path).2)] := fun h => ⟨1, by simp [climbOf, h, rowsA]⟩
  conv => whnf
  refine ⟨fun hf1 => ?_, fun ht => ?_⟩
  rotate_left
  · simp at ht
    conv => whnf
    exact bad (.inl ht)
  · simp at hf1
    conv => whnf
    refine ⟨fun ht => ?_, fun hf2 => ?_⟩
    · simp at ht
      conv => whnf
      exact bad (.inr (.inl (by omega)))
    · simp at hf2
      have hpl : path.length ≤ 20 := by omega
      obtain ⟨n, rfl⟩ := Int.eq_ofNat_of_zero_le hf1
      conv => whnf
      refine ACode.loopD (fun k : Nat => mk 85 [(0, .str s), (1, .int .i64 n), (2, .sl 1 (ints path)), (8, .int .i64 k)]) (fun k => []) (fun k => k ≤ path.length ∧ path.any outB = (path.drop k).any outB) (fun k => path.length - k) (fun k hk => ⟨rfl, trivial⟩) ⟨0, ?_⟩ (fun _ => rfl) fun k hk => ?_
      · conv => whnf
        repeat (refine ⟨by first | rfl, ?_⟩; conv => whnf)
        exact ⟨Nat.zero_le _, rfl⟩
      · obtain ⟨hk, han⟩ := hk
        refine cd_sound tys_ok _ ?_
        conv => whnf
        refine ⟨fun hlt => ?_, fun hge => ?_⟩
        · have hlt : k < path.length := by simpa using hlt
          rw [any_drop outB path k hlt] at han
          generalize hb : path[k] = b at han
          have hget : (ints path)[k]? = some (.int .i64 b) := by rw [← hb]; exact ints_get _ _ hlt
          conv => whnf
          refine ACode.draw [] tys_ok (by kernel_rfl) (by kernel_rfl) ?_
          conv => whnf
          refine ⟨by omega, .int .i64 b, hget, ?_⟩
          conv => whnf
          refine ⟨fun ht => ?_, fun hf => ?_⟩
          · simp at ht
            conv => whnf
            refine bad (.inr (.inr ?_))
            rw [han]; simp [outB, ht]
          · simp at hf
            conv => whnf
            refine ⟨by omega, .int .i64 b, hget, ?_⟩
            conv => whnf
            refine ⟨_, ⟨modulus_spec, rfl⟩, ?_⟩
            conv => whnf
            refine ⟨fun ht => ?_, fun hf2 => ?_⟩
            · simp at ht
              conv => whnf
              refine bad (.inr (.inr ?_))
              rw [han]; simp [outB, ht]
            · simp at hf2
              conv => whnf
              refine ⟨k + 1, ?_⟩
              conv => whnf
              repeat (refine ⟨by first | rfl | exact wr_succ k (by omega), ?_⟩; conv => whnf)
              refine ⟨⟨by omega, ?_⟩, by omega⟩
              rw [han]
              have : outB b = false := by simp [outB]; omega
              rw [this, Bool.false_or]
        · simp at hge
          rw [List.drop_eq_nil_of_le hge] at han
          have han : path.any outB = false := han
          have hgood : ¬ badClimb (n : Int) path := by unfold badClimb; rw [han]; simp; omega
          conv => whnf
          refine ACall.of_spec (Codes_spec s hs) rfl fun r hr => ?_
          subst hr
          conv => whnf
          refine ACall.of_spec (refLabel_spec s hs) rfl fun r hr => ?_
          subst hr
          conv => whnf
          refine ⟨by simp [closed], ?_⟩
          conv => whnf
          refine ⟨rfl, ?_⟩
          conv => whnf
          refine ⟨by omega, .sl 1 (ints [0, sumL (codes s)]), rfl, ?_⟩
          conv => whnf
          refine ACall.of_spec (refSum_spec [0, sumL (codes s)] (by simp)) rfl fun r hr => ?_
          subst hr
          conv => whnf
          have hc0 : clFold s n (path.take 0) = cl0 s n := rfl
          refine ACode.loopD (fun k : Nat => mk 85 [(1, .int .i64 (clFold s n (path.take k)).n), (2, .sl 1 (ints path)), (9, .own 1 1 0 (clFold s n (path.take k)).ls.length), (10, .int .i64 (clFold s n (path.take k)).d), (11, .int .i64 k)])
            (fun k => [.dead, .arr 22 1 (rowsA (clFold s n (path.take k)).ls)]) (fun k => k ≤ path.length) (fun k => path.length - k)
            (fun k hk => ⟨rfl, closed_rowsA _, trivial⟩) ⟨0, ?_⟩ (fun _ => rfl) fun k hk => ?_
          · conv => whnf
            repeat (refine ⟨by first | rfl | (simp; done), ?_⟩; conv => whnf)
            exact Nat.zero_le _
          · refine cd_sound tys_ok _ ?_
            have hlen := clFold_len s n (path.take k)
            have hnn := clFold_n s n (path.take k)
            have hpl : (path.take k).length ≤ 20 := by simp; omega
            generalize hc : clFold s n (path.take k) = c at hlen hnn ⊢
            have hwn : Wr .i64 (((c.n : Nat) : Int).tdiv 2) = ((c.n / 2 : Nat) : Int) := by
              rw [Int.tdiv_eq_ediv_of_nonneg (by omega), Wr64 _ (by omega) (by omega)]; omega
            have hm : ((c.n : Nat) : Int).tmod 2 = ((c.n % 2 : Nat) : Int) := by rw [Int.tmod_eq_emod_of_nonneg (by omega)]; omega
            conv => whnf
            refine ⟨fun hlt => ?_, fun hge => ?_⟩
            · have hlt : k < path.length := by simpa using hlt
              have hst := clFold_take s n path k hlt
              have hnb : outB path[k] = false := by
                rw [List.any_eq_false] at han
                simpa using han _ (List.getElem_mem hlt)
              rw [hc] at hst
              generalize hb : path[k] = b at hst hnb
              have hget : (ints path)[k]? = some (.int .i64 b) := by rw [← hb]; exact ints_get _ _ hlt
              have hb0 : -1 ≤ b ∧ b < 2147483647 := by simp [outB] at hnb; omega
              conv => whnf
              refine ⟨by omega, .int .i64 b, hget, ?_⟩
              conv => whnf
              refine ⟨fun ht => ?_, fun hf => ?_⟩
              · simp at ht
                have hb1 : ¬ b = -1 := by omega
                conv => whnf
                refine ⟨by omega, .int .i64 b, hget, ?_⟩
                conv => whnf
                refine ⟨by decide, ?_⟩
                conv => whnf
                refine ⟨fun ht => ?_, fun hf2 => ?_⟩
                · have hodd : c.n % 2 = 1 := by simp [hm] at ht; omega
                  have hst : clFold s n (path.take (k + 1)) = { d := sumL [1, b, c.d], ls := c.ls ++ [[1, b, c.d]], n := c.n / 2 } := by rw [hst, clStep, if_neg hb1, if_pos hodd]
                  have hap : rowsA c.ls ++ [.sl 1 [AV.int .i64 1, .int .i64 b, .int .i64 c.d]] = rowsA (c.ls ++ [[1, b, c.d]]) := by rw [rowsA_append]; rfl
                  conv => whnf
                  refine ⟨by omega, .int .i64 b, hget, ?_⟩
                  conv => whnf
                  refine ⟨by simp [closed], ?_⟩
                  conv => whnf
                  repeat (refine ⟨rfl, ?_⟩; conv => whnf)
                  rw [hap]
                  refine ⟨⟨by simp, by simp; omega⟩, ?_⟩
                  conv => whnf
                  refine ACall.of_spec (refSum_spec [1, b, c.d] (by simp)) rfl fun r hr => ?_
                  subst hr
                  conv => whnf
                  refine ⟨by decide, ?_⟩
                  conv => whnf
                  refine ⟨k + 1, ?_⟩
                  rw [hst]
                  have hle : (rowsA (c.ls ++ [[1, b, c.d]])).length = (c.ls ++ [[1, b, c.d]]).length := by simp
                  rw [hle]
                  conv => whnf
                  repeat (refine ⟨by first | rfl | exact hwn | exact wr_succ k (by omega), ?_⟩; conv => whnf)
                  exact ⟨by omega, by omega⟩
                · have hodd : ¬ c.n % 2 = 1 := by simp [hm] at hf2; omega
                  have hst : clFold s n (path.take (k + 1)) = { d := sumL [1, c.d, b], ls := c.ls ++ [[1, c.d, b]], n := c.n / 2 } := by rw [hst, clStep, if_neg hb1, if_neg hodd]
                  have hap : rowsA c.ls ++ [.sl 1 [AV.int .i64 1, .int .i64 c.d, .int .i64 b]] = rowsA (c.ls ++ [[1, c.d, b]]) := by rw [rowsA_append]; rfl
                  conv => whnf
                  refine ⟨by simp [closed], ?_⟩
                  conv => whnf
                  repeat (refine ⟨rfl, ?_⟩; conv => whnf)
                  rw [hap]
                  refine ⟨⟨by simp, by simp; omega⟩, ?_⟩
                  conv => whnf
                  refine ACall.of_spec (refSum_spec [1, c.d, b] (by simp)) rfl fun r hr => ?_
                  subst hr
                  conv => whnf
                  refine ⟨by decide, ?_⟩
                  conv => whnf
                  refine ⟨k + 1, ?_⟩
                  rw [hst]
                  have hle : (rowsA (c.ls ++ [[1, c.d, b]])).length = (c.ls ++ [[1, c.d, b]]).length := by simp
                  rw [hle]
                  conv => whnf
                  repeat (refine ⟨by first | rfl | exact hwn | exact wr_succ k (by omega), ?_⟩; conv => whnf)
                  exact ⟨by omega, by omega⟩
              · simp at hf
                have hb1 : b = -1 := by omega
                have hst : clFold s n (path.take (k + 1)) = { c with n := c.n / 2 } := by rw [hst, clStep, if_pos hb1]
                conv => whnf
                refine ⟨by decide, ?_⟩
                conv => whnf
                refine ⟨k + 1, ?_⟩
                rw [hst]
                conv => whnf
                repeat (refine ⟨by first | rfl | exact hwn | exact wr_succ k (by omega), ?_⟩; conv => whnf)
                exact ⟨by omega, by omega⟩
            · have hall : path.take k = path := by apply List.take_of_length_le; simpa using hge
              rw [hall] at hc
              conv => whnf
              refine ⟨⟨by simp, closed_rowsA _⟩, ?_⟩
              conv => whnf
              simp [climbOf, hgood, hc]
end Go.Proofs.YtobdkjjakdjnaaaDoor
