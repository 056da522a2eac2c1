import Derived.Test.YthiefpmacffcoaaDd
set_option linter.unusedVariables false
set_option linter.unusedSimpArgs false
namespace Go.Proofs.Ythiefpmacffcoaa
open Go.Av
theorem stp_num (h a b : Int) (a0 : 0 ≤ a) (a1 : a < 2147483647) (b0 : 0 ≤ b) (b1 : b < 2147483647) (h1 : stp h a = stp h b) : a = b := by
  have := (stp_iff h a b).1 h1
  rw [Int.emod_eq_of_lt a0 a1, Int.emod_eq_of_lt b0 b1] at this
  exact this
theorem sum3_left (a a' b : Int) (h0 : 0 ≤ a) (h1 : a < 2147483647) (h2 : 0 ≤ a') (h3 : a' < 2147483647) (h : sumL [1, a, b] = sumL [1, a', b]) : a = a' := by
  have h : stp (stp (stp 7 1) a) b = stp (stp (stp 7 1) a') b := h
  have k1 := stp_bd (stp 7 1) a
  have k2 := stp_bd (stp 7 1) a'
  exact stp_num _ _ _ h0 h1 h2 h3 (stp_inj _ _ _ k1.1 k1.2 k2.1 k2.2 h)
theorem sum3_right (a b b' : Int) (h0 : 0 ≤ b) (h1 : b < 2147483647) (h2 : 0 ≤ b') (h3 : b' < 2147483647) (h : sumL [1, a, b] = sumL [1, a, b']) : b = b' := by
  have h : stp (stp (stp 7 1) a) b = stp (stp (stp 7 1) a) b' := h
  exact stp_num _ _ _ h0 h1 h2 h3 h
theorem leaf_iff (s t : List UInt8) : leaf s = leaf t ↔ sumL (codes s) = sumL (codes t) := by
  constructor
  · intro h
    have k1 := sumL_bd (codes s)
    have k2 := sumL_bd (codes t)
    have h : stp (stp 7 0) (sumL (codes s)) = stp (stp 7 0) (sumL (codes t)) := h
    exact stp_num _ _ _ k1.1 k1.2 k2.1 k2.2 h
  · intro h; unfold leaf; rw [h]
/-- Two rows that differ at most at one place. -/
structure Off (r r' : List Int) (n : Nat) : Prop where
  len : r'.length = r.length
  off : ∀ j, j ≠ n → r'.getD j 0 = r.getD j 0
theorem Off.up {r r' : List Int} {n : Nat} (h : Off r r' n) : Off (up r) (up r') (n / 2) := by
  refine ⟨by rw [up_length, up_length, h.len], fun j hj => ?_⟩
  rcases Nat.lt_or_ge j ((r.length + 1) / 2) with hlt | hge
  · rw [up_getD _ _ hlt, up_getD _ _ (by rw [h.len]; exact hlt), upEl, upEl, h.len, h.off (2 * j) (by omega), h.off (2 * j + 1) (by omega)]
  · simp [List.getD, List.getElem?_eq_none (show (Go.Proofs.Ythiefpmacffcoaa.up r).length ≤ j by rw [up_length]; omega), List.getElem?_eq_none (show (Go.Proofs.Ythiefpmacffcoaa.up r').length ≤ j by rw [up_length, h.len]; omega)]
theorem Off.tier {r r' : List Int} {n : Nat} (h : Off r r' n) : ∀ k, Off (tier k r) (tier k r') (n / 2 ^ k)
  | 0 => by simpa [Go.Proofs.Ythiefpmacffcoaa.tier] using h
  | k + 1 => by
    rw [Nat.pow_succ, ← Nat.div_div_eq_div_mul]
    exact (Off.tier h k).up
theorem Off.upHit {r r' : List Int} {n : Nat} (h : Off r r' n) (hn : n < r.length) (b : Bd r) (b' : Bd r') : (Go.Proofs.Ythiefpmacffcoaa.up r').getD (n / 2) 0 = (Go.Proofs.Ythiefpmacffcoaa.up r).getD (n / 2) 0 ↔ r'.getD n 0 = r.getD n 0 := by
  have hl := h.len
  rw [up_getD r' _ (by omega), up_getD r _ (by omega), upEl, upEl, h.len]
  have k1 := b n
  have k2 := b' n
  rcases Nat.mod_two_eq_zero_or_one n with e | e
  · rw [show 2 * (n / 2) = n by omega]
    split
    · rw [h.off (n + 1) (by omega)]
      exact ⟨sum3_left _ _ _ k2.1 k2.2 k1.1 k1.2, fun h => by rw [h]⟩
    · exact Iff.rfl
  · rw [if_pos (by omega), if_pos (by omega), show 2 * (n / 2) + 1 = n by omega, h.off (2 * (n / 2)) (by omega)]
    exact ⟨sum3_right _ _ _ k2.1 k2.2 k1.1 k1.2, fun h => by rw [h]⟩
theorem Off.hit {r r' : List Int} {n : Nat} (h : Off r r' n) (hn : n < r.length) (b : Bd r) (b' : Bd r') : ∀ k, (Go.Proofs.Ythiefpmacffcoaa.tier k r').getD (n / 2 ^ k) 0 = (Go.Proofs.Ythiefpmacffcoaa.tier k r).getD (n / 2 ^ k) 0 ↔ r'.getD n 0 = r.getD n 0
  | 0 => by simp [Go.Proofs.Ythiefpmacffcoaa.tier]
  | k + 1 => by
    rw [Nat.pow_succ, ← Nat.div_div_eq_div_mul]
    exact ((h.tier k).upHit (tier_idx n r hn k) (bd_tier b k) (bd_tier b' k)).trans (Off.hit h hn b b' k)
theorem Off.path {r r' : List Int} {n : Nat} (h : Off r r' n) (k : Nat) : pathL r' n k = pathL r n k := by
  unfold pathL
  rw [h.len]
  apply List.map_congr_left
  intro j _
  have hj := h.tier j
  unfold sib
  rw [hj.len]
  generalize n / 2 ^ j = m at *
  split
  · rw [hj.off _ (by omega)]
  · split
    · rw [hj.off _ (by omega)]
    · rfl
theorem off_set (l : List (List UInt8)) (i : Nat) (o : List UInt8) : Off (leaves l) (leaves (l.set i o)) i := by
  refine ⟨by simp, fun j hj => ?_⟩
  simp [leaves, List.getD, List.getElem?_set, Ne.symm hj]
end Go.Proofs.Ythiefpmacffcoaa

set_option linter.unusedVariables false
set_option linter.unusedSimpArgs false
namespace Go.Proofs.Ythiefpmacffcoaa
open Go.Av
theorem closed_strs (l : List (List UInt8)) : ∀ e ∈ strs l, closed e = true := by
  intro e he; simp only [strs, List.mem_map] at he; obtain ⟨x, _, rfl⟩ := he; rfl
set_option maxRecDepth 100000 in
theorem law7 (l : List (List UInt8)) (which : Int) (o : List UInt8) (hl : l.length ≤ 9223372036854775807) (h0 : 0 ≤ which) (h1 : which ≤ 255) : Ctr Try.prog 7 [.sl 1 (strs l), .int .u8 which, .str o] (fun r => r = .bool true) := by
  refine Ctr.of_body Try.func7 rfl tys_ok (by kernel_rfl) ?_
  conv => whnf
  refine cd_sound tys_ok _ ?_
  conv => whnf
  refine ACall.of_spec head_spec rfl fun r hr => ?_
  subst hr
  conv => whnf
  refine ACall.of_spec (few_spec l 70 hl) rfl fun r hr => ?_
  subst hr
  conv => whnf
  refine ⟨fun h2 => ?_, fun _ => ?_⟩
  rotate_left
  · conv => whnf
  · have h2 : fewB l 70 = true := by simpa using h2
    obtain ⟨hl70, hs40⟩ := few_len h2
    have hlM : l.length ≤ 1000000 := by omega
    have hsM : ∀ s ∈ l, s.length ≤ 1000000 := fun s hs => by have := hs40 s hs; omega
    have hll := strs_length l
    conv => whnf
    refine ⟨fun h => ?_, fun _ => ?_⟩
    rotate_left
    · conv => whnf
    · have hne : l ≠ [] := by rintro rfl; simp at h
      have hpos : 0 < l.length := List.length_pos_iff.2 hne
      conv => whnf
      refine ⟨fun _ => ?_, fun ho => ?_⟩
      · conv => whnf
      · have ho : o.length ≤ 40 := by simp at ho; omega
        have hh := height_le l.length
        conv => whnf
        refine ⟨by omega, ?_⟩
        conv => whnf
        obtain ⟨n, hn, hlt⟩ : ∃ n : Nat, (Wr .i64 which).tmod ((strs l).length : Int) = (n : Int) ∧ n < l.length := by
          refine ⟨which.toNat % l.length, ?_, Nat.mod_lt _ hpos⟩
          rw [Wr64 which (by omega) (by omega), hll, Int.tmod_eq_emod_of_nonneg h0, Int.natCast_emod, Int.toNat_of_nonneg h0]
        rw [hn]
        have hP := Path_spec l n hlM hsM
        rw [pathOf_eq l n hlt (by omega)] at hP
        have hof := off_set l n o
        have hbl := bd_leaves l
        have hbm := bd_leaves (l.set n o)
        have hlo : (leaves (l.set n o)).getD n 0 = leaf o := by rw [leaves_getD _ n (by simpa using hlt)]; simp
        have hll2 : (l.set n o).length = l.length := by simp
        obtain ⟨c1, _, _⟩ := climb_path (l.set n o) n o (leaves (l.set n o)) (by simpa using hlt) (by simp; omega) hlo hbm
        rw [hof.path, leaves_length, hll2] at c1
        have hroot : rootOf (l.set n o) = root (leaves (l.set n o)) := rootOf_eq _ (by intro e; rw [e] at hll2; simp at hll2; omega) (by omega)
        have hroot0 : rootOf l = root (leaves l) := rootOf_eq l hne (by omega)
        have hpl : (pathL (leaves l) n (height l.length)).length = height l.length := by simp
        generalize hp : pathL (leaves l) n (height l.length) = p at *
        have hsM2 : ∀ s ∈ l.set n o, s.length ≤ 1000000 := fun s hs => by
          rcases List.mem_or_eq_of_mem_set hs with h | rfl
          · exact hsM s h
          · omega
        have hd := hof.hit (by simpa using hlt) hbl hbm
        rw [hlo, leaves_getD l n hlt, leaf_iff] at hd
        refine ACall.of_spec hP rfl fun r hr => ?_
        subst hr
        conv => whnf
        refine ACall.of_spec (Climb_spec o n p (by omega) (by omega) (by omega)) rfl fun r hr => ?_
        subst hr
        rw [c1]
        conv => whnf
        rw [List.nil_append]
        refine ⟨⟨rfl, by rw [hll]; omega⟩, ?_⟩
        conv => whnf
        refine ⟨by omega, ?_⟩
        conv => whnf
        have hset : (strs l).set (0 + (n : Int).toNat) (AV.str o) = strs (l.set n o) := by rw [Nat.zero_add, Int.toNat_natCast]; unfold strs; rw [List.map_set]
        refine ⟨_, by rw [Nat.zero_add]; exact strs_get l n hlt, ?_⟩
        rw [hset]
        conv => whnf
        have hl0 : (strs l).length = (strs (l.set n o)).length := by simp
        rw [hl0]
        refine ACall.freeze 0 ?_ (by kernel_rfl)
        conv => whnf
        refine ⟨closed_strs _, ?_⟩
        conv => whnf
        iterate 5 (refine ⟨rfl, ?_⟩; conv => whnf)
        refine ACall.of_spec (Root_spec (l.set n o) (by omega) hsM2) rfl fun r hr => ?_
        subst hr
        conv => whnf
        refine ⟨fun h => absurd h (ndec hroot.symm), fun _ => ?_⟩
        conv => whnf
        have hrd : rootOf (l.set n o) = rootOf l ↔ sumL (codes o) = sumL (codes l[n]) := by
          have h3 := hd (height l.length)
          have h4 := tier_idx n (leaves l) (by simpa using hlt) (height l.length)
          have h5 := tier_top (leaves l) (by simpa using hpos)
          rw [leaves_length] at h5
          rw [h5] at h4
          rw [Nat.lt_one_iff.1 h4] at h3
          rw [hroot, hroot0, root, root, leaves_length, leaves_length, hll2]
          exact h3
        refine ACode.draw [8] tys_ok (by kernel_rfl) (by kernel_rfl) ?_
        conv => whnf
        refine ⟨_, ⟨Label_spec o (by omega), rfl⟩, ?_⟩
        conv => whnf
        refine ⟨by omega, _, strs_get l n hlt, ?_⟩
        conv => whnf
        refine ⟨_, ⟨Label_spec l[n] (hsM _ (List.getElem_mem hlt)), rfl⟩, ?_⟩
        conv => whnf
        have hs : ∀ b : Bool, ((!decide (sumL (codes o) = sumL (codes l[n]))) = b) → ∃ df, df = b ∧ (df = true ↔ ¬ sumL (codes o) = sumL (codes l[n])) := fun b hb => ⟨b, rfl, by subst hb; simp⟩
        have htl : (rowsA (tiers (leaves l) (height l.length + 1))).length = height l.length + 1 := by simp
        have htl2 : (rowsA (tiers (leaves (l.set n o)) (height l.length + 1))).length = height l.length + 1 := by simp
        have hget : ∀ (m : List (List UInt8)) k, k ≤ height l.length → (rowsA (tiers (leaves m) (height l.length + 1)))[k]? = some (.sl 1 (ints (tier k (leaves m)))) := fun m k hk => tiers_get _ _ _ (by omega)
        refine ⟨fun hA => ?_, fun hA => ?_⟩ <;> obtain ⟨df, hd1, hd2⟩ := hs _ hA
        all_goals
          conv => whnf
          refine ACall.of_spec (Tree_spec l hlM hsM) rfl fun r hr => ?_
          rw [treeOf_eq l hne (by omega)] at hr
          subst hr
          conv => whnf
          refine ACall.of_spec (Tree_spec (l.set n o) (by omega) hsM2) rfl fun r hr => ?_
          rw [treeOf_eq (l.set n o) (by intro e; rw [e] at hll2; simp at hll2; omega) (by omega), hll2] at hr
          subst hr
          conv => whnf
          refine ⟨fun h => absurd h (ndec (by rw [htl, htl2])), fun _ => ?_⟩
          conv => whnf
          refine ACode.loopD (fun k : Nat => mk 136 [(0, .sl 1 (strs l)), (7, .bool true), (8, .int .i64 ((n / 2 ^ k : Nat) : Int)), (12, .sl 1 (strs (l.set n o))), (13, .bool df), (14, .sl 1 (rowsA (tiers (leaves l) (height l.length + 1)))), (15, .sl 1 (rowsA (tiers (leaves (l.set n o)) (height l.length + 1)))), (16, .int .i64 k)]) (fun _ => List.replicate 10 .dead) (fun k => k ≤ height l.length + 1) (fun k => height l.length + 1 - k) (fun k hk => ⟨rfl, trivial⟩) ⟨0, ?_⟩ (fun _ => rfl) fun k hk => ?_
          · conv => whnf
            repeat (refine ⟨by first | rfl | (rw [hd1]) | (simp), ?_⟩; conv => whnf)
            exact Nat.zero_le _
          · refine cd_sound tys_ok _ ?_
            conv => whnf
            rw [htl]
            refine ⟨fun hlt2 => ?_, fun hge => ?_⟩
            · have hkh : k ≤ height l.length := by simp at hlt2; omega
              have hdk := hd k
              have hofk := hof.tier k
              have hidx := tier_idx n (leaves l) (by simpa using hlt) k
              have hgk := hget l k hkh
              have hgk2 := hget (l.set n o) k hkh
              have hlen := tier_length_le k (leaves l)
              have hm1 : n / 2 ^ (k + 1) = n / 2 ^ k / 2 := by rw [Nat.pow_succ, ← Nat.div_div_eq_div_mul]
              have hm2 : n / 2 ^ k ≤ n := Nat.div_le_self _ _
              rw [leaves_length] at hlen
              generalize hm : n / 2 ^ k = m at *
              have hmq : Wr .i64 ((m : Int).tdiv 2) = ((n / 2 ^ (k + 1) : Nat) : Int) := by rw [hm1, Int.tdiv_eq_ediv_of_nonneg (by omega), Wr64 _ (by omega) (by omega)]; omega
              generalize tier k (leaves l) = row at *
              generalize tier k (leaves (l.set n o)) = row' at *
              have hl1 : (ints row).length = row.length := ints_length _
              have hl2 : (ints row').length = row.length := by rw [ints_length]; exact hofk.len
              conv => whnf
              refine ACode.draw [] tys_ok (by kernel_rfl) (by kernel_rfl) ?_
              conv => whnf
              refine ⟨by omega, _, hgk, ?_⟩
              conv => whnf
              refine ⟨by omega, _, hgk2, ?_⟩
              conv => whnf
              refine ⟨fun h => absurd h (ndec (by rw [hl1, hl2])), fun _ => ?_⟩
              conv => whnf
              refine ACode.loopD (fun j : Nat => mk 136 [(0, .sl 1 (strs l)), (7, .bool true), (8, .int .i64 m), (12, .sl 1 (strs (l.set n o))), (13, .bool df), (14, .sl 1 (rowsA (tiers (leaves l) (height l.length + 1)))), (15, .sl 1 (rowsA (tiers (leaves (l.set n o)) (height l.length + 1)))), (16, .int .i64 k), (17, .int .i64 j)]) (fun _ => List.replicate 21 .dead) (fun j => j ≤ row.length) (fun j => row.length - j) (fun k hk => ⟨rfl, trivial⟩) ⟨0, ?_⟩ (fun _ => rfl) fun j hj => ?_
              · conv => whnf
                repeat (refine ⟨by first | rfl, ?_⟩; conv => whnf)
                exact Nat.zero_le _
              · refine cd_sound tys_ok _ ?_
                conv => whnf
                refine ⟨by omega, _, hgk, ?_⟩
                conv => whnf
                rw [hl1]
                refine ⟨fun hlt3 => ?_, fun hge3 => ?_⟩
                · have hjl : j < row.length := by simp at hlt3; omega
                  have hg1 : (ints row)[j]? = some (.int .i64 (row.getD j 0)) := ints_getD _ _ hjl
                  have hg2 : (ints row')[j]? = some (.int .i64 (row'.getD j 0)) := ints_getD _ _ (by rw [hofk.len]; exact hjl)
                  have hoj := hofk.off j
                  conv => whnf
                  refine ACode.draw [] tys_ok (by kernel_rfl) (by kernel_rfl) ?_
                  conv => whnf
                  refine ⟨by omega, _, hgk, ?_⟩
                  conv => whnf
                  refine ⟨by omega, _, hg1, ?_⟩
                  conv => whnf
                  refine ⟨by omega, _, hgk2, ?_⟩
                  conv => whnf
                  refine ⟨by omega, _, hg2, ?_⟩
                  conv => whnf
                  refine ⟨fun hE => ?_, fun hE => ?_⟩
                  · have hE : ¬ row.getD j 0 = row'.getD j 0 := by simpa using hE
                    have hjm : j = m := Decidable.byContradiction fun h => hE (hoj h).symm
                    have hdt : df = true := hd2.2 fun h => hE (by rw [hjm]; exact (hdk.2 h).symm)
                    conv => whnf
                    refine ⟨fun _ => ?_, fun h => absurd h (by simp [hjm])⟩
                    conv => whnf
                    refine ⟨fun _ => ?_, fun h => absurd h (by simp [hdt])⟩
                    conv => whnf
                    refine ⟨fun h => absurd h (by decide), fun _ => ?_⟩
                    conv => whnf
                    refine ⟨j + 1, ?_⟩
                    conv => whnf
                    repeat (refine ⟨by first | rfl | exact wr_succ j (by omega), ?_⟩; conv => whnf)
                    exact ⟨by omega, by omega⟩
                  · have hE : row.getD j 0 = row'.getD j 0 := by simpa using hE
                    conv => whnf
                    refine ⟨fun hjm => ?_, fun hjm => ?_⟩
                    · have hjm : j = m := by simp at hjm; omega
                      have hdt : df = false := by
                        cases hdf : df with
                        | false => rfl
                        | true => exact absurd (hdk.1 (by rw [← hjm]; exact hE.symm)) (hd2.1 hdf)
                      conv => whnf
                      refine ⟨fun h => absurd h (by simp [hdt]), fun _ => ?_⟩
                      conv => whnf
                      refine ⟨fun h => absurd h (by decide), fun _ => ?_⟩
                      conv => whnf
                      refine ⟨j + 1, ?_⟩
                      conv => whnf
                      repeat (refine ⟨by first | rfl | exact wr_succ j (by omega), ?_⟩; conv => whnf)
                      exact ⟨by omega, by omega⟩
                    · conv => whnf
                      refine ⟨fun h => absurd h (by decide), fun _ => ?_⟩
                      conv => whnf
                      refine ⟨j + 1, ?_⟩
                      conv => whnf
                      repeat (refine ⟨by first | rfl | exact wr_succ j (by omega), ?_⟩; conv => whnf)
                      exact ⟨by omega, by omega⟩
                · conv => whnf
                  refine ⟨by decide, ?_⟩
                  conv => whnf
                  refine ⟨k + 1, ?_⟩
                  conv => whnf
                  rw [hmq]
                  repeat (refine ⟨by first | rfl | exact wr_succ k (by omega), ?_⟩; conv => whnf)
                  exact ⟨by omega, by omega⟩
            · conv => whnf
              refine ⟨fun _ => ?_, fun h => absurd h (by decide)⟩
              conv => whnf
              refine ACall.of_spec (Root_spec (l.set n o) (by omega) hsM2) rfl fun r hr => ?_
              subst hr
              conv => whnf
              refine ACall.of_spec (Root_spec l hlM hsM) rfl fun r hr => ?_
              subst hr
              conv => whnf
              have hfin : (!decide (rootOf (l.set n o) = rootOf l)) = df := by
                by_cases e : sumL (codes o) = sumL (codes l[n])
                · have e1 := hrd.2 e
                  have e2 : df = false := by
                    cases hdf : df with
                    | false => rfl
                    | true => exact absurd e (hd2.1 hdf)
                  rw [e2, decide_eq_true e1]; rfl
                · have e1 : ¬ rootOf (l.set n o) = rootOf l := fun h => e (hrd.1 h)
                  rw [hd2.2 e, decide_eq_false e1]; rfl
              rw [hfin]
              cases df <;> rfl
end Go.Proofs.Ythiefpmacffcoaa
