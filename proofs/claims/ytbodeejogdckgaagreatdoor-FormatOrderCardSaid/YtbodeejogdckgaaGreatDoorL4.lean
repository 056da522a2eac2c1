/-
  FormatOrder.
-/
import Derived.Test.YtbodeejogdckgaaGreatDoorL1
set_option linter.unusedVariables false
set_option linter.unusedSimpArgs false
namespace Go.Proofs.YtbodeejogdckgaaGreatDoor
open Go.Av Go.Shelf Pl
def nats (l : List Nat) : List AV := l.map fun n : Nat => AV.int .i64 (n : Int)
def intsA (l : List Nat) : AV := .sl 1 (nats l)
theorem nats_len (l : List Nat) : (nats l).length = l.length := by simp [nats]
theorem nats_closed (l : List Nat) : ∀ x ∈ nats l, closed x = true := by
  intro x hx
  obtain ⟨y, _, rfl⟩ := List.mem_map.1 hx
  rfl
theorem nats_get (l : List Nat) (k : Nat) (h : k < l.length) : (nats l)[k]? = some (.int .i64 (l[k] : Int)) := by simp [nats, h]
set_option maxRecDepth 100000 in
theorem less_spec (a b : List Nat) (ha : a.length ≤ 100000) (hb : b.length ≤ 100000) : Ctr Tryz.prog 24 [intsA a, intsA b] (fun r => r = .bool (lessB a b)) := by
  refine Ctr.of_body Tryz.func24 rfl tys_ok (by kernel_rfl) ?_
  conv => whnf
  repeat (first | refine ACode.seq ?_ | (refine ACode.s_reg tys_ok ?_; conv => whnf) | refine ACode.s_block ?_ | refine ACode.s_scope ?_ | (refine ACode.s_cond ?_; conv => whnf) | (refine ACode.s_exit ?_; conv => whnf) | (refine ACode.s_ret ?_; conv => whnf) | (refine ACode.s_skip ?_; conv => whnf) | (refine ACode.s_label ?_; conv => whnf))
  have hla := nats_len a
  have hlb := nats_len b
  refine ACode.loopD (fun i : Nat => mk 41 [(0, intsA a), (1, intsA b), (4, .lit false), (5, .int .i64 i)]) (fun i => []) (fun i => i ≤ a.length ∧ i ≤ b.length ∧ a.take i = b.take i) (fun i => a.length - i) (fun _ _ => ⟨rfl, trivial⟩) ⟨0, ?_⟩ (fun _ => rfl) fun i hi => ?_
  · conv => whnf
    repeat (refine And.intro ?_ ?_; (focus (first | rfl | (simp; done))); conv => whnf)
    rfl
  · obtain ⟨hia, hib, ht⟩ := hi
    have hless : lessB a b = lessB (a.drop i) (b.drop i) := by
      conv => lhs; rw [← List.take_append_drop i a, ← List.take_append_drop i b, ht]
      exact less_pre _ _ _
    repeat (first | refine ACode.seq ?_ | (refine ACode.s_reg tys_ok ?_; conv => whnf) | refine ACode.s_block ?_ | refine ACode.s_scope ?_ | (refine ACode.s_cond ?_; conv => whnf) | (refine ACode.s_exit ?_; conv => whnf) | (refine ACode.s_ret ?_; conv => whnf) | (refine ACode.s_skip ?_; conv => whnf) | (refine ACode.s_label ?_; conv => whnf))
    repeat' (first | (refine And.intro (fun _ => ?_) (fun _ => ?_) <;> conv => whnf) | refine ACode.seq ?_ | (refine ACode.s_reg tys_ok ?_; conv => whnf) | refine ACode.s_block ?_ | refine ACode.s_scope ?_ | (refine ACode.s_cond ?_; conv => whnf) | (refine ACode.s_exit ?_; conv => whnf) | (refine ACode.s_ret ?_; conv => whnf) | (refine ACode.s_skip ?_; conv => whnf) | (refine ACode.s_label ?_; conv => whnf))
    · rename_i h1 h2
      have h1 : i < a.length := by have := of_decide_eq_true h1; omega
      have h2 : i < b.length := by have := of_decide_eq_true h2; omega
      have hw1 : Wr .i64 ((i : Int) + 1) = ((i + 1 : Nat) : Int) := by rw [Wr64 _ (by omega) (by omega)]; rfl
      rw [List.drop_eq_getElem_cons h1, List.drop_eq_getElem_cons h2] at hless
      simp only [lessB] at hless
      repeat (first | refine ACode.seq ?_ | (refine ACode.s_reg tys_ok ?_; conv => whnf) | refine ACode.s_block ?_ | refine ACode.s_scope ?_ | (refine ACode.s_cond ?_; conv => whnf) | (refine ACode.s_exit ?_; conv => whnf) | (refine ACode.s_ret ?_; conv => whnf) | (refine ACode.s_skip ?_; conv => whnf) | (refine ACode.s_label ?_; conv => whnf))
      refine ACode.draw [] tys_ok (by kernel_rfl) (by kernel_rfl) ?_
      conv => whnf
      refine ⟨by omega, _, nats_get a i h1, ?_⟩
      conv => whnf
      refine ⟨by omega, _, nats_get b i h2, ?_⟩
      conv => whnf
      refine ⟨fun g => ?_, fun g => ?_⟩
      · have g : ¬ a[i] = b[i] := by simp at g; omega
        rw [if_neg g] at hless
        conv => whnf
        repeat (first | refine ACode.seq ?_ | (refine ACode.s_reg tys_ok ?_; conv => whnf) | refine ACode.s_block ?_ | refine ACode.s_scope ?_ | (refine ACode.s_cond ?_; conv => whnf) | (refine ACode.s_exit ?_; conv => whnf) | (refine ACode.s_ret ?_; conv => whnf) | (refine ACode.s_skip ?_; conv => whnf) | (refine ACode.s_label ?_; conv => whnf))
        refine ACode.draw [] tys_ok (by kernel_rfl) (by kernel_rfl) ?_
        conv => whnf
        refine ⟨by omega, _, nats_get a i h1, ?_⟩
        conv => whnf
        refine ⟨by omega, _, nats_get b i h2, ?_⟩
        conv => whnf
        refine ⟨fun g2 => ?_, fun g2 => ?_⟩
        · have g2 : a[i] < b[i] := by have := of_decide_eq_true g2; omega
          conv => whnf
          repeat (first | refine ACode.seq ?_ | (refine ACode.s_reg tys_ok ?_; conv => whnf) | refine ACode.s_block ?_ | refine ACode.s_scope ?_ | (refine ACode.s_cond ?_; conv => whnf) | (refine ACode.s_exit ?_; conv => whnf) | (refine ACode.s_ret ?_; conv => whnf) | (refine ACode.s_skip ?_; conv => whnf) | (refine ACode.s_label ?_; conv => whnf))
          rw [hless, decide_eq_true g2]
        · have g2 : ¬ a[i] < b[i] := by have := of_decide_eq_false g2; omega
          conv => whnf
          repeat (first | refine ACode.seq ?_ | (refine ACode.s_reg tys_ok ?_; conv => whnf) | refine ACode.s_block ?_ | refine ACode.s_scope ?_ | (refine ACode.s_cond ?_; conv => whnf) | (refine ACode.s_exit ?_; conv => whnf) | (refine ACode.s_ret ?_; conv => whnf) | (refine ACode.s_skip ?_; conv => whnf) | (refine ACode.s_label ?_; conv => whnf))
          rw [hless, decide_eq_false g2]
      · have g : a[i] = b[i] := by simp at g; omega
        conv => whnf
        repeat (first | refine ACode.seq ?_ | (refine ACode.s_reg tys_ok ?_; conv => whnf) | refine ACode.s_block ?_ | refine ACode.s_scope ?_ | (refine ACode.s_cond ?_; conv => whnf) | (refine ACode.s_exit ?_; conv => whnf) | (refine ACode.s_ret ?_; conv => whnf) | (refine ACode.s_skip ?_; conv => whnf) | (refine ACode.s_label ?_; conv => whnf))
        refine ⟨i + 1, ?_⟩
        conv => whnf
        repeat (refine And.intro ?_ ?_; (focus (first | rfl | (simp; done) | (first | exact hw1; done))); conv => whnf)
        refine ⟨⟨h1, h2, ?_⟩, by omega⟩
        rw [List.take_succ_eq_append_getElem h1, List.take_succ_eq_append_getElem h2, ht, g]
    · rename_i h1 h2
      have h1 : i < a.length := by have := of_decide_eq_true h1; omega
      have h2 : i = b.length := by have := of_decide_eq_false h2; omega
      rw [hless, List.drop_eq_getElem_cons h1, List.drop_eq_nil_of_le (by omega : b.length ≤ i)]
      exact congrArg AV.bool (by simp [lessB]; omega)
    · rename_i h1
      have h1 : i = a.length := by have := of_decide_eq_false h1; omega
      rw [hless, List.drop_eq_nil_of_le (by omega : a.length ≤ i)]
      refine congrArg AV.bool ?_
      by_cases h2 : i < b.length
      · rw [List.drop_eq_getElem_cons h2]
        simp [lessB]; omega
      · rw [List.drop_eq_nil_of_le (by omega : b.length ≤ i)]
        simp [lessB]; omega
set_option maxRecDepth 100000 in
theorem counts_spec (f : Fm) (a : Ad) (hs : SmallF f) (ha : a.st.length ≤ 1000 ∧ a.to.length ≤ 1000 ∧ a.pe.length ≤ 1000) : Ctr Tryz.prog 25 [f.v, a.v] (fun r => r = intsA (cntL f.lines.flatten a)) := by
  refine Ctr.of_body Tryz.func25 rfl tys_ok (by kernel_rfl) ?_
  conv => whnf
  repeat (first | refine ACode.seq ?_ | (refine ACode.s_reg tys_ok ?_; conv => whnf) | refine ACode.s_block ?_ | refine ACode.s_scope ?_ | (refine ACode.s_cond ?_; conv => whnf) | (refine ACode.s_exit ?_; conv => whnf) | (refine ACode.s_ret ?_; conv => whnf) | (refine ACode.s_skip ?_; conv => whnf) | (refine ACode.s_label ?_; conv => whnf))
  refine ACall.of_spec (rparts_spec f hs.l hs.l2) rfl fun r hr => ?_
  subst hr
  conv => whnf
  repeat (first | refine ACode.seq ?_ | (refine ACode.s_reg tys_ok ?_; conv => whnf) | refine ACode.s_block ?_ | refine ACode.s_scope ?_ | (refine ACode.s_cond ?_; conv => whnf) | (refine ACode.s_exit ?_; conv => whnf) | (refine ACode.s_ret ?_; conv => whnf) | (refine ACode.s_skip ?_; conv => whnf) | (refine ACode.s_label ?_; conv => whnf))
  have hfl := flat_len' f.lines hs.l2
  have hfl2 : f.lines.flatten.length ≤ 1000000 := Nat.le_trans hfl (Nat.mul_le_mul_left 1000 hs.l)
  have hcl : ∀ x ∈ f.lines.map ptsA, closed x = true := fun x hx => by
    obtain ⟨y, _, rfl⟩ := List.mem_map.1 hx
    rfl
  generalize f.lines.map ptsA = M at *
  generalize f.lines.flatten = L at *
  have hmL : (L.map Pt.v).length = L.length := by simp
  refine ACode.loopD (fun i : Nat => mk 50 [(2, .ptr 0 0), (3, .ptr 1 0), (5, .own 2 1 0 (cntL (L.take i) a).length), (6, ptsA L), (7, .int .i64 i)]) (fun i => [.cells [.str f.name, .sl 1 M], .cells (adA a), .arr 3 1 (nats (cntL (L.take i) a))]) (fun i => i ≤ L.length) (fun i => L.length - i) (fun _ _ => ⟨rfl, rfl, rfl, nats_closed _, trivial⟩) ⟨0, ?_⟩ (fun _ => rfl) fun i hi => ?_
  · conv => whnf
    repeat (refine And.intro ?_ ?_; (focus (first | rfl | (simp; done))); conv => whnf)
    exact Nat.zero_le _
  · repeat (first | refine ACode.seq ?_ | (refine ACode.s_reg tys_ok ?_; conv => whnf) | refine ACode.s_block ?_ | refine ACode.s_scope ?_ | (refine ACode.s_cond ?_; conv => whnf) | (refine ACode.s_exit ?_; conv => whnf) | (refine ACode.s_ret ?_; conv => whnf) | (refine ACode.s_skip ?_; conv => whnf) | (refine ACode.s_label ?_; conv => whnf))
    refine ⟨fun h => ?_, fun h => ?_⟩
    · have h : i < L.length := by have := of_decide_eq_true h; omega
      have hw1 : Wr .i64 ((i : Int) + 1) = ((i + 1 : Nat) : Int) := by rw [Wr64 _ (by omega) (by omega)]; rfl
      conv => whnf
      repeat (first | refine ACode.seq ?_ | (refine ACode.s_reg tys_ok ?_; conv => whnf) | refine ACode.s_block ?_ | refine ACode.s_scope ?_ | (refine ACode.s_cond ?_; conv => whnf) | (refine ACode.s_exit ?_; conv => whnf) | (refine ACode.s_ret ?_; conv => whnf) | (refine ACode.s_skip ?_; conv => whnf) | (refine ACode.s_label ?_; conv => whnf))
      refine ⟨by omega, _, pts_get L i h, ?_⟩
      conv => whnf
      repeat (first | refine ACode.seq ?_ | (refine ACode.s_reg tys_ok ?_; conv => whnf) | refine ACode.s_block ?_ | refine ACode.s_scope ?_ | (refine ACode.s_cond ?_; conv => whnf) | (refine ACode.s_exit ?_; conv => whnf) | (refine ACode.s_ret ?_; conv => whnf) | (refine ACode.s_skip ?_; conv => whnf) | (refine ACode.s_label ?_; conv => whnf))
      have htk : cntL (L.take (i + 1)) a = cntL (L.take i) a ++ (cntP a L[i]).toList := by
        rw [List.take_succ_eq_append_getElem h, cntL_app, cntL_cons]
        simp [cntL]
      have hcl2 : (cntL (L.take i) a).length ≤ 1000000 := by
        have h5 : (cntL (L.take i) a).length ≤ (L.take i).length := List.length_filterMap_le _ _
        rw [List.length_take] at h5
        omega
      repeat' (first | (refine And.intro (fun _ => ?_) (fun _ => ?_) <;> conv => whnf) | refine ACode.seq ?_ | (refine ACode.s_reg tys_ok ?_; conv => whnf) | refine ACode.s_block ?_ | refine ACode.s_scope ?_ | (refine ACode.s_cond ?_; conv => whnf) | (refine ACode.s_exit ?_; conv => whnf) | (refine ACode.s_ret ?_; conv => whnf) | (refine ACode.s_skip ?_; conv => whnf) | (refine ACode.s_label ?_; conv => whnf))
      · rename_i k4
        have k4 : L[i].k = 4 := by simpa using k4
        have hcp : cntP a L[i] = some (wordsW a.st).length := by unfold cntP; rw [if_pos k4]
        have htk := htk
        refine ACall.of_spec (rwords_spec a.st (by omega)) rfl fun r hr => ?_
        subst hr
        conv => whnf
        repeat (first | refine ACode.seq ?_ | (refine ACode.s_reg tys_ok ?_; conv => whnf) | refine ACode.s_block ?_ | refine ACode.s_scope ?_ | (refine ACode.s_cond ?_; conv => whnf) | (refine ACode.s_exit ?_; conv => whnf) | (refine ACode.s_ret ?_; conv => whnf) | (refine ACode.s_skip ?_; conv => whnf) | (refine ACode.s_label ?_; conv => whnf))
        refine ⟨rfl, ?_⟩
        conv => whnf
        refine ⟨⟨by rw [nats_len], by simp [nats_len]; omega⟩, ?_⟩
        rw [show nats (cntL (L.take i) a) ++ [AV.int .i64 ((strs (wordsW a.st)).length : Int)] = nats (cntL (L.take (i + 1)) a) by rw [htk, hcp, strs_len]; simp [nats]]
        conv => whnf
        repeat (first | refine ACode.seq ?_ | (refine ACode.s_reg tys_ok ?_; conv => whnf) | refine ACode.s_block ?_ | refine ACode.s_scope ?_ | (refine ACode.s_cond ?_; conv => whnf) | (refine ACode.s_exit ?_; conv => whnf) | (refine ACode.s_ret ?_; conv => whnf) | (refine ACode.s_skip ?_; conv => whnf) | (refine ACode.s_label ?_; conv => whnf))
        refine ⟨i + 1, ?_⟩
        conv => whnf
        repeat (refine And.intro ?_ ?_; (focus (first | rfl | (simp; done) | (first | exact hw1 | (rw [nats_len]; done); done))); conv => whnf)
        exact ⟨h, by omega⟩
      · rename_i k4 k5
        have k4 : ¬ L[i].k = 4 := by simpa using k4
        have k5 : L[i].k = 5 := by simpa using k5
        have hcp : cntP a L[i] = some (wordsW a.to).length := by unfold cntP; rw [if_neg k4, if_pos k5]
        refine ACall.of_spec (rwords_spec a.to (by omega)) rfl fun r hr => ?_
        subst hr
        conv => whnf
        repeat (first | refine ACode.seq ?_ | (refine ACode.s_reg tys_ok ?_; conv => whnf) | refine ACode.s_block ?_ | refine ACode.s_scope ?_ | (refine ACode.s_cond ?_; conv => whnf) | (refine ACode.s_exit ?_; conv => whnf) | (refine ACode.s_ret ?_; conv => whnf) | (refine ACode.s_skip ?_; conv => whnf) | (refine ACode.s_label ?_; conv => whnf))
        refine ⟨rfl, ?_⟩
        conv => whnf
        refine ⟨⟨by rw [nats_len], by simp [nats_len]; omega⟩, ?_⟩
        rw [show nats (cntL (L.take i) a) ++ [AV.int .i64 ((strs (wordsW a.to)).length : Int)] = nats (cntL (L.take (i + 1)) a) by rw [htk, hcp, strs_len]; simp [nats]]
        conv => whnf
        repeat (first | refine ACode.seq ?_ | (refine ACode.s_reg tys_ok ?_; conv => whnf) | refine ACode.s_block ?_ | refine ACode.s_scope ?_ | (refine ACode.s_cond ?_; conv => whnf) | (refine ACode.s_exit ?_; conv => whnf) | (refine ACode.s_ret ?_; conv => whnf) | (refine ACode.s_skip ?_; conv => whnf) | (refine ACode.s_label ?_; conv => whnf))
        refine ⟨i + 1, ?_⟩
        conv => whnf
        repeat (refine And.intro ?_ ?_; (focus (first | rfl | (simp; done) | (first | exact hw1 | (rw [nats_len]; done); done))); conv => whnf)
        exact ⟨h, by omega⟩
      · rename_i k4 k5 k6
        have k4 : ¬ L[i].k = 4 := by simpa using k4
        have k5 : ¬ L[i].k = 5 := by simpa using k5
        have k6 : L[i].k = 6 := by simpa using k6
        have hcp : cntP a L[i] = some (wordsW a.pe).length := by unfold cntP; rw [if_neg k4, if_neg k5, if_pos k6]
        refine ACall.of_spec (rwords_spec a.pe (by omega)) rfl fun r hr => ?_
        subst hr
        conv => whnf
        repeat (first | refine ACode.seq ?_ | (refine ACode.s_reg tys_ok ?_; conv => whnf) | refine ACode.s_block ?_ | refine ACode.s_scope ?_ | (refine ACode.s_cond ?_; conv => whnf) | (refine ACode.s_exit ?_; conv => whnf) | (refine ACode.s_ret ?_; conv => whnf) | (refine ACode.s_skip ?_; conv => whnf) | (refine ACode.s_label ?_; conv => whnf))
        refine ⟨rfl, ?_⟩
        conv => whnf
        refine ⟨⟨by rw [nats_len], by simp [nats_len]; omega⟩, ?_⟩
        rw [show nats (cntL (L.take i) a) ++ [AV.int .i64 ((strs (wordsW a.pe)).length : Int)] = nats (cntL (L.take (i + 1)) a) by rw [htk, hcp, strs_len]; simp [nats]]
        conv => whnf
        repeat (first | refine ACode.seq ?_ | (refine ACode.s_reg tys_ok ?_; conv => whnf) | refine ACode.s_block ?_ | refine ACode.s_scope ?_ | (refine ACode.s_cond ?_; conv => whnf) | (refine ACode.s_exit ?_; conv => whnf) | (refine ACode.s_ret ?_; conv => whnf) | (refine ACode.s_skip ?_; conv => whnf) | (refine ACode.s_label ?_; conv => whnf))
        refine ⟨i + 1, ?_⟩
        conv => whnf
        repeat (refine And.intro ?_ ?_; (focus (first | rfl | (simp; done) | (first | exact hw1 | (rw [nats_len]; done); done))); conv => whnf)
        exact ⟨h, by omega⟩
      · rename_i k4 k5 k6
        have k4 : ¬ L[i].k = 4 := by simpa using k4
        have k5 : ¬ L[i].k = 5 := by simpa using k5
        have k6 : ¬ L[i].k = 6 := by simpa using k6
        have hcp : cntP a L[i] = none := by unfold cntP; rw [if_neg k4, if_neg k5, if_neg k6]
        have e : cntL (L.take (i + 1)) a = cntL (L.take i) a := by rw [htk, hcp]; simp
        refine ⟨i + 1, ?_⟩
        conv => whnf
        repeat (refine And.intro ?_ ?_; (focus (first | rfl | (simp; done) | (first | exact hw1 | (rw [e]; done); done))); conv => whnf)
        exact ⟨h, by omega⟩
    · have h : i = L.length := by have := of_decide_eq_false h; omega
      rw [h, List.take_length]
      conv => whnf
      repeat (first | refine ACode.seq ?_ | (refine ACode.s_reg tys_ok ?_; conv => whnf) | refine ACode.s_block ?_ | refine ACode.s_scope ?_ | (refine ACode.s_cond ?_; conv => whnf) | (refine ACode.s_exit ?_; conv => whnf) | (refine ACode.s_ret ?_; conv => whnf) | (refine ACode.s_skip ?_; conv => whnf) | (refine ACode.s_label ?_; conv => whnf))
      refine ⟨⟨by rw [nats_len], nats_closed _⟩, ?_⟩
      rfl
end Go.Proofs.YtbodeejogdckgaaGreatDoor
