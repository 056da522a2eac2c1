import Derived.Test.YtmhlneeboefkgaaDoorR5
import Derived.Test.YtmhlneeboefkgaaDoorPa
set_option linter.unusedVariables false
set_option linter.unusedSimpArgs false
namespace Go.Proofs.YtmhlneeboefkgaaDoor
open Go.Av Go.Av.Net Pl
theorem parse_sml {s : Bs} {n : Nw} (h : parseP s = .ok n) : Sml n ∧ szN n ≤ 3000 := by
  have hp := parse_post s
  rw [h] at hp
  unfold parseP at h
  cases hl : lexP s with
  | err e p => rw [hl] at h; cases h
  | ok l =>
    rw [hl] at h
    simp only at h
    have h3 := (lexP_iff.1 hl).2.1
    have hk : (kts l).length = l.length := by simp [kts]
    cases hq : netP (kts l) with
    | fail e i => rw [hq] at h; cases h
    | ok m i =>
      rw [hq] at h
      cases h
      obtain ⟨s1, s2⟩ := net_small hq
      have h0 := hp.1.names.1
      unfold szN at s1 ⊢
      exact ⟨⟨by omega, by omega, by omega, by omega, by omega, by omega, fun c hc => ⟨by rw [(hp.1.cals c hc).week]; omega, by have := s2.hols c hc; omega⟩, fun o ho => by have := s2.codes o ho; omega⟩, by omega⟩
theorem name_len {s : Bs} (h : isNameB s = true) : s.length ≤ 16 := by
  rw [isNameB_eq] at h
  simp only [Bool.and_eq_true, decide_eq_true_eq] at h
  exact h.1.1.1.2
theorem code_len {s : Bs} (h : isCodeB s = true) : s.length ≤ 8 := by
  rw [codeB_eq] at h
  simp only [Bool.and_eq_true, decide_eq_true_eq] at h
  exact h.1.2
theorem in_spec (i n : Int) : Ctr Tryd.prog 18 [.int .i64 i, .int .i64 n] (fun r => r = .bool (decide (0 ≤ i) && decide (i < n))) := by
  refine Ctr.lits ?_
  refine Ctr.of_body Tryd.func18 rfl tys_ok (by kernel_rfl) ?_
  conv => whnf
  repeat (first | refine ACode.seq ?_ | (refine ACode.s_reg tys_ok ?_; conv => whnf) | refine ACode.s_block ?_ | refine ACode.s_scope ?_ | (refine ACode.s_cond ?_; conv => whnf) | (refine ACode.s_exit ?_; conv => whnf) | (refine ACode.s_ret ?_; conv => whnf) | (refine ACode.s_skip ?_; conv => whnf) | (refine ACode.s_label ?_; conv => whnf))
  repeat' (first | (refine And.intro (fun _ => ?_) (fun _ => ?_) <;> conv => whnf) | refine ACode.seq ?_ | (refine ACode.s_reg tys_ok ?_; conv => whnf) | refine ACode.s_block ?_ | refine ACode.s_scope ?_ | (refine ACode.s_cond ?_; conv => whnf) | (refine ACode.s_exit ?_; conv => whnf) | (refine ACode.s_ret ?_; conv => whnf) | (refine ACode.s_skip ?_; conv => whnf) | (refine ACode.s_label ?_; conv => whnf))
  all_goals first | (refine .inr (congrArg AV.bool ?_); rw [Bool.eq_iff_iff]; (try simp_all); (try omega); done) | (refine .inl (congrArg AV.lit ?_); rw [Bool.eq_iff_iff]; (try simp_all); (try omega); done)
theorem in_true {i n : Int} (h : 0 ≤ i ∧ i < n) : Ctr Tryd.prog 18 [.int .i64 i, .int .i64 n] (fun r => r = .bool true) := by
  have := in_spec i n
  rwa [decide_eq_true h.1, decide_eq_true h.2] at this
theorem in_map {α : Type} (f : α → AV) {l : List α} {a : Nat} (h : a < l.length) : Ctr Tryd.prog 18 [.int .i64 a, .int .i64 (l.map f).length] (fun r => r = .bool true) := in_true ⟨by omega, by simp; omega⟩
theorem name_true {s : Bs} (h : isNameB s = true) : Ctr Tryd.prog 17 [.str s] (fun r => r = .bool true) := by
  have := rName_spec s (by have := name_len h; omega)
  rwa [h] at this
theorem code_true {s : Bs} (h : isCodeB s = true) : Ctr Tryd.prog 19 [.str s] (fun r => r = .bool true) := by
  have := rCode_spec s (by have := code_len h; omega)
  rwa [h] at this
set_option maxRecDepth 20000 in
set_option maxHeartbeats 4000000 in
theorem references_law (s : Bs) (hs : s.length ≤ 9223372036854775807) : Ctr Tryd.prog 5 [.str s] (fun r => r = .bool true) := by
  refine Ctr.lits ?_
  refine Ctr.of_body Tryd.func5 rfl tys_ok (by kernel_rfl) ?_
  conv => whnf
  repeat (first | refine ACode.seq ?_ | (refine ACode.s_reg tys_ok ?_; conv => whnf) | refine ACode.s_block ?_ | refine ACode.s_scope ?_ | (refine ACode.s_cond ?_; conv => whnf) | (refine ACode.s_exit ?_; conv => whnf) | (refine ACode.s_ret ?_; conv => whnf) | (refine ACode.s_skip ?_; conv => whnf) | (refine ACode.s_label ?_; conv => whnf))
  refine ACall.of_spec (head_spec) rfl fun r hr => ?_
  subst hr
  conv => whnf
  repeat (first | refine ACode.seq ?_ | (refine ACode.s_reg tys_ok ?_; conv => whnf) | refine ACode.s_block ?_ | refine ACode.s_scope ?_ | (refine ACode.s_cond ?_; conv => whnf) | (refine ACode.s_exit ?_; conv => whnf) | (refine ACode.s_ret ?_; conv => whnf) | (refine ACode.s_skip ?_; conv => whnf) | (refine ACode.s_label ?_; conv => whnf))
  refine ACall.of_spec (Parse_spec0 s hs) rfl fun r hr => ?_
  subst hr
  conv => whnf
  repeat (first | refine ACode.seq ?_ | (refine ACode.s_reg tys_ok ?_; conv => whnf) | refine ACode.s_block ?_ | refine ACode.s_scope ?_ | (refine ACode.s_cond ?_; conv => whnf) | (refine ACode.s_exit ?_; conv => whnf) | (refine ACode.s_ret ?_; conv => whnf) | (refine ACode.s_skip ?_; conv => whnf) | (refine ACode.s_label ?_; conv => whnf))
  have hp := parse_post s
  cases hR : parseP s with
  | err e p =>
    rw [hR] at hp
    obtain ⟨h1, h2⟩ := hp
    conv => whnf
    rcases h2 with rfl | rfl | rfl | rfl | rfl
    all_goals
      repeat (first | refine ACode.seq ?_ | (refine ACode.s_reg tys_ok ?_; conv => whnf) | refine ACode.s_block ?_ | refine ACode.s_scope ?_ | (refine ACode.s_cond ?_; conv => whnf) | (refine ACode.s_exit ?_; conv => whnf) | (refine ACode.s_ret ?_; conv => whnf) | (refine ACode.s_skip ?_; conv => whnf) | (refine ACode.s_label ?_; conv => whnf))
      refine ⟨fun _ => ?_, fun _ => ?_⟩
      · conv => whnf
        repeat (first | refine ACode.seq ?_ | (refine ACode.s_reg tys_ok ?_; conv => whnf) | refine ACode.s_block ?_ | refine ACode.s_scope ?_ | (refine ACode.s_cond ?_; conv => whnf) | (refine ACode.s_exit ?_; conv => whnf) | (refine ACode.s_ret ?_; conv => whnf) | (refine ACode.s_skip ?_; conv => whnf) | (refine ACode.s_label ?_; conv => whnf))
        repeat (first | (refine ⟨fun _ => ?_, fun h => absurd h (by decide +kernel)⟩; conv => whnf) | (refine ⟨fun h => absurd h (by decide +kernel), fun _ => ?_⟩; conv => whnf) | (refine ⟨by decide, _, rfl, ?_⟩; conv => whnf) | refine ACode.seq ?_ | (refine ACode.s_reg tys_ok ?_; conv => whnf) | refine ACode.s_block ?_ | refine ACode.s_scope ?_ | (refine ACode.s_cond ?_; conv => whnf) | (refine ACode.s_exit ?_; conv => whnf) | (refine ACode.s_ret ?_; conv => whnf) | (refine ACode.s_skip ?_; conv => whnf) | (refine ACode.s_label ?_; conv => whnf))
        exact .inr rfl
      · conv => whnf
        repeat (first | refine ACode.seq ?_ | (refine ACode.s_reg tys_ok ?_; conv => whnf) | refine ACode.s_block ?_ | refine ACode.s_scope ?_ | (refine ACode.s_cond ?_; conv => whnf) | (refine ACode.s_exit ?_; conv => whnf) | (refine ACode.s_ret ?_; conv => whnf) | (refine ACode.s_skip ?_; conv => whnf) | (refine ACode.s_label ?_; conv => whnf))
        exact .inr rfl
  | ok n =>
    rw [hR] at hp
    obtain ⟨hn, h8⟩ := hp
    obtain ⟨⟨m1, m2, m3, m4, m5, m6, m7, m8⟩, _⟩ := parse_sml hR
    conv => whnf
    repeat (first | refine ACode.seq ?_ | (refine ACode.s_reg tys_ok ?_; conv => whnf) | refine ACode.s_block ?_ | refine ACode.s_scope ?_ | (refine ACode.s_cond ?_; conv => whnf) | (refine ACode.s_exit ?_; conv => whnf) | (refine ACode.s_ret ?_; conv => whnf) | (refine ACode.s_skip ?_; conv => whnf) | (refine ACode.s_label ?_; conv => whnf))
    refine ⟨fun _ => ?_, fun h => absurd h (by simp; omega)⟩
    conv => whnf
    repeat (first | refine ACode.seq ?_ | (refine ACode.s_reg tys_ok ?_; conv => whnf) | refine ACode.s_block ?_ | refine ACode.s_scope ?_ | (refine ACode.s_cond ?_; conv => whnf) | (refine ACode.s_exit ?_; conv => whnf) | (refine ACode.s_ret ?_; conv => whnf) | (refine ACode.s_skip ?_; conv => whnf) | (refine ACode.s_label ?_; conv => whnf))
    repeat (first | (refine ⟨fun _ => ?_, fun h => absurd h (by decide +kernel)⟩; conv => whnf) | (refine ⟨fun h => absurd h (by decide +kernel), fun _ => ?_⟩; conv => whnf) | (refine ⟨by decide, _, rfl, ?_⟩; conv => whnf) | refine ACode.seq ?_ | (refine ACode.s_reg tys_ok ?_; conv => whnf) | refine ACode.s_block ?_ | refine ACode.s_scope ?_ | (refine ACode.s_cond ?_; conv => whnf) | (refine ACode.s_exit ?_; conv => whnf) | (refine ACode.s_ret ?_; conv => whnf) | (refine ACode.s_skip ?_; conv => whnf) | (refine ACode.s_label ?_; conv => whnf))
    refine ⟨fun h => absurd h (by simp [hn.names.1]), fun _ => ?_⟩
    conv => whnf
    repeat (first | refine ACode.seq ?_ | (refine ACode.s_reg tys_ok ?_; conv => whnf) | refine ACode.s_block ?_ | refine ACode.s_scope ?_ | (refine ACode.s_cond ?_; conv => whnf) | (refine ACode.s_exit ?_; conv => whnf) | (refine ACode.s_ret ?_; conv => whnf) | (refine ACode.s_skip ?_; conv => whnf) | (refine ACode.s_label ?_; conv => whnf))
    refine ACode.loopD (fun k : Nat => mk 240 [(0, .str s), (3, .bool true), (4, .ptr 0 0), (7, .int .i64 k)]) (fun _ => [.cells [.sl 3 (n.cals.map calA), .sl 1 (strs n.names), .sl 1 (n.opers.map operA), .sl 7 (n.offs.map offA), .sl 6 (n.lins.map linA), .sl 3 (n.clss.map clsA)]]) (fun k => k ≤ n.cals.length) (fun k => n.cals.length - k) (fun k hk => ⟨rfl, rfl, trivial⟩) ⟨0, ?_⟩ (fun _ => rfl) fun k hk => ?_
    · conv => whnf
      repeat (refine And.intro ?_ ?_; (focus (first | rfl | (simp; done))); conv => whnf)
      simp
    · repeat (first | refine ACode.seq ?_ | (refine ACode.s_reg tys_ok ?_; conv => whnf) | refine ACode.s_block ?_ | refine ACode.s_scope ?_ | (refine ACode.s_cond ?_; conv => whnf) | (refine ACode.s_exit ?_; conv => whnf) | (refine ACode.s_ret ?_; conv => whnf) | (refine ACode.s_skip ?_; conv => whnf) | (refine ACode.s_label ?_; conv => whnf))
      refine ⟨fun h => ?_, fun h => ?_⟩
      · have h : k < n.cals.length := by simp [strs] at h; omega
        repeat (first | refine ACode.seq ?_ | (refine ACode.s_reg tys_ok ?_; conv => whnf) | refine ACode.s_block ?_ | refine ACode.s_scope ?_ | (refine ACode.s_cond ?_; conv => whnf) | (refine ACode.s_exit ?_; conv => whnf) | (refine ACode.s_ret ?_; conv => whnf) | (refine ACode.s_skip ?_; conv => whnf) | (refine ACode.s_label ?_; conv => whnf))
        have h' : k < n.names.length := by rw [hn.names.1]; exact h
        have hnm := hn.names.2 _ (List.getElem_mem h')
        refine ⟨by omega, .str n.names[k], strs_get _ _ h', ?_⟩
        conv => whnf
        repeat (first | refine ACode.seq ?_ | (refine ACode.s_reg tys_ok ?_; conv => whnf) | refine ACode.s_block ?_ | refine ACode.s_scope ?_ | (refine ACode.s_cond ?_; conv => whnf) | (refine ACode.s_exit ?_; conv => whnf) | (refine ACode.s_ret ?_; conv => whnf) | (refine ACode.s_skip ?_; conv => whnf) | (refine ACode.s_label ?_; conv => whnf))
        refine ACall.of_spec (name_true hnm) rfl fun r hr => ?_
        subst hr
        conv => whnf
        repeat (first | refine ACode.seq ?_ | (refine ACode.s_reg tys_ok ?_; conv => whnf) | refine ACode.s_block ?_ | refine ACode.s_scope ?_ | (refine ACode.s_cond ?_; conv => whnf) | (refine ACode.s_exit ?_; conv => whnf) | (refine ACode.s_ret ?_; conv => whnf) | (refine ACode.s_skip ?_; conv => whnf) | (refine ACode.s_label ?_; conv => whnf))
        refine ⟨fun _ => ?_, fun q => absurd q (by simp)⟩
        conv => whnf
        repeat (first | refine ACode.seq ?_ | (refine ACode.s_reg tys_ok ?_; conv => whnf) | refine ACode.s_block ?_ | refine ACode.s_scope ?_ | (refine ACode.s_cond ?_; conv => whnf) | (refine ACode.s_exit ?_; conv => whnf) | (refine ACode.s_ret ?_; conv => whnf) | (refine ACode.s_skip ?_; conv => whnf) | (refine ACode.s_label ?_; conv => whnf))
        refine ⟨by omega, calA n.cals[k], by simp [h], ?_⟩
        conv => whnf
        repeat (first | refine ACode.seq ?_ | (refine ACode.s_reg tys_ok ?_; conv => whnf) | refine ACode.s_block ?_ | refine ACode.s_scope ?_ | (refine ACode.s_cond ?_; conv => whnf) | (refine ACode.s_exit ?_; conv => whnf) | (refine ACode.s_ret ?_; conv => whnf) | (refine ACode.s_skip ?_; conv => whnf) | (refine ACode.s_label ?_; conv => whnf))
        have hw := (hn.cals _ (List.getElem_mem h)).week
        refine ⟨fun q => absurd q (by simp [hw]), fun _ => ?_⟩
        conv => whnf
        repeat (first | refine ACode.seq ?_ | (refine ACode.s_reg tys_ok ?_; conv => whnf) | refine ACode.s_block ?_ | refine ACode.s_scope ?_ | (refine ACode.s_cond ?_; conv => whnf) | (refine ACode.s_exit ?_; conv => whnf) | (refine ACode.s_ret ?_; conv => whnf) | (refine ACode.s_skip ?_; conv => whnf) | (refine ACode.s_label ?_; conv => whnf))
        refine ⟨k + 1, ?_⟩
        conv => whnf
        repeat (refine And.intro ?_ ?_; (focus (first | rfl | (simp; done) | (rw [Wr64 _ (by omega) (by omega)]; omega; done))); conv => whnf)
        exact ⟨by omega, by omega⟩
      · have h : k = n.cals.length := by simp [strs] at h; omega
        subst h
        repeat (first | refine ACode.seq ?_ | (refine ACode.s_reg tys_ok ?_; conv => whnf) | refine ACode.s_block ?_ | refine ACode.s_scope ?_ | (refine ACode.s_cond ?_; conv => whnf) | (refine ACode.s_exit ?_; conv => whnf) | (refine ACode.s_ret ?_; conv => whnf) | (refine ACode.s_skip ?_; conv => whnf) | (refine ACode.s_label ?_; conv => whnf))
        refine ACode.loopD (fun k : Nat => mk 240 [(0, .str s), (3, .bool true), (4, .ptr 0 0), (8, .int .i64 k)]) (fun _ => [.cells [.sl 3 (n.cals.map calA), .sl 1 (strs n.names), .sl 1 (n.opers.map operA), .sl 7 (n.offs.map offA), .sl 6 (n.lins.map linA), .sl 3 (n.clss.map clsA)]]) (fun k => k ≤ n.opers.length) (fun k => n.opers.length - k) (fun k hk => ⟨rfl, rfl, trivial⟩) ⟨0, ?_⟩ (fun _ => rfl) fun k hk => ?_
        · conv => whnf
          repeat (refine And.intro ?_ ?_; (focus (first | rfl | (simp; done))); conv => whnf)
          simp
        · repeat (first | refine ACode.seq ?_ | (refine ACode.s_reg tys_ok ?_; conv => whnf) | refine ACode.s_block ?_ | refine ACode.s_scope ?_ | (refine ACode.s_cond ?_; conv => whnf) | (refine ACode.s_exit ?_; conv => whnf) | (refine ACode.s_ret ?_; conv => whnf) | (refine ACode.s_skip ?_; conv => whnf) | (refine ACode.s_label ?_; conv => whnf))
          refine ⟨fun h => ?_, fun h => ?_⟩
          · have h : k < n.opers.length := by simp [strs] at h; omega
            repeat (first | refine ACode.seq ?_ | (refine ACode.s_reg tys_ok ?_; conv => whnf) | refine ACode.s_block ?_ | refine ACode.s_scope ?_ | (refine ACode.s_cond ?_; conv => whnf) | (refine ACode.s_exit ?_; conv => whnf) | (refine ACode.s_ret ?_; conv => whnf) | (refine ACode.s_skip ?_; conv => whnf) | (refine ACode.s_label ?_; conv => whnf))
            have hnm := hn.opers _ (List.getElem_mem h)
            refine ⟨by omega, operA n.opers[k], by simp [h], ?_⟩
            conv => whnf
            repeat (first | refine ACode.seq ?_ | (refine ACode.s_reg tys_ok ?_; conv => whnf) | refine ACode.s_block ?_ | refine ACode.s_scope ?_ | (refine ACode.s_cond ?_; conv => whnf) | (refine ACode.s_exit ?_; conv => whnf) | (refine ACode.s_ret ?_; conv => whnf) | (refine ACode.s_skip ?_; conv => whnf) | (refine ACode.s_label ?_; conv => whnf))
            repeat (first | (refine ACall.of_spec (name_true hnm) rfl fun r hr => ?_; subst hr; conv => whnf) | (refine no_br ?_ (fun _ => ?_); (focus (simp; done)); conv => whnf) | (refine yes_br ?_ (fun _ => ?_); (focus (simp; done)); conv => whnf) | refine ACode.seq ?_ | (refine ACode.s_reg tys_ok ?_; conv => whnf) | refine ACode.s_block ?_ | refine ACode.s_scope ?_ | (refine ACode.s_cond ?_; conv => whnf) | (refine ACode.s_exit ?_; conv => whnf) | (refine ACode.s_ret ?_; conv => whnf) | (refine ACode.s_skip ?_; conv => whnf) | (refine ACode.s_label ?_; conv => whnf))
            refine ⟨k + 1, ?_⟩
            conv => whnf
            repeat (refine And.intro ?_ ?_; (focus (first | rfl | (simp; done) | (rw [Wr64 _ (by omega) (by omega)]; omega; done))); conv => whnf)
            exact ⟨by omega, by omega⟩
          · have h : k = n.opers.length := by simp [strs] at h; omega
            subst h
            repeat (first | refine ACode.seq ?_ | (refine ACode.s_reg tys_ok ?_; conv => whnf) | refine ACode.s_block ?_ | refine ACode.s_scope ?_ | (refine ACode.s_cond ?_; conv => whnf) | (refine ACode.s_exit ?_; conv => whnf) | (refine ACode.s_ret ?_; conv => whnf) | (refine ACode.s_skip ?_; conv => whnf) | (refine ACode.s_label ?_; conv => whnf))
            refine ACode.loopD (fun k : Nat => mk 240 [(0, .str s), (3, .bool true), (4, .ptr 0 0), (9, .int .i64 k)]) (fun _ => [.cells [.sl 3 (n.cals.map calA), .sl 1 (strs n.names), .sl 1 (n.opers.map operA), .sl 7 (n.offs.map offA), .sl 6 (n.lins.map linA), .sl 3 (n.clss.map clsA)]]) (fun k => k ≤ n.offs.length) (fun k => n.offs.length - k) (fun k hk => ⟨rfl, rfl, trivial⟩) ⟨0, ?_⟩ (fun _ => rfl) fun k hk => ?_
            · conv => whnf
              repeat (refine And.intro ?_ ?_; (focus (first | rfl | (simp; done))); conv => whnf)
              simp
            · repeat (first | refine ACode.seq ?_ | (refine ACode.s_reg tys_ok ?_; conv => whnf) | refine ACode.s_block ?_ | refine ACode.s_scope ?_ | (refine ACode.s_cond ?_; conv => whnf) | (refine ACode.s_exit ?_; conv => whnf) | (refine ACode.s_ret ?_; conv => whnf) | (refine ACode.s_skip ?_; conv => whnf) | (refine ACode.s_label ?_; conv => whnf))
              refine ⟨fun h => ?_, fun h => ?_⟩
              · have h : k < n.offs.length := by simp [strs] at h; omega
                repeat (first | refine ACode.seq ?_ | (refine ACode.s_reg tys_ok ?_; conv => whnf) | refine ACode.s_block ?_ | refine ACode.s_scope ?_ | (refine ACode.s_cond ?_; conv => whnf) | (refine ACode.s_exit ?_; conv => whnf) | (refine ACode.s_ret ?_; conv => whnf) | (refine ACode.s_skip ?_; conv => whnf) | (refine ACode.s_label ?_; conv => whnf))
                have ho := hn.offs _ (List.getElem_mem h)
                obtain ⟨z1, z2, z3⟩ := ho.nums
                have hcl := m8 _ (List.getElem_mem h)
                have hc : n.offs[k].cal < n.cals.length := by have := ho.cal; have := hn.names.1; omega
                refine ⟨by omega, offA n.offs[k], by simp [h], ?_⟩
                conv => whnf
                repeat (first | refine ACode.seq ?_ | (refine ACode.s_reg tys_ok ?_; conv => whnf) | refine ACode.s_block ?_ | refine ACode.s_scope ?_ | (refine ACode.s_cond ?_; conv => whnf) | (refine ACode.s_exit ?_; conv => whnf) | (refine ACode.s_ret ?_; conv => whnf) | (refine ACode.s_skip ?_; conv => whnf) | (refine ACode.s_label ?_; conv => whnf))
                repeat (first | (refine ACall.of_spec (name_true ho.name) rfl fun r hr => ?_; subst hr; conv => whnf) | (refine ACall.of_spec (in_map operA ho.oper) rfl fun r hr => ?_; subst hr; conv => whnf) | (refine ACall.of_spec (in_map calA hc) rfl fun r hr => ?_; subst hr; conv => whnf) | (refine no_br ?_ (fun _ => ?_); (focus (simp; done)); conv => whnf) | (refine no_br ?_ (fun _ => ?_); (focus (simp; omega; done)); conv => whnf) | (refine yes_br ?_ (fun _ => ?_); (focus (simp; done)); conv => whnf) | (refine yes_br ?_ (fun _ => ?_); (focus (simp; omega; done)); conv => whnf) | refine ACode.seq ?_ | (refine ACode.s_reg tys_ok ?_; conv => whnf) | refine ACode.s_block ?_ | refine ACode.s_scope ?_ | (refine ACode.s_cond ?_; conv => whnf) | (refine ACode.s_exit ?_; conv => whnf) | (refine ACode.s_ret ?_; conv => whnf) | (refine ACode.s_skip ?_; conv => whnf) | (refine ACode.s_label ?_; conv => whnf))
                refine ACode.loopD (fun c : Nat => mk 240 [(0, .str s), (3, .bool true), (4, .ptr 0 0), (9, .int .i64 k), (10, .ptr 1 0), (11, .int .i64 c)]) (fun _ => [.cells [.sl 3 (n.cals.map calA), .sl 1 (strs n.names), .sl 1 (n.opers.map operA), .sl 7 (n.offs.map offA), .sl 6 (n.lins.map linA), .sl 3 (n.clss.map clsA)], .cells [.str n.offs[k].name, .int .i64 n.offs[k].oper, .int .i64 n.offs[k].cal, .int .i64 n.offs[k].pockets, .int .i64 n.offs[k].passes, .int .i64 n.offs[k].minutes, .sl 1 (strs n.offs[k].codes)]]) (fun c => c ≤ n.offs[k].codes.length) (fun c => n.offs[k].codes.length - c) (fun c hk => ⟨rfl, rfl, rfl, trivial⟩) ⟨0, ?_⟩ (fun _ => rfl) fun c hk => ?_
                · conv => whnf
                  repeat (refine And.intro ?_ ?_; (focus (first | rfl | (simp; done))); conv => whnf)
                  simp
                · repeat (first | refine ACode.seq ?_ | (refine ACode.s_reg tys_ok ?_; conv => whnf) | refine ACode.s_block ?_ | refine ACode.s_scope ?_ | (refine ACode.s_cond ?_; conv => whnf) | (refine ACode.s_exit ?_; conv => whnf) | (refine ACode.s_ret ?_; conv => whnf) | (refine ACode.s_skip ?_; conv => whnf) | (refine ACode.s_label ?_; conv => whnf))
                  refine ⟨fun h => ?_, fun h => ?_⟩
                  · have h : c < n.offs[k].codes.length := by simp [strs] at h; omega
                    repeat (first | refine ACode.seq ?_ | (refine ACode.s_reg tys_ok ?_; conv => whnf) | refine ACode.s_block ?_ | refine ACode.s_scope ?_ | (refine ACode.s_cond ?_; conv => whnf) | (refine ACode.s_exit ?_; conv => whnf) | (refine ACode.s_ret ?_; conv => whnf) | (refine ACode.s_skip ?_; conv => whnf) | (refine ACode.s_label ?_; conv => whnf))
                    have hcd := ho.codes _ (List.getElem_mem h)
                    refine ⟨by omega, .str n.offs[k].codes[c], strs_get _ _ h, ?_⟩
                    conv => whnf
                    repeat (first | refine ACode.seq ?_ | (refine ACode.s_reg tys_ok ?_; conv => whnf) | refine ACode.s_block ?_ | refine ACode.s_scope ?_ | (refine ACode.s_cond ?_; conv => whnf) | (refine ACode.s_exit ?_; conv => whnf) | (refine ACode.s_ret ?_; conv => whnf) | (refine ACode.s_skip ?_; conv => whnf) | (refine ACode.s_label ?_; conv => whnf))
                    repeat (first | (refine ACall.of_spec (code_true hcd) rfl fun r hr => ?_; subst hr; conv => whnf) | (refine no_br ?_ (fun _ => ?_); (focus (simp; done)); conv => whnf) | (refine yes_br ?_ (fun _ => ?_); (focus (simp; done)); conv => whnf) | refine ACode.seq ?_ | (refine ACode.s_reg tys_ok ?_; conv => whnf) | refine ACode.s_block ?_ | refine ACode.s_scope ?_ | (refine ACode.s_cond ?_; conv => whnf) | (refine ACode.s_exit ?_; conv => whnf) | (refine ACode.s_ret ?_; conv => whnf) | (refine ACode.s_skip ?_; conv => whnf) | (refine ACode.s_label ?_; conv => whnf))
                    refine ⟨c + 1, ?_⟩
                    conv => whnf
                    repeat (refine And.intro ?_ ?_; (focus (first | rfl | (simp; done) | (rw [Wr64 _ (by omega) (by omega)]; omega; done))); conv => whnf)
                    exact ⟨by omega, by omega⟩
                  · have h : c = n.offs[k].codes.length := by simp [strs] at h; omega
                    subst h
                    repeat (first | refine ACode.seq ?_ | (refine ACode.s_reg tys_ok ?_; conv => whnf) | refine ACode.s_block ?_ | refine ACode.s_scope ?_ | (refine ACode.s_cond ?_; conv => whnf) | (refine ACode.s_exit ?_; conv => whnf) | (refine ACode.s_ret ?_; conv => whnf) | (refine ACode.s_skip ?_; conv => whnf) | (refine ACode.s_label ?_; conv => whnf))
                    refine ⟨k + 1, ?_⟩
                    conv => whnf
                    repeat (refine And.intro ?_ ?_; (focus (first | rfl | (simp; done) | (rw [Wr64 _ (by omega) (by omega)]; omega; done))); conv => whnf)
                    exact ⟨by omega, by omega⟩
              · have h : k = n.offs.length := by simp [strs] at h; omega
                subst h
                repeat (first | refine ACode.seq ?_ | (refine ACode.s_reg tys_ok ?_; conv => whnf) | refine ACode.s_block ?_ | refine ACode.s_scope ?_ | (refine ACode.s_cond ?_; conv => whnf) | (refine ACode.s_exit ?_; conv => whnf) | (refine ACode.s_ret ?_; conv => whnf) | (refine ACode.s_skip ?_; conv => whnf) | (refine ACode.s_label ?_; conv => whnf))
                refine ACode.loopD (fun k : Nat => mk 240 [(0, .str s), (3, .bool true), (4, .ptr 0 0), (12, .int .i64 k)]) (fun _ => [.cells [.sl 3 (n.cals.map calA), .sl 1 (strs n.names), .sl 1 (n.opers.map operA), .sl 7 (n.offs.map offA), .sl 6 (n.lins.map linA), .sl 3 (n.clss.map clsA)]]) (fun k => k ≤ n.lins.length) (fun k => n.lins.length - k) (fun k hk => ⟨rfl, rfl, trivial⟩) ⟨0, ?_⟩ (fun _ => rfl) fun k hk => ?_
                · conv => whnf
                  repeat (refine And.intro ?_ ?_; (focus (first | rfl | (simp; done))); conv => whnf)
                  simp
                · repeat (first | refine ACode.seq ?_ | (refine ACode.s_reg tys_ok ?_; conv => whnf) | refine ACode.s_block ?_ | refine ACode.s_scope ?_ | (refine ACode.s_cond ?_; conv => whnf) | (refine ACode.s_exit ?_; conv => whnf) | (refine ACode.s_ret ?_; conv => whnf) | (refine ACode.s_skip ?_; conv => whnf) | (refine ACode.s_label ?_; conv => whnf))
                  refine ⟨fun h => ?_, fun h => ?_⟩
                  · have h : k < n.lins.length := by simp [strs] at h; omega
                    repeat (first | refine ACode.seq ?_ | (refine ACode.s_reg tys_ok ?_; conv => whnf) | refine ACode.s_block ?_ | refine ACode.s_scope ?_ | (refine ACode.s_cond ?_; conv => whnf) | (refine ACode.s_exit ?_; conv => whnf) | (refine ACode.s_ret ?_; conv => whnf) | (refine ACode.s_skip ?_; conv => whnf) | (refine ACode.s_label ?_; conv => whnf))
                    have ho := hn.lins _ (List.getElem_mem h)
                    obtain ⟨z1, z2, z3⟩ := ho.nums
                    refine ACode.draw [] tys_ok (by kernel_rfl) (by kernel_rfl) ?_
                    conv => whnf
                    refine ⟨by omega, linA n.lins[k], by simp [h], ?_⟩
                    conv => whnf
                    repeat (first | (refine ⟨_, ⟨name_true ho.name, rfl⟩, ?_⟩; conv => whnf) | (refine ⟨_, ⟨in_map offA ho.from_, rfl⟩, ?_⟩; conv => whnf) | (refine ⟨_, ⟨in_map offA ho.to_, rfl⟩, ?_⟩; conv => whnf) | (refine ⟨by omega, linA n.lins[k], (by simp [h]), ?_⟩; conv => whnf) | (refine no_br ?_ (fun _ => ?_); (focus (simp; done)); conv => whnf) | (refine no_br ?_ (fun _ => ?_); (focus (simp; omega; done)); conv => whnf) | (refine yes_br ?_ (fun _ => ?_); (focus (simp; done)); conv => whnf) | (refine yes_br ?_ (fun _ => ?_); (focus (simp; omega; done)); conv => whnf) | refine ACode.seq ?_ | (refine ACode.s_reg tys_ok ?_; conv => whnf) | refine ACode.s_block ?_ | refine ACode.s_scope ?_ | (refine ACode.s_cond ?_; conv => whnf) | (refine ACode.s_exit ?_; conv => whnf) | (refine ACode.s_ret ?_; conv => whnf) | (refine ACode.s_skip ?_; conv => whnf) | (refine ACode.s_label ?_; conv => whnf))
                    refine ⟨k + 1, ?_⟩
                    conv => whnf
                    repeat (refine And.intro ?_ ?_; (focus (first | rfl | (simp; done) | (rw [Wr64 _ (by omega) (by omega)]; omega; done))); conv => whnf)
                    exact ⟨by omega, by omega⟩
                  · have h : k = n.lins.length := by simp [strs] at h; omega
                    subst h
                    repeat (first | refine ACode.seq ?_ | (refine ACode.s_reg tys_ok ?_; conv => whnf) | refine ACode.s_block ?_ | refine ACode.s_scope ?_ | (refine ACode.s_cond ?_; conv => whnf) | (refine ACode.s_exit ?_; conv => whnf) | (refine ACode.s_ret ?_; conv => whnf) | (refine ACode.s_skip ?_; conv => whnf) | (refine ACode.s_label ?_; conv => whnf))
                    refine ACode.loopD (fun k : Nat => mk 240 [(0, .str s), (3, .bool true), (4, .ptr 0 0), (13, .int .i64 k)]) (fun _ => [.cells [.sl 3 (n.cals.map calA), .sl 1 (strs n.names), .sl 1 (n.opers.map operA), .sl 7 (n.offs.map offA), .sl 6 (n.lins.map linA), .sl 3 (n.clss.map clsA)]]) (fun k => k ≤ n.clss.length) (fun k => n.clss.length - k) (fun k hk => ⟨rfl, rfl, trivial⟩) ⟨0, ?_⟩ (fun _ => rfl) fun k hk => ?_
                    · conv => whnf
                      repeat (refine And.intro ?_ ?_; (focus (first | rfl | (simp; done))); conv => whnf)
                      simp
                    · repeat (first | refine ACode.seq ?_ | (refine ACode.s_reg tys_ok ?_; conv => whnf) | refine ACode.s_block ?_ | refine ACode.s_scope ?_ | (refine ACode.s_cond ?_; conv => whnf) | (refine ACode.s_exit ?_; conv => whnf) | (refine ACode.s_ret ?_; conv => whnf) | (refine ACode.s_skip ?_; conv => whnf) | (refine ACode.s_label ?_; conv => whnf))
                      refine ⟨fun h => ?_, fun h => ?_⟩
                      · have h : k < n.clss.length := by simp [strs] at h; omega
                        repeat (first | refine ACode.seq ?_ | (refine ACode.s_reg tys_ok ?_; conv => whnf) | refine ACode.s_block ?_ | refine ACode.s_scope ?_ | (refine ACode.s_cond ?_; conv => whnf) | (refine ACode.s_exit ?_; conv => whnf) | (refine ACode.s_ret ?_; conv => whnf) | (refine ACode.s_skip ?_; conv => whnf) | (refine ACode.s_label ?_; conv => whnf))
                        have ho := hn.clss _ (List.getElem_mem h)
                        obtain ⟨z1, z2⟩ := ho.nums
                        refine ⟨by omega, clsA n.clss[k], by simp [h], ?_⟩
                        conv => whnf
                        repeat (first | refine ACode.seq ?_ | (refine ACode.s_reg tys_ok ?_; conv => whnf) | refine ACode.s_block ?_ | refine ACode.s_scope ?_ | (refine ACode.s_cond ?_; conv => whnf) | (refine ACode.s_exit ?_; conv => whnf) | (refine ACode.s_ret ?_; conv => whnf) | (refine ACode.s_skip ?_; conv => whnf) | (refine ACode.s_label ?_; conv => whnf))
                        repeat (first | (refine ACall.of_spec (name_true ho.name) rfl fun r hr => ?_; subst hr; conv => whnf) | (refine ⟨by omega, clsA n.clss[k], (by simp [h]), ?_⟩; conv => whnf) | (refine no_br ?_ (fun _ => ?_); (focus (simp; done)); conv => whnf) | (refine no_br ?_ (fun _ => ?_); (focus (simp; omega; done)); conv => whnf) | (refine yes_br ?_ (fun _ => ?_); (focus (simp; done)); conv => whnf) | (refine yes_br ?_ (fun _ => ?_); (focus (simp; omega; done)); conv => whnf) | refine ACode.seq ?_ | (refine ACode.s_reg tys_ok ?_; conv => whnf) | refine ACode.s_block ?_ | refine ACode.s_scope ?_ | (refine ACode.s_cond ?_; conv => whnf) | (refine ACode.s_exit ?_; conv => whnf) | (refine ACode.s_ret ?_; conv => whnf) | (refine ACode.s_skip ?_; conv => whnf) | (refine ACode.s_label ?_; conv => whnf))
                        refine ⟨k + 1, ?_⟩
                        conv => whnf
                        repeat (refine And.intro ?_ ?_; (focus (first | rfl | (simp; done) | (rw [Wr64 _ (by omega) (by omega)]; omega; done))); conv => whnf)
                        exact ⟨by omega, by omega⟩
                      · have h : k = n.clss.length := by simp [strs] at h; omega
                        subst h
                        repeat (first | refine ACode.seq ?_ | (refine ACode.s_reg tys_ok ?_; conv => whnf) | refine ACode.s_block ?_ | refine ACode.s_scope ?_ | (refine ACode.s_cond ?_; conv => whnf) | (refine ACode.s_exit ?_; conv => whnf) | (refine ACode.s_ret ?_; conv => whnf) | (refine ACode.s_skip ?_; conv => whnf) | (refine ACode.s_label ?_; conv => whnf))
                        exact .inr rfl
end Go.Proofs.YtmhlneeboefkgaaDoor
