import Derived.Test.YtmhlneeboefkgaaDoorRc
import Derived.Test.YtmhlneeboefkgaaDoorP11
import Derived.Test.YtmhlneeboefkgaaDoorAv47
set_option linter.unusedVariables false
set_option linter.unusedSimpArgs false
namespace Go.Proofs.YtmhlneeboefkgaaDoor
open Go.Av Go.Av.Net Pl
set_option maxRecDepth 20000 in
theorem things_spec (n : Nw) (h : Sml n) : Ctr Tryd.prog 23 [netA n] (fun r => r = .int .i64 (szN n)) := by
  obtain ⟨m1, m2, m3, m4, m5, m6, m7, m8⟩ := h
  refine Ctr.of_body Tryd.func23 rfl tys_ok (by kernel_rfl) ?_
  conv => whnf
  repeat (first | refine ACode.seq ?_ | (refine ACode.s_reg tys_ok ?_; conv => whnf) | refine ACode.s_block ?_ | refine ACode.s_scope ?_ | (refine ACode.s_cond ?_; conv => whnf) | (refine ACode.s_exit ?_; conv => whnf) | (refine ACode.s_ret ?_; conv => whnf) | (refine ACode.s_skip ?_; conv => whnf) | (refine ACode.s_label ?_; conv => whnf))
  simp only [List.length_map]
  refine congrArg (AV.int IntKind.i64) ?_
  rw [Wr64 ((n.cals.length : Int) + n.opers.length) (by omega) (by omega), Wr64 ((n.cals.length : Int) + n.opers.length + n.offs.length) (by omega) (by omega), Wr64 ((n.cals.length : Int) + n.opers.length + n.offs.length + n.lins.length) (by omega) (by omega), Wr64 _ (by omega) (by omega)]
  unfold szN
  omega
set_option maxRecDepth 20000 in
theorem first_spec (n : Nw) (h : Sml n) (hn : n.names.length = n.cals.length) (k : Nat) (hk : k ≤ 100000) : Ctr Tryd.prog 24 [netA n, .int .i64 k] (fun r => r = netA (firstN n k)) := by
  obtain ⟨m1, m2, m3, m4, m5, m6, m7, m8⟩ := h
  have ws : ∀ a b : Nat, b ≤ a → a ≤ 100000 → Wr IntKind.i64 ((a : Int) - (b : Int)) = ((a - b : Nat) : Int) := fun a b h1 h2 => by rw [Wr64 _ (by omega) (by omega)]; omega
  refine Ctr.of_body Tryd.func24 rfl tys_ok (by kernel_rfl) ?_
  conv => whnf
  repeat (first | refine ACode.seq ?_ | (refine ACode.s_reg tys_ok ?_; conv => whnf) | refine ACode.s_block ?_ | refine ACode.s_scope ?_ | (refine ACode.s_cond ?_; conv => whnf) | (refine ACode.s_exit ?_; conv => whnf) | (refine ACode.s_ret ?_; conv => whnf) | (refine ACode.s_skip ?_; conv => whnf) | (refine ACode.s_label ?_; conv => whnf))
  rw [List.length_map, min_nat]
  have hf : firstN n k = ⟨n.cals.take (min k n.cals.length), n.names.take (min k n.cals.length), n.opers.take (min (k - min k n.cals.length) n.opers.length), n.offs.take (min (k - min k n.cals.length - min (k - min k n.cals.length) n.opers.length) n.offs.length), n.lins.take (min (k - min k n.cals.length - min (k - min k n.cals.length) n.opers.length - min (k - min k n.cals.length - min (k - min k n.cals.length) n.opers.length) n.offs.length) n.lins.length), n.clss.take (min (k - min k n.cals.length - min (k - min k n.cals.length) n.opers.length - min (k - min k n.cals.length - min (k - min k n.cals.length) n.opers.length) n.offs.length - min (k - min k n.cals.length - min (k - min k n.cals.length) n.opers.length - min (k - min k n.cals.length - min (k - min k n.cals.length) n.opers.length) n.offs.length) n.lins.length) n.clss.length)⟩ := rfl
  rw [hf]
  clear hf
  have q1 : min k n.cals.length ≤ k ∧ min k n.cals.length ≤ n.cals.length := by omega
  generalize min k n.cals.length = c1 at *
  refine ⟨⟨by omega, by omega, by simp; omega⟩, ?_⟩
  conv => whnf
  rw [drop0]
  repeat (first | refine ACode.seq ?_ | (refine ACode.s_reg tys_ok ?_; conv => whnf) | refine ACode.s_block ?_ | refine ACode.s_scope ?_ | (refine ACode.s_cond ?_; conv => whnf) | (refine ACode.s_exit ?_; conv => whnf) | (refine ACode.s_ret ?_; conv => whnf) | (refine ACode.s_skip ?_; conv => whnf) | (refine ACode.s_label ?_; conv => whnf))
  refine ⟨⟨by omega, by omega, by simp; omega⟩, ?_⟩
  conv => whnf
  rw [drop0]
  repeat (first | refine ACode.seq ?_ | (refine ACode.s_reg tys_ok ?_; conv => whnf) | refine ACode.s_block ?_ | refine ACode.s_scope ?_ | (refine ACode.s_cond ?_; conv => whnf) | (refine ACode.s_exit ?_; conv => whnf) | (refine ACode.s_ret ?_; conv => whnf) | (refine ACode.s_skip ?_; conv => whnf) | (refine ACode.s_label ?_; conv => whnf))
  rw [ws (k) c1 q1.1 (by omega), List.length_map, min_nat]
  have q2 : min (k - c1) n.opers.length ≤ k - c1 ∧ min (k - c1) n.opers.length ≤ n.opers.length := by omega
  generalize min (k - c1) n.opers.length = c2 at *
  refine ⟨⟨by omega, by omega, by simp; omega⟩, ?_⟩
  conv => whnf
  rw [drop0]
  repeat (first | refine ACode.seq ?_ | (refine ACode.s_reg tys_ok ?_; conv => whnf) | refine ACode.s_block ?_ | refine ACode.s_scope ?_ | (refine ACode.s_cond ?_; conv => whnf) | (refine ACode.s_exit ?_; conv => whnf) | (refine ACode.s_ret ?_; conv => whnf) | (refine ACode.s_skip ?_; conv => whnf) | (refine ACode.s_label ?_; conv => whnf))
  rw [ws (k - c1) c2 q2.1 (by omega), List.length_map, min_nat]
  have q3 : min (k - c1 - c2) n.offs.length ≤ k - c1 - c2 ∧ min (k - c1 - c2) n.offs.length ≤ n.offs.length := by omega
  generalize min (k - c1 - c2) n.offs.length = c3 at *
  refine ⟨⟨by omega, by omega, by simp; omega⟩, ?_⟩
  conv => whnf
  rw [drop0]
  repeat (first | refine ACode.seq ?_ | (refine ACode.s_reg tys_ok ?_; conv => whnf) | refine ACode.s_block ?_ | refine ACode.s_scope ?_ | (refine ACode.s_cond ?_; conv => whnf) | (refine ACode.s_exit ?_; conv => whnf) | (refine ACode.s_ret ?_; conv => whnf) | (refine ACode.s_skip ?_; conv => whnf) | (refine ACode.s_label ?_; conv => whnf))
  rw [ws (k - c1 - c2) c3 q3.1 (by omega), List.length_map, min_nat]
  have q4 : min (k - c1 - c2 - c3) n.lins.length ≤ k - c1 - c2 - c3 ∧ min (k - c1 - c2 - c3) n.lins.length ≤ n.lins.length := by omega
  generalize min (k - c1 - c2 - c3) n.lins.length = c4 at *
  refine ⟨⟨by omega, by omega, by simp; omega⟩, ?_⟩
  conv => whnf
  rw [drop0]
  repeat (first | refine ACode.seq ?_ | (refine ACode.s_reg tys_ok ?_; conv => whnf) | refine ACode.s_block ?_ | refine ACode.s_scope ?_ | (refine ACode.s_cond ?_; conv => whnf) | (refine ACode.s_exit ?_; conv => whnf) | (refine ACode.s_ret ?_; conv => whnf) | (refine ACode.s_skip ?_; conv => whnf) | (refine ACode.s_label ?_; conv => whnf))
  rw [ws (k - c1 - c2 - c3) c4 q4.1 (by omega), List.length_map, min_nat]
  have q5 : min (k - c1 - c2 - c3 - c4) n.clss.length ≤ k - c1 - c2 - c3 - c4 ∧ min (k - c1 - c2 - c3 - c4) n.clss.length ≤ n.clss.length := by omega
  generalize min (k - c1 - c2 - c3 - c4) n.clss.length = c5 at *
  refine ⟨⟨by omega, by omega, by simp; omega⟩, ?_⟩
  conv => whnf
  rw [drop0]
  repeat (first | refine ACode.seq ?_ | (refine ACode.s_reg tys_ok ?_; conv => whnf) | refine ACode.s_block ?_ | refine ACode.s_scope ?_ | (refine ACode.s_cond ?_; conv => whnf) | (refine ACode.s_exit ?_; conv => whnf) | (refine ACode.s_ret ?_; conv => whnf) | (refine ACode.s_skip ?_; conv => whnf) | (refine ACode.s_label ?_; conv => whnf))
  simp only [netA, List.map_take, strs]
theorem sml_first {n : Nw} (h : Sml n) (k : Nat) : Sml (firstN n k) := by
  obtain ⟨m1, m2, m3, m4, m5, m6, m7, m8⟩ := h
  refine ⟨?_, ?_, ?_, ?_, ?_, ?_, fun c hc => m7 c (List.mem_of_mem_take hc), fun o ho => m8 o (List.mem_of_mem_take ho)⟩
  all_goals (simp only [firstN, List.length_take]; omega)
set_option maxRecDepth 20000 in
set_option maxHeartbeats 4000000 in
theorem beginnings_law (s : Bs) (hs : s.length ≤ 9223372036854775807) : Ctr Tryd.prog 9 [.str s] (fun r => r = .bool true) := by
  refine Ctr.lits ?_
  refine Ctr.of_body Tryd.func9 rfl tys_ok (by kernel_rfl) ?_
  conv => whnf
  repeat (first | refine ACode.seq ?_ | (refine ACode.s_reg tys_ok ?_; conv => whnf) | refine ACode.s_block ?_ | refine ACode.s_scope ?_ | (refine ACode.s_cond ?_; conv => whnf) | (refine ACode.s_exit ?_; conv => whnf) | (refine ACode.s_ret ?_; conv => whnf) | (refine ACode.s_skip ?_; conv => whnf) | (refine ACode.s_label ?_; conv => whnf))
  refine ACall.of_spec (head_spec) rfl fun r hr => ?_
  subst hr
  conv => whnf
  repeat (first | refine ACode.seq ?_ | (refine ACode.s_reg tys_ok ?_; conv => whnf) | refine ACode.s_block ?_ | refine ACode.s_scope ?_ | (refine ACode.s_cond ?_; conv => whnf) | (refine ACode.s_exit ?_; conv => whnf) | (refine ACode.s_ret ?_; conv => whnf) | (refine ACode.s_skip ?_; conv => whnf) | (refine ACode.s_label ?_; conv => whnf))
  have hp := parse_post s
  cases hR : parseP s with
  | err e p =>
    rw [hR] at hp
    obtain ⟨h1, h2⟩ := hp
    have hne : ¬ e = 0 := by rcases h2 with rfl | rfl | rfl | rfl | rfl <;> decide
    refine ACall.of_spec (parse_x hs hR) rfl fun r hr => ?_
    subst hr
    conv => whnf
    repeat (first | refine ACode.seq ?_ | (refine ACode.s_reg tys_ok ?_; conv => whnf) | refine ACode.s_block ?_ | refine ACode.s_scope ?_ | (refine ACode.s_cond ?_; conv => whnf) | (refine ACode.s_exit ?_; conv => whnf) | (refine ACode.s_ret ?_; conv => whnf) | (refine ACode.s_skip ?_; conv => whnf) | (refine ACode.s_label ?_; conv => whnf))
    cases hL : lexP s with
    | err e2 p2 =>
      refine ACall.of_spec (rlex_at hs hL) rfl fun r hr => ?_
      subst hr
      conv => whnf
      repeat (first | refine ACode.seq ?_ | (refine ACode.s_reg tys_ok ?_; conv => whnf) | refine ACode.s_block ?_ | refine ACode.s_scope ?_ | (refine ACode.s_cond ?_; conv => whnf) | (refine ACode.s_exit ?_; conv => whnf) | (refine ACode.s_ret ?_; conv => whnf) | (refine ACode.s_skip ?_; conv => whnf) | (refine ACode.s_label ?_; conv => whnf))
      by_cases h8 : s.length ≤ 8000
      all_goals
        repeat (first | (refine no_br ?_ (fun _ => ?_); (focus (simp; omega; done)); conv => whnf) | (refine yes_br ?_ (fun _ => ?_); (focus (simp; omega; done)); conv => whnf) | (refine yes_br ?_ (fun _ => ?_); (focus (simp [hne]; done)); conv => whnf) | (refine no_br ?_ (fun _ => ?_); (focus (simp [hne]; done)); conv => whnf) | (refine no_br ?_ (fun _ => ?_); (focus (simp; done)); conv => whnf) | (refine yes_br ?_ (fun _ => ?_); (focus (simp; done)); conv => whnf) | refine ACode.seq ?_ | (refine ACode.s_reg tys_ok ?_; conv => whnf) | refine ACode.s_block ?_ | refine ACode.s_scope ?_ | (refine ACode.s_cond ?_; conv => whnf) | (refine ACode.s_exit ?_; conv => whnf) | (refine ACode.s_ret ?_; conv => whnf) | (refine ACode.s_skip ?_; conv => whnf) | (refine ACode.s_label ?_; conv => whnf))
        simp [hne]
    | ok l =>
      refine ACall.of_spec (rlex_at hs hL) rfl fun r hr => ?_
      subst hr
      conv => whnf
      repeat (first | refine ACode.seq ?_ | (refine ACode.s_reg tys_ok ?_; conv => whnf) | refine ACode.s_block ?_ | refine ACode.s_scope ?_ | (refine ACode.s_cond ?_; conv => whnf) | (refine ACode.s_exit ?_; conv => whnf) | (refine ACode.s_ret ?_; conv => whnf) | (refine ACode.s_skip ?_; conv => whnf) | (refine ACode.s_label ?_; conv => whnf))
      by_cases h8 : s.length ≤ 8000
      all_goals
        repeat (first | (refine no_br ?_ (fun _ => ?_); (focus (simp; omega; done)); conv => whnf) | (refine yes_br ?_ (fun _ => ?_); (focus (simp; omega; done)); conv => whnf) | (refine yes_br ?_ (fun _ => ?_); (focus (simp [hne]; done)); conv => whnf) | (refine no_br ?_ (fun _ => ?_); (focus (simp [hne]; done)); conv => whnf) | (refine no_br ?_ (fun _ => ?_); (focus (simp; done)); conv => whnf) | (refine yes_br ?_ (fun _ => ?_); (focus (simp; done)); conv => whnf) | refine ACode.seq ?_ | (refine ACode.s_reg tys_ok ?_; conv => whnf) | refine ACode.s_block ?_ | refine ACode.s_scope ?_ | (refine ACode.s_cond ?_; conv => whnf) | (refine ACode.s_exit ?_; conv => whnf) | (refine ACode.s_ret ?_; conv => whnf) | (refine ACode.s_skip ?_; conv => whnf) | (refine ACode.s_label ?_; conv => whnf))
        simp [hne]
  | ok n =>
    rw [hR] at hp
    obtain ⟨hn, h8⟩ := hp
    refine ACall.of_spec (parse_x hs hR) rfl fun r hr => ?_
    subst hr
    conv => whnf
    repeat (first | refine ACode.seq ?_ | (refine ACode.s_reg tys_ok ?_; conv => whnf) | refine ACode.s_block ?_ | refine ACode.s_scope ?_ | (refine ACode.s_cond ?_; conv => whnf) | (refine ACode.s_exit ?_; conv => whnf) | (refine ACode.s_ret ?_; conv => whnf) | (refine ACode.s_skip ?_; conv => whnf) | (refine ACode.s_label ?_; conv => whnf))
    cases hL : lexP s with
    | err e2 p2 =>
      exfalso
      unfold parseP at hR; rw [hL] at hR; cases hR
    | ok l =>
      refine ACall.of_spec (rlex_at hs hL) rfl fun r hr => ?_
      subst hr
      conv => whnf
      repeat (first | refine ACode.seq ?_ | (refine ACode.s_reg tys_ok ?_; conv => whnf) | refine ACode.s_block ?_ | refine ACode.s_scope ?_ | (refine ACode.s_cond ?_; conv => whnf) | (refine ACode.s_exit ?_; conv => whnf) | (refine ACode.s_ret ?_; conv => whnf) | (refine ACode.s_skip ?_; conv => whnf) | (refine ACode.s_label ?_; conv => whnf))
      obtain ⟨hsml, hsz⟩ := parse_sml hR
      have hnm := hn.names.1
      by_cases h120 : l.length ≤ 120
      · repeat (first | (refine no_br ?_ (fun _ => ?_); (focus (simp; omega; done)); conv => whnf) | (refine no_br ?_ (fun _ => ?_); (focus (simp; done)); conv => whnf) | (refine yes_br ?_ (fun _ => ?_); (focus (simp; omega; done)); conv => whnf) | (refine no_br ?_ (fun _ => ?_); (focus (simp [hnm]; done)); conv => whnf) | (refine yes_br ?_ (fun _ => ?_); (focus (simp [hnm]; done)); conv => whnf) | refine ACode.seq ?_ | (refine ACode.s_reg tys_ok ?_; conv => whnf) | refine ACode.s_block ?_ | refine ACode.s_scope ?_ | (refine ACode.s_cond ?_; conv => whnf) | (refine ACode.s_exit ?_; conv => whnf) | (refine ACode.s_ret ?_; conv => whnf) | (refine ACode.s_skip ?_; conv => whnf) | (refine ACode.s_label ?_; conv => whnf))
        obtain ⟨E, e1, e2, e3, e4, e5⟩ := parse_begin hL hR hnm
        refine ACode.loopD (fun x : Nat × Nat => mk 133 [(0, .str s), (3, .bool true), (4, .ptr 0 0), (7, .sl 3 (toksA l)), (10, .int .i64 x.2), (11, .int .i64 x.1)]) (fun _ => [.cells [.sl 3 (n.cals.map calA), .sl 1 (strs n.names), .sl 1 (n.opers.map operA), .sl 7 (n.offs.map offA), .sl 6 (n.lins.map linA), .sl 3 (n.clss.map clsA)]])
          (fun x => x.1 ≤ l.length ∧ x.2 ≤ E.length ∧ (∀ (j : Nat) (hj : j < E.length), j < x.2 → E[j].1 ≤ x.1) ∧ (∀ (j : Nat) (hj : j < E.length), x.2 ≤ j → x.1 < E[j].1)) (fun x => l.length - x.1) (fun x hx => ⟨rfl, rfl, trivial⟩) ⟨(0, 0), ?_⟩ (fun _ => rfl) fun x hx => ?_
        · conv => whnf
          repeat (refine And.intro ?_ ?_; (focus (first | rfl | (simp; done))); conv => whnf)
          exact fun j hj _ => (e3 _ (List.getElem_mem hj)).1
        · obtain ⟨i, k⟩ := x
          obtain ⟨h1, h2, h3, h4⟩ := hx
          simp only at h1 h2 h3 h4
          repeat (first | refine ACode.seq ?_ | (refine ACode.s_reg tys_ok ?_; conv => whnf) | refine ACode.s_block ?_ | refine ACode.s_scope ?_ | (refine ACode.s_cond ?_; conv => whnf) | (refine ACode.s_exit ?_; conv => whnf) | (refine ACode.s_ret ?_; conv => whnf) | (refine ACode.s_skip ?_; conv => whnf) | (refine ACode.s_label ?_; conv => whnf))
          refine ⟨fun hlt => ?_, fun hge => ?_⟩
          · have hlt : i < l.length := by simp at hlt; omega
            have htk := (lexP_ok hL).1.tok l[i] (List.getElem_mem hlt)
            obtain ⟨f1, f2⟩ := e5 i hlt
            have ew : Wr IntKind.i64 ((l[i].pos : Int) + ((srcT l[i].kind l[i].text).length : Nat)) = ((l[i].pos + (srcT l[i].kind l[i].text).length : Nat) : Int) := by rw [Wr64 _ (by omega) (by omega)]; omega
            repeat (first | refine ACode.seq ?_ | (refine ACode.s_reg tys_ok ?_; conv => whnf) | refine ACode.s_block ?_ | refine ACode.s_scope ?_ | (refine ACode.s_cond ?_; conv => whnf) | (refine ACode.s_exit ?_; conv => whnf) | (refine ACode.s_ret ?_; conv => whnf) | (refine ACode.s_skip ?_; conv => whnf) | (refine ACode.s_label ?_; conv => whnf))
            refine ACode.draw2 [20] tys_ok (by kernel_rfl) (by kernel_rfl) ?_
            conv => whnf
            repeat (first | (refine ⟨by omega, tokA l[i], (by exact toks_get l i hlt), ?_⟩; conv => whnf) | (refine ⟨_, ⟨source_t l[i] htk.1, rfl⟩, ?_⟩; conv => whnf) | refine ACode.seq ?_ | (refine ACode.s_reg tys_ok ?_; conv => whnf) | refine ACode.s_block ?_ | refine ACode.s_scope ?_ | (refine ACode.s_cond ?_; conv => whnf) | (refine ACode.s_exit ?_; conv => whnf) | (refine ACode.s_ret ?_; conv => whnf) | (refine ACode.s_skip ?_; conv => whnf) | (refine ACode.s_label ?_; conv => whnf))
            rw [ew]
            refine ⟨⟨by omega, by omega, by omega⟩, ?_⟩
            conv => whnf
            rw [drop0]
            have hsl : (s.take (l[i].pos + (srcT l[i].kind l[i].text).length)).length ≤ 9223372036854775807 := by simp; omega
            rcases f2 with ⟨x, hx, r1, r2⟩ | ⟨r1, r2⟩
            · obtain ⟨j, hj, rfl⟩ := List.mem_iff_getElem.1 hx
              have hjk : j = k := by
                rcases Nat.lt_trichotomy j k with c | c | c
                · have := h3 j hj c; omega
                · exact c
                · have q1 := (List.pairwise_iff_getElem.1 e2) k j (by omega) hj c
                  have q2 := h4 k (by omega) (Nat.le_refl _)
                  omega
              subst hjk
              have hfn := e4 j hj
              rw [hfn] at r2
              refine ⟨_, ⟨parse_x hsl r2, rfl⟩, ?_⟩
              (conv => whnf)
              have ek : Wr IntKind.i64 ((j : Int) + 1) = ((j + 1 : Nat) : Int) := by rw [Wr64 _ (by omega) (by omega)]; omega
              repeat (first | (refine no_br ?_ (fun _ => ?_); (focus (simp; done)); conv => whnf) | (refine yes_br ?_ (fun _ => ?_); (focus (simp; done)); conv => whnf) | refine ACode.seq ?_ | (refine ACode.s_reg tys_ok ?_; conv => whnf) | refine ACode.s_block ?_ | refine ACode.s_scope ?_ | (refine ACode.s_cond ?_; conv => whnf) | (refine ACode.s_exit ?_; conv => whnf) | (refine ACode.s_ret ?_; conv => whnf) | (refine ACode.s_skip ?_; conv => whnf) | (refine ACode.s_label ?_; conv => whnf))
              simp only [ek]
              repeat (first | (refine no_br ?_ (fun _ => ?_); (focus (simp; done)); conv => whnf) | (refine yes_br ?_ (fun _ => ?_); (focus (simp; done)); conv => whnf) | (refine ACode.draw [] tys_ok (by kernel_rfl) (by kernel_rfl) ?_; conv => whnf) | (refine ACall.of_spec (things_spec n hsml) rfl fun r hr => ?_; subst hr; conv => whnf) | (refine ⟨_, ⟨things_spec n hsml, rfl⟩, ?_⟩; conv => whnf) | (refine no_br ?_ (fun _ => ?_); (focus (simp; omega; done)); conv => whnf) | (refine yes_br ?_ (fun _ => ?_); (focus (simp; omega; done)); conv => whnf) | (refine ⟨_, ⟨first_spec n hsml hnm (j + 1) (by omega), rfl⟩, ?_⟩; conv => whnf) | (refine ⟨_, ⟨same_true (sml_first hsml (j + 1)), rfl⟩, ?_⟩; conv => whnf) | (refine ACall.of_spec (first_spec n hsml hnm (j + 1) (by omega)) rfl fun r hr => ?_; subst hr; conv => whnf) | (refine ACall.of_spec (same_true (sml_first hsml (j + 1))) rfl fun r hr => ?_; subst hr; conv => whnf) | refine ACode.seq ?_ | (refine ACode.s_reg tys_ok ?_; conv => whnf) | refine ACode.s_block ?_ | refine ACode.s_scope ?_ | (refine ACode.s_cond ?_; conv => whnf) | (refine ACode.s_exit ?_; conv => whnf) | (refine ACode.s_ret ?_; conv => whnf) | (refine ACode.s_skip ?_; conv => whnf) | (refine ACode.s_label ?_; conv => whnf))
              refine ⟨(i + 1, j + 1), ?_⟩
              conv => whnf
              repeat (refine And.intro ?_ ?_; (focus (first | rfl | (simp; done) | (simp only; rw [Wr64 _ (by omega) (by omega)]; omega; done))); conv => whnf)
              refine ⟨⟨by simp only; omega, by simp only; omega, fun m hm hmj => ?_, fun m hm hmj => ?_⟩, by simp only; omega⟩
              · simp only at hmj ⊢
                by_cases c : m = j
                · subst c; omega
                · have := h3 m hm (by omega); omega
              · simp only at hmj ⊢
                have := (List.pairwise_iff_getElem.1 e2) j m hj hm (by omega)
                omega
            · refine ⟨_, ⟨parse_x hsl r2, rfl⟩, ?_⟩
              (conv => whnf)
              repeat (first | (refine no_br ?_ (fun _ => ?_); (focus (simp; done)); conv => whnf) | (refine yes_br ?_ (fun _ => ?_); (focus (simp; done)); conv => whnf) | (refine ACode.draw [] tys_ok (by kernel_rfl) (by kernel_rfl) ?_; conv => whnf) | (refine ⟨by omega, tokA l[i], (by exact toks_get l i hlt), ?_⟩; conv => whnf) | (refine ⟨_, ⟨source_t l[i] htk.1, rfl⟩, ?_⟩; conv => whnf) | (refine ACall.of_spec (source_t l[i] htk.1) rfl fun r hr => ?_; subst hr; conv => whnf) | refine ACode.seq ?_ | (refine ACode.s_reg tys_ok ?_; conv => whnf) | refine ACode.s_block ?_ | refine ACode.s_scope ?_ | (refine ACode.s_cond ?_; conv => whnf) | (refine ACode.s_exit ?_; conv => whnf) | (refine ACode.s_ret ?_; conv => whnf) | (refine ACode.s_skip ?_; conv => whnf) | (refine ACode.s_label ?_; conv => whnf))
              rw [ew]
              repeat (first | (refine yes_br ?_ (fun _ => ?_); (focus (simp; done)); conv => whnf) | (refine no_br ?_ (fun _ => ?_); (focus (simp; done)); conv => whnf) | refine ACode.seq ?_ | (refine ACode.s_reg tys_ok ?_; conv => whnf) | refine ACode.s_block ?_ | refine ACode.s_scope ?_ | (refine ACode.s_cond ?_; conv => whnf) | (refine ACode.s_exit ?_; conv => whnf) | (refine ACode.s_ret ?_; conv => whnf) | (refine ACode.s_skip ?_; conv => whnf) | (refine ACode.s_label ?_; conv => whnf))
              refine ⟨(i + 1, k), ?_⟩
              conv => whnf
              repeat (refine And.intro ?_ ?_; (focus (first | rfl | (simp; done) | (simp only; rw [Wr64 _ (by omega) (by omega)]; omega; done))); conv => whnf)
              refine ⟨⟨by simp only; omega, h2, fun j hj hjk => ?_, fun j hj hjk => ?_⟩, by simp only; omega⟩
              · have := h3 j hj hjk; simp only; omega
              · have := h4 j hj hjk
                have := r1 _ (List.getElem_mem hj)
                simp only; omega
          · have hge : i = l.length := by simp at hge; omega
            subst hge
            repeat (first | refine ACode.seq ?_ | (refine ACode.s_reg tys_ok ?_; conv => whnf) | refine ACode.s_block ?_ | refine ACode.s_scope ?_ | (refine ACode.s_cond ?_; conv => whnf) | (refine ACode.s_exit ?_; conv => whnf) | (refine ACode.s_ret ?_; conv => whnf) | (refine ACode.s_skip ?_; conv => whnf) | (refine ACode.s_label ?_; conv => whnf))
            have hk : k = szN n := by
              rw [← e1]
              by_cases c : k < E.length
              · have q1 := h4 k c (Nat.le_refl _)
                have q2 := (e3 _ (List.getElem_mem c)).2
                omega
              · omega
            subst hk
            repeat (first | (refine ACall.of_spec (things_spec n hsml) rfl fun r hr => ?_; subst hr; conv => whnf) | (refine yes_br ?_ (fun _ => ?_); (focus (simp; done)); conv => whnf) | (refine no_br ?_ (fun _ => ?_); (focus (simp; done)); conv => whnf) | refine ACode.seq ?_ | (refine ACode.s_reg tys_ok ?_; conv => whnf) | refine ACode.s_block ?_ | refine ACode.s_scope ?_ | (refine ACode.s_cond ?_; conv => whnf) | (refine ACode.s_exit ?_; conv => whnf) | (refine ACode.s_ret ?_; conv => whnf) | (refine ACode.s_skip ?_; conv => whnf) | (refine ACode.s_label ?_; conv => whnf))
            simp
      · repeat (first | (refine no_br ?_ (fun _ => ?_); (focus (simp; omega; done)); conv => whnf) | (refine no_br ?_ (fun _ => ?_); (focus (simp; done)); conv => whnf) | (refine yes_br ?_ (fun _ => ?_); (focus (simp; omega; done)); conv => whnf) | (refine no_br ?_ (fun _ => ?_); (focus (simp [hnm]; done)); conv => whnf) | (refine yes_br ?_ (fun _ => ?_); (focus (simp [hnm]; done)); conv => whnf) | refine ACode.seq ?_ | (refine ACode.s_reg tys_ok ?_; conv => whnf) | refine ACode.s_block ?_ | refine ACode.s_scope ?_ | (refine ACode.s_cond ?_; conv => whnf) | (refine ACode.s_exit ?_; conv => whnf) | (refine ACode.s_ret ?_; conv => whnf) | (refine ACode.s_skip ?_; conv => whnf) | (refine ACode.s_label ?_; conv => whnf))
        simp [hnm]
end Go.Proofs.YtmhlneeboefkgaaDoor
