import Derived.Test.YtmhlneeboefkgaaDoorR7
import Derived.Test.YtmhlneeboefkgaaDoorPa
set_option linter.unusedVariables false
set_option linter.unusedSimpArgs false
namespace Go.Proofs.YtmhlneeboefkgaaDoor
open Go.Av Go.Av.Net Pl
theorem toks_get (l : List Tok) (k : Nat) (h : k < l.length) : (toksA l)[k]? = some (tokA l[k]) := by simp [toksA, h]
theorem parse_x {s : Bs} {x : Res} (hs : s.length ≤ 9223372036854775807) (h : parseP s = x) : Ctr Tryd.prog 13 [.str s] (fun r => r = resP0 x) := parse_at hs h
theorem rlex_at {s : Bs} (hs : s.length ≤ 9223372036854775807) {x : Lx} (h : lexP s = x) : Ctr Tryd.prog 11 [.str s] (fun r => r = resLx x) := by
  have := rLex_spec s hs; rwa [h] at this
set_option maxRecDepth 20000 in
set_option maxHeartbeats 4000000 in
theorem firstError_law (s : Bs) (hs : s.length ≤ 9223372036854775807) : Ctr Tryd.prog 4 [.str s] (fun r => r = .bool true) := by
  refine Ctr.lits ?_
  refine Ctr.of_body Tryd.func4 rfl tys_ok (by kernel_rfl) ?_
  conv => whnf
  repeat (first | refine ACode.seq ?_ | (refine ACode.s_reg tys_ok ?_; conv => whnf) | refine ACode.s_block ?_ | refine ACode.s_scope ?_ | (refine ACode.s_cond ?_; conv => whnf) | (refine ACode.s_exit ?_; conv => whnf) | (refine ACode.s_ret ?_; conv => whnf) | (refine ACode.s_skip ?_; conv => whnf) | (refine ACode.s_label ?_; conv => whnf))
  refine ACall.of_spec (head_spec) rfl fun r hr => ?_
  subst hr
  conv => whnf
  repeat (first | refine ACode.seq ?_ | (refine ACode.s_reg tys_ok ?_; conv => whnf) | refine ACode.s_block ?_ | refine ACode.s_scope ?_ | (refine ACode.s_cond ?_; conv => whnf) | (refine ACode.s_exit ?_; conv => whnf) | (refine ACode.s_ret ?_; conv => whnf) | (refine ACode.s_skip ?_; conv => whnf) | (refine ACode.s_label ?_; conv => whnf))
  refine ⟨fun h => ?_, fun h => ?_⟩
  · repeat (first | refine ACode.seq ?_ | (refine ACode.s_reg tys_ok ?_; conv => whnf) | refine ACode.s_block ?_ | refine ACode.s_scope ?_ | (refine ACode.s_cond ?_; conv => whnf) | (refine ACode.s_exit ?_; conv => whnf) | (refine ACode.s_ret ?_; conv => whnf) | (refine ACode.s_skip ?_; conv => whnf) | (refine ACode.s_label ?_; conv => whnf))
    first | exact .inl rfl | exact .inr rfl
  · have h : s.length ≤ 8000 := by simp at h; omega
    repeat (first | refine ACode.seq ?_ | (refine ACode.s_reg tys_ok ?_; conv => whnf) | refine ACode.s_block ?_ | refine ACode.s_scope ?_ | (refine ACode.s_cond ?_; conv => whnf) | (refine ACode.s_exit ?_; conv => whnf) | (refine ACode.s_ret ?_; conv => whnf) | (refine ACode.s_skip ?_; conv => whnf) | (refine ACode.s_label ?_; conv => whnf))
    cases hL : lexP s with
    | err e p =>
      obtain ⟨h1, h2⟩ := lexP_err hL
      have hP : parseP s = .err e p := by unfold parseP; rw [hL]
      refine ACall.of_spec (rlex_at (by omega) hL) rfl fun r hr => ?_
      subst hr
      conv => whnf
      repeat (first | refine ACode.seq ?_ | (refine ACode.s_reg tys_ok ?_; conv => whnf) | refine ACode.s_block ?_ | refine ACode.s_scope ?_ | (refine ACode.s_cond ?_; conv => whnf) | (refine ACode.s_exit ?_; conv => whnf) | (refine ACode.s_ret ?_; conv => whnf) | (refine ACode.s_skip ?_; conv => whnf) | (refine ACode.s_label ?_; conv => whnf))
      refine ACall.of_spec (parse_x (by omega) hP) rfl fun r hr => ?_
      subst hr
      conv => whnf
      repeat (first | refine ACode.seq ?_ | (refine ACode.s_reg tys_ok ?_; conv => whnf) | refine ACode.s_block ?_ | refine ACode.s_scope ?_ | (refine ACode.s_cond ?_; conv => whnf) | (refine ACode.s_exit ?_; conv => whnf) | (refine ACode.s_ret ?_; conv => whnf) | (refine ACode.s_skip ?_; conv => whnf) | (refine ACode.s_label ?_; conv => whnf))
      rcases h2 with rfl | rfl
      all_goals
        repeat (first | (refine no_br ?_ (fun _ => ?_); (focus (simp; done)); conv => whnf) | (refine yes_br ?_ (fun _ => ?_); (focus (simp; done)); conv => whnf) | refine ACode.seq ?_ | (refine ACode.s_reg tys_ok ?_; conv => whnf) | refine ACode.s_block ?_ | refine ACode.s_scope ?_ | (refine ACode.s_cond ?_; conv => whnf) | (refine ACode.s_exit ?_; conv => whnf) | (refine ACode.s_ret ?_; conv => whnf) | (refine ACode.s_skip ?_; conv => whnf) | (refine ACode.s_label ?_; conv => whnf))
        exact .inr rfl
    | ok l =>
      have hl3 := (lexP_ok hL).1.len
      refine ACall.of_spec (rlex_at (by omega) hL) rfl fun r hr => ?_
      subst hr
      conv => whnf
      repeat (first | refine ACode.seq ?_ | (refine ACode.s_reg tys_ok ?_; conv => whnf) | refine ACode.s_block ?_ | refine ACode.s_scope ?_ | (refine ACode.s_cond ?_; conv => whnf) | (refine ACode.s_exit ?_; conv => whnf) | (refine ACode.s_ret ?_; conv => whnf) | (refine ACode.s_skip ?_; conv => whnf) | (refine ACode.s_label ?_; conv => whnf))
      cases hR : parseP s with
      | ok n =>
        refine ACall.of_spec (parse_x (by omega) hR) rfl fun r hr => ?_
        subst hr
        conv => whnf
        repeat (first | refine ACode.seq ?_ | (refine ACode.s_reg tys_ok ?_; conv => whnf) | refine ACode.s_block ?_ | refine ACode.s_scope ?_ | (refine ACode.s_cond ?_; conv => whnf) | (refine ACode.s_exit ?_; conv => whnf) | (refine ACode.s_ret ?_; conv => whnf) | (refine ACode.s_skip ?_; conv => whnf) | (refine ACode.s_label ?_; conv => whnf))
        repeat (first | (refine no_br ?_ (fun _ => ?_); (focus (simp; done)); conv => whnf) | (refine yes_br ?_ (fun _ => ?_); (focus (simp; done)); conv => whnf) | refine ACode.seq ?_ | (refine ACode.s_reg tys_ok ?_; conv => whnf) | refine ACode.s_block ?_ | refine ACode.s_scope ?_ | (refine ACode.s_cond ?_; conv => whnf) | (refine ACode.s_exit ?_; conv => whnf) | (refine ACode.s_ret ?_; conv => whnf) | (refine ACode.s_skip ?_; conv => whnf) | (refine ACode.s_label ?_; conv => whnf))
        exact .inr rfl
      | err e p =>
        have hpp := parse_post s
        rw [hR] at hpp
        obtain ⟨h1, h2⟩ := hpp
        refine ACall.of_spec (parse_x (by omega) hR) rfl fun r hr => ?_
        subst hr
        conv => whnf
        repeat (first | refine ACode.seq ?_ | (refine ACode.s_reg tys_ok ?_; conv => whnf) | refine ACode.s_block ?_ | refine ACode.s_scope ?_ | (refine ACode.s_cond ?_; conv => whnf) | (refine ACode.s_exit ?_; conv => whnf) | (refine ACode.s_ret ?_; conv => whnf) | (refine ACode.s_skip ?_; conv => whnf) | (refine ACode.s_label ?_; conv => whnf))
        by_cases h91 : e = 91
        · subst h91
          have := parse_end hL hR
          subst this
          repeat (first | (refine no_br ?_ (fun _ => ?_); (focus (simp; done)); conv => whnf) | (refine yes_br ?_ (fun _ => ?_); (focus (simp; done)); conv => whnf) | refine ACode.seq ?_ | (refine ACode.s_reg tys_ok ?_; conv => whnf) | refine ACode.s_block ?_ | refine ACode.s_scope ?_ | (refine ACode.s_cond ?_; conv => whnf) | (refine ACode.s_exit ?_; conv => whnf) | (refine ACode.s_ret ?_; conv => whnf) | (refine ACode.s_skip ?_; conv => whnf) | (refine ACode.s_label ?_; conv => whnf))
          simp
        · have hne : ¬ e = 0 := by rcases h2 with rfl | rfl | rfl | rfl | rfl <;> decide
          obtain ⟨i, hi, g1, g2, g3, g4, g5⟩ := parse_first hL hR h91
          repeat (first | (refine no_br ?_ (fun _ => ?_); (focus (simp; done)); conv => whnf) | (refine no_br ?_ (fun _ => ?_); (focus (simpa using h91; done)); conv => whnf) | (refine no_br ?_ (fun _ => ?_); (focus (simpa using hne; done)); conv => whnf) | (refine yes_br ?_ (fun _ => ?_); (focus (simpa using h91; done)); conv => whnf) | (refine yes_br ?_ (fun _ => ?_); (focus (simp; done)); conv => whnf) | refine ACode.seq ?_ | (refine ACode.s_reg tys_ok ?_; conv => whnf) | refine ACode.s_block ?_ | refine ACode.s_scope ?_ | (refine ACode.s_cond ?_; conv => whnf) | (refine ACode.s_exit ?_; conv => whnf) | (refine ACode.s_ret ?_; conv => whnf) | (refine ACode.s_skip ?_; conv => whnf) | (refine ACode.s_label ?_; conv => whnf))
          refine ACode.loopD (fun j : Nat => mk 110 [(0, .str s), (3, .bool true), (4, .sl 3 (toksA l)), (8, .int .i64 e), (9, .int .i64 p), (10, .int .i64 j)]) (fun _ => [.cells [.sl 3 [], .sl 1 [], .sl 1 [], .sl 7 [], .sl 6 [], .sl 3 []]]) (fun j => j ≤ i) (fun j => i - j) (fun j hj => ⟨rfl, rfl, trivial⟩) ⟨0, ?_⟩ (fun _ => rfl) fun j hj => ?_
          · conv => whnf
            repeat (refine And.intro ?_ ?_; (focus (first | rfl | (simp; done))); conv => whnf)
            exact Nat.zero_le _
          · repeat (first | refine ACode.seq ?_ | (refine ACode.s_reg tys_ok ?_; conv => whnf) | refine ACode.s_block ?_ | refine ACode.s_scope ?_ | (refine ACode.s_cond ?_; conv => whnf) | (refine ACode.s_exit ?_; conv => whnf) | (refine ACode.s_ret ?_; conv => whnf) | (refine ACode.s_skip ?_; conv => whnf) | (refine ACode.s_label ?_; conv => whnf))
            refine ⟨fun hlt => ?_, fun hge => ?_⟩
            · have hlt : j < l.length := by simp at hlt; omega
              repeat (first | refine ACode.seq ?_ | (refine ACode.s_reg tys_ok ?_; conv => whnf) | refine ACode.s_block ?_ | refine ACode.s_scope ?_ | (refine ACode.s_cond ?_; conv => whnf) | (refine ACode.s_exit ?_; conv => whnf) | (refine ACode.s_ret ?_; conv => whnf) | (refine ACode.s_skip ?_; conv => whnf) | (refine ACode.s_label ?_; conv => whnf))
              refine ⟨by omega, tokA l[j], toks_get l j hlt, ?_⟩
              conv => whnf
              repeat (first | refine ACode.seq ?_ | (refine ACode.s_reg tys_ok ?_; conv => whnf) | refine ACode.s_block ?_ | refine ACode.s_scope ?_ | (refine ACode.s_cond ?_; conv => whnf) | (refine ACode.s_exit ?_; conv => whnf) | (refine ACode.s_ret ?_; conv => whnf) | (refine ACode.s_skip ?_; conv => whnf) | (refine ACode.s_label ?_; conv => whnf))
              by_cases hji : j = i
              · subst hji
                have htk := (lexP_ok hL).1.tok l[j] (List.getElem_mem hlt)
                have e1 : Wr IntKind.i64 ((p : Int) + ((srcT l[j].kind l[j].text).length : Nat)) = ((p + (srcT l[j].kind l[j].text).length : Nat) : Int) := by rw [Wr64 _ (by omega) (by omega)]; omega
                repeat (first | (refine yes_br ?_ (fun _ => ?_); (focus (simp; omega; done)); conv => whnf) | (refine ⟨by omega, tokA l[j], (by exact toks_get l j hlt), ?_⟩; conv => whnf) | (refine ACall.of_spec (source_t l[j] htk.1) rfl fun r hr => ?_; subst hr; conv => whnf) | refine ACode.seq ?_ | (refine ACode.s_reg tys_ok ?_; conv => whnf) | refine ACode.s_block ?_ | refine ACode.s_scope ?_ | (refine ACode.s_cond ?_; conv => whnf) | (refine ACode.s_exit ?_; conv => whnf) | (refine ACode.s_ret ?_; conv => whnf) | (refine ACode.s_skip ?_; conv => whnf) | (refine ACode.s_label ?_; conv => whnf))
                rw [e1]
                refine ⟨⟨by omega, by omega, by omega⟩, ?_⟩
                conv => whnf
                have e2 : ∀ m : Nat, List.drop (Int.toNat 0) (List.take ((m : Int)).toNat s) = s.take m := fun m => by simp
                rw [e2]
                repeat (first | refine ACode.seq ?_ | (refine ACode.s_reg tys_ok ?_; conv => whnf) | refine ACode.s_block ?_ | refine ACode.s_scope ?_ | (refine ACode.s_cond ?_; conv => whnf) | (refine ACode.s_exit ?_; conv => whnf) | (refine ACode.s_ret ?_; conv => whnf) | (refine ACode.s_skip ?_; conv => whnf) | (refine ACode.s_label ?_; conv => whnf))
                refine ACall.of_spec (parse_x (by simp; omega) g2) rfl fun r hr => ?_
                subst hr
                conv => whnf
                repeat (first | refine ACode.seq ?_ | (refine ACode.s_reg tys_ok ?_; conv => whnf) | refine ACode.s_block ?_ | refine ACode.s_scope ?_ | (refine ACode.s_cond ?_; conv => whnf) | (refine ACode.s_exit ?_; conv => whnf) | (refine ACode.s_ret ?_; conv => whnf) | (refine ACode.s_skip ?_; conv => whnf) | (refine ACode.s_label ?_; conv => whnf))
                refine ⟨⟨by omega, by omega, by omega⟩, ?_⟩
                conv => whnf
                rw [e2]
                repeat (first | refine ACode.seq ?_ | (refine ACode.s_reg tys_ok ?_; conv => whnf) | refine ACode.s_block ?_ | refine ACode.s_scope ?_ | (refine ACode.s_cond ?_; conv => whnf) | (refine ACode.s_exit ?_; conv => whnf) | (refine ACode.s_ret ?_; conv => whnf) | (refine ACode.s_skip ?_; conv => whnf) | (refine ACode.s_label ?_; conv => whnf))
                have hsp : (s.take p).length ≤ 9223372036854775807 := by simp; omega
                have hee : ∀ x : Int, decide (x = x) = true := fun x => by simp
                rcases g3 with ⟨n2, g3⟩ | ⟨q2, g3⟩
                all_goals
                  refine ACall.of_spec (parse_x hsp g3) rfl fun r hr => ?_
                  subst hr
                  conv => whnf
                  repeat (first | refine ACode.seq ?_ | (refine ACode.s_reg tys_ok ?_; conv => whnf) | refine ACode.s_block ?_ | refine ACode.s_scope ?_ | (refine ACode.s_cond ?_; conv => whnf) | (refine ACode.s_exit ?_; conv => whnf) | (refine ACode.s_ret ?_; conv => whnf) | (refine ACode.s_skip ?_; conv => whnf) | (refine ACode.s_label ?_; conv => whnf))
                  repeat (first | (refine no_br ?_ (fun _ => ?_); (focus (simp; done)); conv => whnf) | (refine yes_br ?_ (fun _ => ?_); (focus (simp; done)); conv => whnf) | refine ACode.seq ?_ | (refine ACode.s_reg tys_ok ?_; conv => whnf) | refine ACode.s_block ?_ | refine ACode.s_scope ?_ | (refine ACode.s_cond ?_; conv => whnf) | (refine ACode.s_exit ?_; conv => whnf) | (refine ACode.s_ret ?_; conv => whnf) | (refine ACode.s_skip ?_; conv => whnf) | (refine ACode.s_label ?_; conv => whnf))
                all_goals simp
              · have := g5 j hlt (by omega)
                repeat (first | (refine no_br ?_ (fun _ => ?_); (focus (simp; omega; done)); conv => whnf) | refine ACode.seq ?_ | (refine ACode.s_reg tys_ok ?_; conv => whnf) | refine ACode.s_block ?_ | refine ACode.s_scope ?_ | (refine ACode.s_cond ?_; conv => whnf) | (refine ACode.s_exit ?_; conv => whnf) | (refine ACode.s_ret ?_; conv => whnf) | (refine ACode.s_skip ?_; conv => whnf) | (refine ACode.s_label ?_; conv => whnf))
                refine ⟨j + 1, ?_⟩
                conv => whnf
                repeat (refine And.intro ?_ ?_; (focus (first | rfl | (simp; done) | (rw [Wr64 _ (by omega) (by omega)]; omega; done))); conv => whnf)
                exact ⟨by omega, by omega⟩
            · exfalso
              simp at hge; omega
end Go.Proofs.YtmhlneeboefkgaaDoor
