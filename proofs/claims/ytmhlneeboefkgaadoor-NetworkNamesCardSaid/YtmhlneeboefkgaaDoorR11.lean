import Derived.Test.YtmhlneeboefkgaaDoorRc
import Derived.Test.YtmhlneeboefkgaaDoorP8
set_option linter.unusedVariables false
set_option linter.unusedSimpArgs false
namespace Go.Proofs.YtmhlneeboefkgaaDoor
open Go.Av Go.Av.Net Pl
theorem map_snoc {α β : Type} (f : α → β) (l : List α) (i : Nat) (h : i < l.length) : (l.take (i + 1)).map f = (l.take i).map f ++ [f l[i]] := by
  rw [List.take_succ_eq_append_getElem h, List.map_append]; rfl
theorem closed_mapA {α : Type} (f : α → AV) (l : List α) (hf : ∀ x, closed (f x) = true) : ∀ e ∈ l.map f, closed e = true := by
  intro e he; obtain ⟨x, _, rfl⟩ := List.mem_map.1 he; exact hf x
set_option maxRecDepth 20000 in
set_option maxHeartbeats 4000000 in
theorem renamed_spec (n : Nw) (h : Sml n) (hl : ∀ x ∈ n.names, x.length ≤ 16) (ho : ∀ x ∈ n.opers, x.length ≤ 16) (hf : ∀ x ∈ n.offs, x.name.length ≤ 16) (hln : ∀ x ∈ n.lins, x.name.length ≤ 16) (hc : ∀ x ∈ n.clss, x.name.length ≤ 16) :
    Ctr Tryd.prog 21 [netA n] (fun r => r = netA (renN n)) := by
  obtain ⟨m1, m2, m3, m4, m5, m6, m7, m8⟩ := h
  refine Ctr.of_body Tryd.func21 rfl tys_ok (by kernel_rfl) ?_
  conv => whnf
  repeat (first | refine ACode.seq ?_ | (refine ACode.s_reg tys_ok ?_; conv => whnf) | refine ACode.s_block ?_ | refine ACode.s_scope ?_ | (refine ACode.s_cond ?_; conv => whnf) | (refine ACode.s_exit ?_; conv => whnf) | (refine ACode.s_ret ?_; conv => whnf) | (refine ACode.s_skip ?_; conv => whnf) | (refine ACode.s_label ?_; conv => whnf))
  refine ACode.nilCell 2 1 9 1 rfl rfl ?_
  refine ACode.nilCell 2 2 52 1 rfl rfl ?_
  refine ACode.nilCell 2 3 54 7 rfl rfl ?_
  refine ACode.nilCell 2 4 57 6 rfl rfl ?_
  refine ACode.nilCell 2 5 59 3 rfl rfl ?_
  refine ACode.loopD (fun i : Nat => mk 120 [(1, .ptr 0 0), (2, .ptr 1 0), (3, .ptr 2 0), (4, .int .i64 i)]) (fun i => [.cells [.sl 3 (n.cals.map calA), .sl 1 (strs n.names), .sl 1 (n.opers.map operA), .sl 7 (n.offs.map offA), .sl 6 (n.lins.map linA), .sl 3 (n.clss.map clsA)], .cells [.raw (.slice none 0 0), .raw (.slice none 0 0), .raw (.slice none 0 0), .raw (.slice none 0 0), .raw (.slice none 0 0), .raw (.slice none 0 0)], .cells [.sl 3 (n.cals.map calA), .own 3 1 0 (i), .own 4 1 0 (0), .own 5 7 0 (0), .own 6 6 0 (0), .own 7 3 0 (0)], .arr 9 1 (strs ((n.names.take i).map zz)), .arr 52 1 ((([] : List Bs)).map operA), .arr 54 7 ((([] : List Off)).map offA), .arr 57 6 ((([] : List Lin)).map linA), .arr 59 3 ((([] : List Cls)).map clsA)]) (fun i => i ≤ n.names.length) (fun i => n.names.length - i) (fun i hi => ⟨rfl, ?_⟩) ⟨0, ?_⟩ (fun _ => rfl) fun i hi => ?_
  · (conv => whnf)
    repeat (first | exact trivial | (refine ⟨rfl, ?_⟩; conv => whnf) | (refine ⟨closed_strs _, ?_⟩; conv => whnf) | (refine ⟨closed_mapA _ _ (fun _ => rfl), ?_⟩; conv => whnf))
  · conv => whnf
    repeat (refine And.intro ?_ ?_; (focus (first | rfl | (simp; done))); conv => whnf)
    exact Nat.zero_le _
  · repeat (first | refine ACode.seq ?_ | (refine ACode.s_reg tys_ok ?_; conv => whnf) | refine ACode.s_block ?_ | refine ACode.s_scope ?_ | (refine ACode.s_cond ?_; conv => whnf) | (refine ACode.s_exit ?_; conv => whnf) | (refine ACode.s_ret ?_; conv => whnf) | (refine ACode.s_skip ?_; conv => whnf) | (refine ACode.s_label ?_; conv => whnf))
    refine ⟨fun h => ?_, fun h => ?_⟩
    · have h : i < n.names.length := by simp [strs] at h; omega
      have hb := hl _ (List.getElem_mem h)
      repeat (first | refine ACode.seq ?_ | (refine ACode.s_reg tys_ok ?_; conv => whnf) | refine ACode.s_block ?_ | refine ACode.s_scope ?_ | (refine ACode.s_cond ?_; conv => whnf) | (refine ACode.s_exit ?_; conv => whnf) | (refine ACode.s_ret ?_; conv => whnf) | (refine ACode.s_skip ?_; conv => whnf) | (refine ACode.s_label ?_; conv => whnf))
      refine ACode.draw [9, 11] tys_ok (by kernel_rfl) (by kernel_rfl) ?_
      conv => whnf
      repeat (first | (refine ⟨by omega, .str n.names[i], (by exact strs_get _ _ h), ?_⟩; conv => whnf) | refine ACode.seq ?_ | (refine ACode.s_reg tys_ok ?_; conv => whnf) | refine ACode.s_block ?_ | refine ACode.s_scope ?_ | (refine ACode.s_cond ?_; conv => whnf) | (refine ACode.s_exit ?_; conv => whnf) | (refine ACode.s_ret ?_; conv => whnf) | (refine ACode.s_skip ?_; conv => whnf) | (refine ACode.s_label ?_; conv => whnf))
      refine ⟨by simp; omega, ?_⟩
      conv => whnf
      refine ⟨rfl, ?_⟩
      conv => whnf
      refine ⟨⟨by simp [strs]; omega, by simp; omega⟩, ?_⟩
      conv => whnf
      repeat (first | refine ACode.seq ?_ | (refine ACode.s_reg tys_ok ?_; conv => whnf) | refine ACode.s_block ?_ | refine ACode.s_scope ?_ | (refine ACode.s_cond ?_; conv => whnf) | (refine ACode.s_exit ?_; conv => whnf) | (refine ACode.s_ret ?_; conv => whnf) | (refine ACode.s_skip ?_; conv => whnf) | (refine ACode.s_label ?_; conv => whnf))
      refine ⟨i + 1, ?_⟩
      conv => whnf
      repeat (refine And.intro ?_ ?_; (focus (first | rfl | (simp; done) | (first | (rw [Wr64 _ (by omega) (by omega)]; omega) | (simp [strs]; omega); done))); conv => whnf)
      refine ⟨by rw [map_snoc _ _ _ h, strs, strs, List.map_append]; rfl, ?_⟩
      conv => whnf
      repeat (refine And.intro ?_ ?_; (focus (first | rfl | (simp; done))); conv => whnf)
      exact ⟨by omega, by omega⟩
    · have h : i = n.names.length := by simp [strs] at h; omega
      subst h
      rw [List.take_length]
      repeat (first | refine ACode.seq ?_ | (refine ACode.s_reg tys_ok ?_; conv => whnf) | refine ACode.s_block ?_ | refine ACode.s_scope ?_ | (refine ACode.s_cond ?_; conv => whnf) | (refine ACode.s_exit ?_; conv => whnf) | (refine ACode.s_ret ?_; conv => whnf) | (refine ACode.s_skip ?_; conv => whnf) | (refine ACode.s_label ?_; conv => whnf))
      refine ACode.loopD (fun i : Nat => mk 120 [(1, .ptr 0 0), (2, .ptr 1 0), (3, .ptr 2 0), (5, .int .i64 i)]) (fun i => [.cells [.sl 3 (n.cals.map calA), .sl 1 (strs n.names), .sl 1 (n.opers.map operA), .sl 7 (n.offs.map offA), .sl 6 (n.lins.map linA), .sl 3 (n.clss.map clsA)], .cells [.raw (.slice none 0 0), .raw (.slice none 0 0), .raw (.slice none 0 0), .raw (.slice none 0 0), .raw (.slice none 0 0), .raw (.slice none 0 0)], .cells [.sl 3 (n.cals.map calA), .own 3 1 0 (n.names.length), .own 4 1 0 (i), .own 5 7 0 (0), .own 6 6 0 (0), .own 7 3 0 (0)], .arr 9 1 (strs (n.names.map zz)), .arr 52 1 (((n.opers.take i).map zz).map operA), .arr 54 7 ((([] : List Off)).map offA), .arr 57 6 ((([] : List Lin)).map linA), .arr 59 3 ((([] : List Cls)).map clsA)]) (fun i => i ≤ n.opers.length) (fun i => n.opers.length - i) (fun i hi => ⟨rfl, ?_⟩) ⟨0, ?_⟩ (fun _ => rfl) fun i hi => ?_
      · (conv => whnf)
        repeat (first | exact trivial | (refine ⟨rfl, ?_⟩; conv => whnf) | (refine ⟨closed_strs _, ?_⟩; conv => whnf) | (refine ⟨closed_mapA _ _ (fun _ => rfl), ?_⟩; conv => whnf))
      · conv => whnf
        repeat (refine And.intro ?_ ?_; (focus (first | rfl | (simp; done))); conv => whnf)
        exact Nat.zero_le _
      · repeat (first | refine ACode.seq ?_ | (refine ACode.s_reg tys_ok ?_; conv => whnf) | refine ACode.s_block ?_ | refine ACode.s_scope ?_ | (refine ACode.s_cond ?_; conv => whnf) | (refine ACode.s_exit ?_; conv => whnf) | (refine ACode.s_ret ?_; conv => whnf) | (refine ACode.s_skip ?_; conv => whnf) | (refine ACode.s_label ?_; conv => whnf))
        refine ⟨fun h => ?_, fun h => ?_⟩
        · have h : i < n.opers.length := by simp [strs] at h; omega
          have hb := ho _ (List.getElem_mem h)
          repeat (first | refine ACode.seq ?_ | (refine ACode.s_reg tys_ok ?_; conv => whnf) | refine ACode.s_block ?_ | refine ACode.s_scope ?_ | (refine ACode.s_cond ?_; conv => whnf) | (refine ACode.s_exit ?_; conv => whnf) | (refine ACode.s_ret ?_; conv => whnf) | (refine ACode.s_skip ?_; conv => whnf) | (refine ACode.s_label ?_; conv => whnf))
          refine ACode.draw [11, 13] tys_ok (by kernel_rfl) (by kernel_rfl) ?_
          conv => whnf
          repeat (first | (refine ⟨by omega, operA n.opers[i], (by simp [h]), ?_⟩; conv => whnf) | refine ACode.seq ?_ | (refine ACode.s_reg tys_ok ?_; conv => whnf) | refine ACode.s_block ?_ | refine ACode.s_scope ?_ | (refine ACode.s_cond ?_; conv => whnf) | (refine ACode.s_exit ?_; conv => whnf) | (refine ACode.s_ret ?_; conv => whnf) | (refine ACode.s_skip ?_; conv => whnf) | (refine ACode.s_label ?_; conv => whnf))
          refine ⟨by simp; omega, ?_⟩
          conv => whnf
          refine ⟨rfl, ?_⟩
          conv => whnf
          refine ⟨⟨by simp [strs]; omega, by simp; omega⟩, ?_⟩
          conv => whnf
          repeat (first | refine ACode.seq ?_ | (refine ACode.s_reg tys_ok ?_; conv => whnf) | refine ACode.s_block ?_ | refine ACode.s_scope ?_ | (refine ACode.s_cond ?_; conv => whnf) | (refine ACode.s_exit ?_; conv => whnf) | (refine ACode.s_ret ?_; conv => whnf) | (refine ACode.s_skip ?_; conv => whnf) | (refine ACode.s_label ?_; conv => whnf))
          refine ⟨i + 1, ?_⟩
          conv => whnf
          repeat (refine And.intro ?_ ?_; (focus (first | rfl | (simp; done) | (first | (rw [Wr64 _ (by omega) (by omega)]; omega) | (simp [strs]; omega); done))); conv => whnf)
          refine ⟨by rw [map_snoc _ _ _ h, List.map_append]; rfl, ?_⟩
          conv => whnf
          repeat (refine And.intro ?_ ?_; (focus (first | rfl | (simp; done))); conv => whnf)
          exact ⟨by omega, by omega⟩
        · have h : i = n.opers.length := by simp [strs] at h; omega
          subst h
          rw [List.take_length]
          repeat (first | refine ACode.seq ?_ | (refine ACode.s_reg tys_ok ?_; conv => whnf) | refine ACode.s_block ?_ | refine ACode.s_scope ?_ | (refine ACode.s_cond ?_; conv => whnf) | (refine ACode.s_exit ?_; conv => whnf) | (refine ACode.s_ret ?_; conv => whnf) | (refine ACode.s_skip ?_; conv => whnf) | (refine ACode.s_label ?_; conv => whnf))
          refine ACode.loopD (fun i : Nat => mk 120 [(1, .ptr 0 0), (2, .ptr 1 0), (3, .ptr 2 0), (6, .int .i64 i)]) (fun i => [.cells [.sl 3 (n.cals.map calA), .sl 1 (strs n.names), .sl 1 (n.opers.map operA), .sl 7 (n.offs.map offA), .sl 6 (n.lins.map linA), .sl 3 (n.clss.map clsA)], .cells [.raw (.slice none 0 0), .raw (.slice none 0 0), .raw (.slice none 0 0), .raw (.slice none 0 0), .raw (.slice none 0 0), .raw (.slice none 0 0)], .cells [.sl 3 (n.cals.map calA), .own 3 1 0 (n.names.length), .own 4 1 0 (n.opers.length), .own 5 7 0 (i), .own 6 6 0 (0), .own 7 3 0 (0)], .arr 9 1 (strs (n.names.map zz)), .arr 52 1 ((n.opers.map zz).map operA), .arr 54 7 (((n.offs.take i).map (fun o : Off => { o with name := zz o.name })).map offA), .arr 57 6 ((([] : List Lin)).map linA), .arr 59 3 ((([] : List Cls)).map clsA)]) (fun i => i ≤ n.offs.length) (fun i => n.offs.length - i) (fun i hi => ⟨rfl, ?_⟩) ⟨0, ?_⟩ (fun _ => rfl) fun i hi => ?_
          · (conv => whnf)
            repeat (first | exact trivial | (refine ⟨rfl, ?_⟩; conv => whnf) | (refine ⟨closed_strs _, ?_⟩; conv => whnf) | (refine ⟨closed_mapA _ _ (fun _ => rfl), ?_⟩; conv => whnf))
          · conv => whnf
            repeat (refine And.intro ?_ ?_; (focus (first | rfl | (simp; done))); conv => whnf)
            exact Nat.zero_le _
          · repeat (first | refine ACode.seq ?_ | (refine ACode.s_reg tys_ok ?_; conv => whnf) | refine ACode.s_block ?_ | refine ACode.s_scope ?_ | (refine ACode.s_cond ?_; conv => whnf) | (refine ACode.s_exit ?_; conv => whnf) | (refine ACode.s_ret ?_; conv => whnf) | (refine ACode.s_skip ?_; conv => whnf) | (refine ACode.s_label ?_; conv => whnf))
            refine ⟨fun h => ?_, fun h => ?_⟩
            · have h : i < n.offs.length := by simp [strs] at h; omega
              have hb := hf _ (List.getElem_mem h)
              repeat (first | refine ACode.seq ?_ | (refine ACode.s_reg tys_ok ?_; conv => whnf) | refine ACode.s_block ?_ | refine ACode.s_scope ?_ | (refine ACode.s_cond ?_; conv => whnf) | (refine ACode.s_exit ?_; conv => whnf) | (refine ACode.s_ret ?_; conv => whnf) | (refine ACode.s_skip ?_; conv => whnf) | (refine ACode.s_label ?_; conv => whnf))
              repeat (first | (refine ⟨by omega, offA n.offs[i], (by simp [h]), ?_⟩; conv => whnf) | refine ACode.seq ?_ | (refine ACode.s_reg tys_ok ?_; conv => whnf) | refine ACode.s_block ?_ | refine ACode.s_scope ?_ | (refine ACode.s_cond ?_; conv => whnf) | (refine ACode.s_exit ?_; conv => whnf) | (refine ACode.s_ret ?_; conv => whnf) | (refine ACode.s_skip ?_; conv => whnf) | (refine ACode.s_label ?_; conv => whnf))
              refine ⟨by simp; omega, ?_⟩
              conv => whnf
              repeat (first | refine ACode.seq ?_ | (refine ACode.s_reg tys_ok ?_; conv => whnf) | refine ACode.s_block ?_ | refine ACode.s_scope ?_ | (refine ACode.s_cond ?_; conv => whnf) | (refine ACode.s_exit ?_; conv => whnf) | (refine ACode.s_ret ?_; conv => whnf) | (refine ACode.s_skip ?_; conv => whnf) | (refine ACode.s_label ?_; conv => whnf))
              refine ⟨rfl, ?_⟩
              conv => whnf
              refine ⟨⟨by simp [strs]; omega, by simp; omega⟩, ?_⟩
              conv => whnf
              repeat (first | refine ACode.seq ?_ | (refine ACode.s_reg tys_ok ?_; conv => whnf) | refine ACode.s_block ?_ | refine ACode.s_scope ?_ | (refine ACode.s_cond ?_; conv => whnf) | (refine ACode.s_exit ?_; conv => whnf) | (refine ACode.s_ret ?_; conv => whnf) | (refine ACode.s_skip ?_; conv => whnf) | (refine ACode.s_label ?_; conv => whnf))
              refine ⟨i + 1, ?_⟩
              conv => whnf
              repeat (refine And.intro ?_ ?_; (focus (first | rfl | (simp; done) | (first | (rw [Wr64 _ (by omega) (by omega)]; omega) | (simp [strs]; omega); done))); conv => whnf)
              refine ⟨by rw [map_snoc _ _ _ h, List.map_append]; rfl, ?_⟩
              conv => whnf
              repeat (refine And.intro ?_ ?_; (focus (first | rfl | (simp; done))); conv => whnf)
              exact ⟨by omega, by omega⟩
            · have h : i = n.offs.length := by simp [strs] at h; omega
              subst h
              rw [List.take_length]
              repeat (first | refine ACode.seq ?_ | (refine ACode.s_reg tys_ok ?_; conv => whnf) | refine ACode.s_block ?_ | refine ACode.s_scope ?_ | (refine ACode.s_cond ?_; conv => whnf) | (refine ACode.s_exit ?_; conv => whnf) | (refine ACode.s_ret ?_; conv => whnf) | (refine ACode.s_skip ?_; conv => whnf) | (refine ACode.s_label ?_; conv => whnf))
              refine ACode.loopD (fun i : Nat => mk 120 [(1, .ptr 0 0), (2, .ptr 1 0), (3, .ptr 2 0), (8, .int .i64 i)]) (fun i => [.cells [.sl 3 (n.cals.map calA), .sl 1 (strs n.names), .sl 1 (n.opers.map operA), .sl 7 (n.offs.map offA), .sl 6 (n.lins.map linA), .sl 3 (n.clss.map clsA)], .cells [.raw (.slice none 0 0), .raw (.slice none 0 0), .raw (.slice none 0 0), .raw (.slice none 0 0), .raw (.slice none 0 0), .raw (.slice none 0 0)], .cells [.sl 3 (n.cals.map calA), .own 3 1 0 (n.names.length), .own 4 1 0 (n.opers.length), .own 5 7 0 (n.offs.length), .own 6 6 0 (i), .own 7 3 0 (0)], .arr 9 1 (strs (n.names.map zz)), .arr 52 1 ((n.opers.map zz).map operA), .arr 54 7 ((n.offs.map (fun o : Off => { o with name := zz o.name })).map offA), .arr 57 6 (((n.lins.take i).map (fun l : Lin => { l with name := zz l.name })).map linA), .arr 59 3 ((([] : List Cls)).map clsA)]) (fun i => i ≤ n.lins.length) (fun i => n.lins.length - i) (fun i hi => ⟨rfl, ?_⟩) ⟨0, ?_⟩ (fun _ => rfl) fun i hi => ?_
              · (conv => whnf)
                repeat (first | exact trivial | (refine ⟨rfl, ?_⟩; conv => whnf) | (refine ⟨closed_strs _, ?_⟩; conv => whnf) | (refine ⟨closed_mapA _ _ (fun _ => rfl), ?_⟩; conv => whnf))
              · conv => whnf
                repeat (refine And.intro ?_ ?_; (focus (first | rfl | (simp; done))); conv => whnf)
                exact Nat.zero_le _
              · repeat (first | refine ACode.seq ?_ | (refine ACode.s_reg tys_ok ?_; conv => whnf) | refine ACode.s_block ?_ | refine ACode.s_scope ?_ | (refine ACode.s_cond ?_; conv => whnf) | (refine ACode.s_exit ?_; conv => whnf) | (refine ACode.s_ret ?_; conv => whnf) | (refine ACode.s_skip ?_; conv => whnf) | (refine ACode.s_label ?_; conv => whnf))
                refine ⟨fun h => ?_, fun h => ?_⟩
                · have h : i < n.lins.length := by simp [strs] at h; omega
                  have hb := hln _ (List.getElem_mem h)
                  repeat (first | refine ACode.seq ?_ | (refine ACode.s_reg tys_ok ?_; conv => whnf) | refine ACode.s_block ?_ | refine ACode.s_scope ?_ | (refine ACode.s_cond ?_; conv => whnf) | (refine ACode.s_exit ?_; conv => whnf) | (refine ACode.s_ret ?_; conv => whnf) | (refine ACode.s_skip ?_; conv => whnf) | (refine ACode.s_label ?_; conv => whnf))
                  repeat (first | (refine ⟨by omega, linA n.lins[i], (by simp [h]), ?_⟩; conv => whnf) | refine ACode.seq ?_ | (refine ACode.s_reg tys_ok ?_; conv => whnf) | refine ACode.s_block ?_ | refine ACode.s_scope ?_ | (refine ACode.s_cond ?_; conv => whnf) | (refine ACode.s_exit ?_; conv => whnf) | (refine ACode.s_ret ?_; conv => whnf) | (refine ACode.s_skip ?_; conv => whnf) | (refine ACode.s_label ?_; conv => whnf))
                  refine ⟨by simp; omega, ?_⟩
                  conv => whnf
                  repeat (first | refine ACode.seq ?_ | (refine ACode.s_reg tys_ok ?_; conv => whnf) | refine ACode.s_block ?_ | refine ACode.s_scope ?_ | (refine ACode.s_cond ?_; conv => whnf) | (refine ACode.s_exit ?_; conv => whnf) | (refine ACode.s_ret ?_; conv => whnf) | (refine ACode.s_skip ?_; conv => whnf) | (refine ACode.s_label ?_; conv => whnf))
                  refine ⟨rfl, ?_⟩
                  conv => whnf
                  refine ⟨⟨by simp [strs]; omega, by simp; omega⟩, ?_⟩
                  conv => whnf
                  repeat (first | refine ACode.seq ?_ | (refine ACode.s_reg tys_ok ?_; conv => whnf) | refine ACode.s_block ?_ | refine ACode.s_scope ?_ | (refine ACode.s_cond ?_; conv => whnf) | (refine ACode.s_exit ?_; conv => whnf) | (refine ACode.s_ret ?_; conv => whnf) | (refine ACode.s_skip ?_; conv => whnf) | (refine ACode.s_label ?_; conv => whnf))
                  refine ⟨i + 1, ?_⟩
                  conv => whnf
                  repeat (refine And.intro ?_ ?_; (focus (first | rfl | (simp; done) | (first | (rw [Wr64 _ (by omega) (by omega)]; omega) | (simp [strs]; omega); done))); conv => whnf)
                  refine ⟨by rw [map_snoc _ _ _ h, List.map_append]; rfl, ?_⟩
                  conv => whnf
                  repeat (refine And.intro ?_ ?_; (focus (first | rfl | (simp; done))); conv => whnf)
                  exact ⟨by omega, by omega⟩
                · have h : i = n.lins.length := by simp [strs] at h; omega
                  subst h
                  rw [List.take_length]
                  repeat (first | refine ACode.seq ?_ | (refine ACode.s_reg tys_ok ?_; conv => whnf) | refine ACode.s_block ?_ | refine ACode.s_scope ?_ | (refine ACode.s_cond ?_; conv => whnf) | (refine ACode.s_exit ?_; conv => whnf) | (refine ACode.s_ret ?_; conv => whnf) | (refine ACode.s_skip ?_; conv => whnf) | (refine ACode.s_label ?_; conv => whnf))
                  refine ACode.loopD (fun i : Nat => mk 120 [(1, .ptr 0 0), (2, .ptr 1 0), (3, .ptr 2 0), (10, .int .i64 i)]) (fun i => [.cells [.sl 3 (n.cals.map calA), .sl 1 (strs n.names), .sl 1 (n.opers.map operA), .sl 7 (n.offs.map offA), .sl 6 (n.lins.map linA), .sl 3 (n.clss.map clsA)], .cells [.raw (.slice none 0 0), .raw (.slice none 0 0), .raw (.slice none 0 0), .raw (.slice none 0 0), .raw (.slice none 0 0), .raw (.slice none 0 0)], .cells [.sl 3 (n.cals.map calA), .own 3 1 0 (n.names.length), .own 4 1 0 (n.opers.length), .own 5 7 0 (n.offs.length), .own 6 6 0 (n.lins.length), .own 7 3 0 (i)], .arr 9 1 (strs (n.names.map zz)), .arr 52 1 ((n.opers.map zz).map operA), .arr 54 7 ((n.offs.map (fun o : Off => { o with name := zz o.name })).map offA), .arr 57 6 ((n.lins.map (fun l : Lin => { l with name := zz l.name })).map linA), .arr 59 3 (((n.clss.take i).map (fun c : Cls => { c with name := zz c.name })).map clsA)]) (fun i => i ≤ n.clss.length) (fun i => n.clss.length - i) (fun i hi => ⟨rfl, ?_⟩) ⟨0, ?_⟩ (fun _ => rfl) fun i hi => ?_
                  · (conv => whnf)
                    repeat (first | exact trivial | (refine ⟨rfl, ?_⟩; conv => whnf) | (refine ⟨closed_strs _, ?_⟩; conv => whnf) | (refine ⟨closed_mapA _ _ (fun _ => rfl), ?_⟩; conv => whnf))
                  · conv => whnf
                    repeat (refine And.intro ?_ ?_; (focus (first | rfl | (simp; done))); conv => whnf)
                    exact Nat.zero_le _
                  · repeat (first | refine ACode.seq ?_ | (refine ACode.s_reg tys_ok ?_; conv => whnf) | refine ACode.s_block ?_ | refine ACode.s_scope ?_ | (refine ACode.s_cond ?_; conv => whnf) | (refine ACode.s_exit ?_; conv => whnf) | (refine ACode.s_ret ?_; conv => whnf) | (refine ACode.s_skip ?_; conv => whnf) | (refine ACode.s_label ?_; conv => whnf))
                    refine ⟨fun h => ?_, fun h => ?_⟩
                    · have h : i < n.clss.length := by simp [strs] at h; omega
                      have hb := hc _ (List.getElem_mem h)
                      repeat (first | refine ACode.seq ?_ | (refine ACode.s_reg tys_ok ?_; conv => whnf) | refine ACode.s_block ?_ | refine ACode.s_scope ?_ | (refine ACode.s_cond ?_; conv => whnf) | (refine ACode.s_exit ?_; conv => whnf) | (refine ACode.s_ret ?_; conv => whnf) | (refine ACode.s_skip ?_; conv => whnf) | (refine ACode.s_label ?_; conv => whnf))
                      repeat (first | (refine ⟨by omega, clsA n.clss[i], (by simp [h]), ?_⟩; conv => whnf) | refine ACode.seq ?_ | (refine ACode.s_reg tys_ok ?_; conv => whnf) | refine ACode.s_block ?_ | refine ACode.s_scope ?_ | (refine ACode.s_cond ?_; conv => whnf) | (refine ACode.s_exit ?_; conv => whnf) | (refine ACode.s_ret ?_; conv => whnf) | (refine ACode.s_skip ?_; conv => whnf) | (refine ACode.s_label ?_; conv => whnf))
                      refine ⟨by simp; omega, ?_⟩
                      conv => whnf
                      repeat (first | refine ACode.seq ?_ | (refine ACode.s_reg tys_ok ?_; conv => whnf) | refine ACode.s_block ?_ | refine ACode.s_scope ?_ | (refine ACode.s_cond ?_; conv => whnf) | (refine ACode.s_exit ?_; conv => whnf) | (refine ACode.s_ret ?_; conv => whnf) | (refine ACode.s_skip ?_; conv => whnf) | (refine ACode.s_label ?_; conv => whnf))
                      refine ⟨rfl, ?_⟩
                      conv => whnf
                      refine ⟨⟨by simp [strs]; omega, by simp; omega⟩, ?_⟩
                      conv => whnf
                      repeat (first | refine ACode.seq ?_ | (refine ACode.s_reg tys_ok ?_; conv => whnf) | refine ACode.s_block ?_ | refine ACode.s_scope ?_ | (refine ACode.s_cond ?_; conv => whnf) | (refine ACode.s_exit ?_; conv => whnf) | (refine ACode.s_ret ?_; conv => whnf) | (refine ACode.s_skip ?_; conv => whnf) | (refine ACode.s_label ?_; conv => whnf))
                      refine ⟨i + 1, ?_⟩
                      conv => whnf
                      repeat (refine And.intro ?_ ?_; (focus (first | rfl | (simp; done) | (first | (rw [Wr64 _ (by omega) (by omega)]; omega) | (simp [strs]; omega); done))); conv => whnf)
                      refine ⟨by rw [map_snoc _ _ _ h, List.map_append]; rfl, ?_⟩
                      conv => whnf
                      repeat (refine And.intro ?_ ?_; (focus (first | rfl | (simp; done))); conv => whnf)
                      exact ⟨by omega, by omega⟩
                    · have h : i = n.clss.length := by simp [strs] at h; omega
                      subst h
                      rw [List.take_length]
                      repeat (first | refine ACode.seq ?_ | (refine ACode.s_reg tys_ok ?_; conv => whnf) | refine ACode.s_block ?_ | refine ACode.s_scope ?_ | (refine ACode.s_cond ?_; conv => whnf) | (refine ACode.s_exit ?_; conv => whnf) | (refine ACode.s_ret ?_; conv => whnf) | (refine ACode.s_skip ?_; conv => whnf) | (refine ACode.s_label ?_; conv => whnf))
                      refine ⟨⟨by simp [strs], closed_strs _⟩, ?_⟩
                      (conv => whnf)
                      refine ⟨⟨by simp, closed_mapA _ _ (fun _ => rfl)⟩, ?_⟩
                      (conv => whnf)
                      refine ⟨⟨by simp, closed_mapA _ _ (fun _ => rfl)⟩, ?_⟩
                      (conv => whnf)
                      refine ⟨⟨by simp, closed_mapA _ _ (fun _ => rfl)⟩, ?_⟩
                      (conv => whnf)
                      refine ⟨⟨by simp, closed_mapA _ _ (fun _ => rfl)⟩, ?_⟩
                      (conv => whnf)
                      rfl
theorem map_tok (l : List Tok) (i : Nat) (h : i < l.length) : ((kts l).take (i + 1)).map ren = ((kts l).take i).map ren ++ [ren (l[i].kind, l[i].text)] := by
  rw [kts_succ l i h, List.map_append]; rfl
theorem spc_snoc (t : KT) : ∀ xs : List KT, spc (xs ++ [t]) = spc xs ++ (srcT t.1 t.2 ++ [32])
  | [] => by simp [spc]
  | x :: xs => by simp [spc, spc_snoc t xs]
theorem spc_len : ∀ xs : List KT, (∀ t ∈ xs, t.2.length ≤ 8001) → (spc xs).length ≤ xs.length * 8100
  | [], _ => by simp [spc]
  | t :: xs, h => by
    have h1 := spc_len xs fun x hx => h x (List.mem_cons_of_mem _ hx)
    have h2 := srcT_len t.1 t.2
    have h3 := h t (List.mem_cons_self ..)
    simp only [spc, List.length_append, List.length_cons]
    omega
theorem ren_len (t : KT) (h : t.2.length ≤ 8000) : (ren t).2.length ≤ 8001 := by
  unfold ren
  cases (decide (t.1 = 1) && isNameB t.2) with
  | true => simp [zz]; omega
  | false => simp; omega
set_option maxRecDepth 20000 in
set_option maxHeartbeats 4000000 in
theorem names_law (s : Bs) (hs : s.length ≤ 9223372036854775807) : Ctr Tryd.prog 7 [.str s] (fun r => r = .bool true) := by
  refine Ctr.lits ?_
  refine Ctr.of_body Tryd.func7 rfl tys_ok (by kernel_rfl) ?_
  conv => whnf
  repeat (first | refine ACode.seq ?_ | (refine ACode.s_reg tys_ok ?_; conv => whnf) | refine ACode.s_block ?_ | refine ACode.s_scope ?_ | (refine ACode.s_cond ?_; conv => whnf) | (refine ACode.s_exit ?_; conv => whnf) | (refine ACode.s_ret ?_; conv => whnf) | (refine ACode.s_skip ?_; conv => whnf) | (refine ACode.s_label ?_; conv => whnf))
  refine ACall.of_spec (head_spec) rfl fun r hr => ?_
  subst hr
  conv => whnf
  repeat (first | refine ACode.seq ?_ | (refine ACode.s_reg tys_ok ?_; conv => whnf) | refine ACode.s_block ?_ | refine ACode.s_scope ?_ | (refine ACode.s_cond ?_; conv => whnf) | (refine ACode.s_exit ?_; conv => whnf) | (refine ACode.s_ret ?_; conv => whnf) | (refine ACode.s_skip ?_; conv => whnf) | (refine ACode.s_label ?_; conv => whnf))
  have hp := parse_post s
  cases hR : parseP s with
  | err e p =>
    rw [hR] at hp
    obtain ⟨h1, h2⟩ := hp
    have hne : ¬ e = 0 := by rcases h2 with rfl | rfl | rfl | rfl | rfl <;> decide
    refine ACall.of_spec (parse_x hs hR) rfl fun r hr => ?_
    subst hr
    conv => whnf
    repeat (first | refine ACode.seq ?_ | (refine ACode.s_reg tys_ok ?_; conv => whnf) | refine ACode.s_block ?_ | refine ACode.s_scope ?_ | (refine ACode.s_cond ?_; conv => whnf) | (refine ACode.s_exit ?_; conv => whnf) | (refine ACode.s_ret ?_; conv => whnf) | (refine ACode.s_skip ?_; conv => whnf) | (refine ACode.s_label ?_; conv => whnf))
    by_cases h8 : s.length ≤ 8000
    all_goals
      repeat (first | (refine no_br ?_ (fun _ => ?_); (focus (simp; omega; done)); conv => whnf) | (refine yes_br ?_ (fun _ => ?_); (focus (simp; omega; done)); conv => whnf) | (refine yes_br ?_ (fun _ => ?_); (focus (simp [hne]; done)); conv => whnf) | (refine no_br ?_ (fun _ => ?_); (focus (simp [hne]; done)); conv => whnf) | refine ACode.seq ?_ | (refine ACode.s_reg tys_ok ?_; conv => whnf) | refine ACode.s_block ?_ | refine ACode.s_scope ?_ | (refine ACode.s_cond ?_; conv => whnf) | (refine ACode.s_exit ?_; conv => whnf) | (refine ACode.s_ret ?_; conv => whnf) | (refine ACode.s_skip ?_; conv => whnf) | (refine ACode.s_label ?_; conv => whnf))
      exact .inr rfl
  | ok n =>
    rw [hR] at hp
    obtain ⟨hn, h8⟩ := hp
    obtain ⟨hsml, _⟩ := parse_sml hR
    refine ACall.of_spec (parse_x hs hR) rfl fun r hr => ?_
    subst hr
    conv => whnf
    repeat (first | refine ACode.seq ?_ | (refine ACode.s_reg tys_ok ?_; conv => whnf) | refine ACode.s_block ?_ | refine ACode.s_scope ?_ | (refine ACode.s_cond ?_; conv => whnf) | (refine ACode.s_exit ?_; conv => whnf) | (refine ACode.s_ret ?_; conv => whnf) | (refine ACode.s_skip ?_; conv => whnf) | (refine ACode.s_label ?_; conv => whnf))
    cases hL : lexP s with
    | err e2 p2 =>
      exfalso
      unfold parseP at hR; rw [hL] at hR; cases hR
    | ok l =>
      obtain ⟨ht, _, _⟩ := lexP_ok hL
      have hl3 := ht.len
      have htx : ∀ t ∈ l, t.text.length ≤ 8000 := fun t q => (ht.tok t q).1
      have hK : (kts l).length = l.length := by simp [kts]
      have hS : ∀ i, (spc (((kts l).take i).map ren)).length ≤ 24300000 := fun i => by
        have := spc_len (((kts l).take i).map ren) fun t q => by
          obtain ⟨x, hx, rfl⟩ := List.mem_map.1 q
          obtain ⟨y, hy, rfl⟩ := List.mem_map.1 (List.mem_of_mem_take hx)
          exact ren_len _ (htx y hy)
        simp only [List.length_map, List.length_take] at this
        omega
      repeat (first | (refine no_br ?_ (fun _ => ?_); (focus (simp; omega; done)); conv => whnf) | (refine yes_br ?_ (fun _ => ?_); (focus (simp; omega; done)); conv => whnf) | (refine no_br ?_ (fun _ => ?_); (focus (simp; done)); conv => whnf) | (refine yes_br ?_ (fun _ => ?_); (focus (simp; done)); conv => whnf) | refine ACode.seq ?_ | (refine ACode.s_reg tys_ok ?_; conv => whnf) | refine ACode.s_block ?_ | refine ACode.s_scope ?_ | (refine ACode.s_cond ?_; conv => whnf) | (refine ACode.s_exit ?_; conv => whnf) | (refine ACode.s_ret ?_; conv => whnf) | (refine ACode.s_skip ?_; conv => whnf) | (refine ACode.s_label ?_; conv => whnf))
      refine ACall.of_spec (rlex_at hs hL) rfl fun r hr => ?_
      subst hr
      conv => whnf
      repeat (first | refine ACode.seq ?_ | (refine ACode.s_reg tys_ok ?_; conv => whnf) | refine ACode.s_block ?_ | refine ACode.s_scope ?_ | (refine ACode.s_cond ?_; conv => whnf) | (refine ACode.s_exit ?_; conv => whnf) | (refine ACode.s_ret ?_; conv => whnf) | (refine ACode.s_skip ?_; conv => whnf) | (refine ACode.s_label ?_; conv => whnf))
      refine ACode.loopD (fun i : Nat => mk 89 [(0, .str s), (3, .bool true), (4, .ptr 0 0), (7, .sl 3 (toksA l)), (10, .str (spc (((kts l).take i).map ren))), (11, .int .i64 i)]) (fun i => [.cells [.sl 3 (n.cals.map calA), .sl 1 (strs n.names), .sl 1 (n.opers.map operA), .sl 7 (n.offs.map offA), .sl 6 (n.lins.map linA), .sl 3 (n.clss.map clsA)]])
        (fun i => i ≤ l.length ∧ ∀ (j : Nat) (hj : j < l.length), j < i → l[j].kind = 1 → isNameB l[j].text = true → isNameB (zz l[j].text) = true) (fun i => l.length - i) (fun i hi => ⟨rfl, rfl, trivial⟩) ⟨0, ?_⟩ (fun _ => rfl) fun i hi => ?_
      · conv => whnf
        repeat (refine And.intro ?_ ?_; (focus (first | rfl | (simp; done))); conv => whnf)
        exact fun j hj q => absurd q (by omega)
      · obtain ⟨hi, hz⟩ := hi
        repeat (first | refine ACode.seq ?_ | (refine ACode.s_reg tys_ok ?_; conv => whnf) | refine ACode.s_block ?_ | refine ACode.s_scope ?_ | (refine ACode.s_cond ?_; conv => whnf) | (refine ACode.s_exit ?_; conv => whnf) | (refine ACode.s_ret ?_; conv => whnf) | (refine ACode.s_skip ?_; conv => whnf) | (refine ACode.s_label ?_; conv => whnf))
        refine ⟨fun h => ?_, fun h => ?_⟩
        · have h : i < l.length := by simp at h; omega
          have hm := map_tok l i h
          have hs1 := spc_snoc (ren (l[i].kind, l[i].text)) (((kts l).take i).map ren)
          rw [← hm] at hs1
          have hSi := hS i
          have hSi1 := hS (i + 1)
          rw [hs1] at hSi1
          simp only [List.length_append] at hSi1
          have htl := htx _ (List.getElem_mem h)
          generalize hS0 : spc (((kts l).take i).map ren) = S at *
          repeat (first | refine ACode.seq ?_ | (refine ACode.s_reg tys_ok ?_; conv => whnf) | refine ACode.s_block ?_ | refine ACode.s_scope ?_ | (refine ACode.s_cond ?_; conv => whnf) | (refine ACode.s_exit ?_; conv => whnf) | (refine ACode.s_ret ?_; conv => whnf) | (refine ACode.s_skip ?_; conv => whnf) | (refine ACode.s_label ?_; conv => whnf))
          repeat (first | (refine ⟨by omega, tokA l[i], (by exact toks_get l i h), ?_⟩; conv => whnf) | (refine ACall.of_spec (source_t l[i] htl) rfl fun r hr => ?_; subst hr; conv => whnf) | refine ACode.seq ?_ | (refine ACode.s_reg tys_ok ?_; conv => whnf) | refine ACode.s_block ?_ | refine ACode.s_scope ?_ | (refine ACode.s_cond ?_; conv => whnf) | (refine ACode.s_exit ?_; conv => whnf) | (refine ACode.s_ret ?_; conv => whnf) | (refine ACode.s_skip ?_; conv => whnf) | (refine ACode.s_label ?_; conv => whnf))
          have hsl := srcT_len l[i].kind l[i].text
          have next : ren (l[i].kind, l[i].text) = (l[i].kind, l[i].text) → (l[i].kind = 1 → isNameB l[i].text = true → False) → ∀ (j : Nat) (hj : j < l.length), j < i + 1 → l[j].kind = 1 → isNameB l[j].text = true → isNameB (zz l[j].text) = true := fun _ q j hj hji q1 q2 => by
            by_cases c : j = i
            · subst c; exact absurd q2 (fun q2 => q q1 q2)
            · exact hz j hj (by omega) q1 q2
          by_cases hk : l[i].kind = 1
          · have es : srcT l[i].kind l[i].text = l[i].text := by unfold srcT; rw [hk]; rfl
            rw [es]
            repeat (first | (refine no_br ?_ (fun _ => ?_); (focus (simp [hk]; done)); conv => whnf) | (refine ACall.of_spec (rName_spec l[i].text (by omega)) rfl fun r hr => ?_; subst hr; conv => whnf) | refine ACode.seq ?_ | (refine ACode.s_reg tys_ok ?_; conv => whnf) | refine ACode.s_block ?_ | refine ACode.s_scope ?_ | (refine ACode.s_cond ?_; conv => whnf) | (refine ACode.s_exit ?_; conv => whnf) | (refine ACode.s_ret ?_; conv => whnf) | (refine ACode.s_skip ?_; conv => whnf) | (refine ACode.s_label ?_; conv => whnf))
            cases hnm : isNameB l[i].text with
            | true =>
              have hren : ren (l[i].kind, l[i].text) = (1, zz l[i].text) := by unfold ren; simp [hk, hnm]
              repeat (first | (refine no_br ?_ (fun _ => ?_); (focus (simp; done)); conv => whnf) | (refine yes_br ?_ (fun _ => ?_); (focus (simp; done)); conv => whnf) | refine ACode.seq ?_ | (refine ACode.s_reg tys_ok ?_; conv => whnf) | refine ACode.s_block ?_ | refine ACode.s_scope ?_ | (refine ACode.s_cond ?_; conv => whnf) | (refine ACode.s_exit ?_; conv => whnf) | (refine ACode.s_ret ?_; conv => whnf) | (refine ACode.s_skip ?_; conv => whnf) | (refine ACode.s_label ?_; conv => whnf))
              refine ⟨by simp; omega, ?_⟩
              conv => whnf
              have ezz : ((⟨#[122]⟩ : ByteArray).data.toList ++ l[i].text) = zz l[i].text := rfl
              rw [ezz]
              have hzl : (zz l[i].text).length = l[i].text.length + 1 := rfl
              repeat (first | refine ACode.seq ?_ | (refine ACode.s_reg tys_ok ?_; conv => whnf) | refine ACode.s_block ?_ | refine ACode.s_scope ?_ | (refine ACode.s_cond ?_; conv => whnf) | (refine ACode.s_exit ?_; conv => whnf) | (refine ACode.s_ret ?_; conv => whnf) | (refine ACode.s_skip ?_; conv => whnf) | (refine ACode.s_label ?_; conv => whnf))
              repeat (first | (refine ACall.of_spec (rName_spec (zz l[i].text) (by omega)) rfl fun r hr => ?_; subst hr; conv => whnf) | refine ACode.seq ?_ | (refine ACode.s_reg tys_ok ?_; conv => whnf) | refine ACode.s_block ?_ | refine ACode.s_scope ?_ | (refine ACode.s_cond ?_; conv => whnf) | (refine ACode.s_exit ?_; conv => whnf) | (refine ACode.s_ret ?_; conv => whnf) | (refine ACode.s_skip ?_; conv => whnf) | (refine ACode.s_label ?_; conv => whnf))
              cases hz2 : isNameB (zz l[i].text) with
              | false =>
                repeat (first | (refine no_br ?_ (fun _ => ?_); (focus (simp; done)); conv => whnf) | (refine yes_br ?_ (fun _ => ?_); (focus (simp; done)); conv => whnf) | refine ACode.seq ?_ | (refine ACode.s_reg tys_ok ?_; conv => whnf) | refine ACode.s_block ?_ | refine ACode.s_scope ?_ | (refine ACode.s_cond ?_; conv => whnf) | (refine ACode.s_exit ?_; conv => whnf) | (refine ACode.s_ret ?_; conv => whnf) | (refine ACode.s_skip ?_; conv => whnf) | (refine ACode.s_label ?_; conv => whnf))
                exact .inr rfl
              | true =>
                repeat (first | (refine no_br ?_ (fun _ => ?_); (focus (simp; done)); conv => whnf) | (refine yes_br ?_ (fun _ => ?_); (focus (simp; done)); conv => whnf) | refine ACode.seq ?_ | (refine ACode.s_reg tys_ok ?_; conv => whnf) | refine ACode.s_block ?_ | refine ACode.s_scope ?_ | (refine ACode.s_cond ?_; conv => whnf) | (refine ACode.s_exit ?_; conv => whnf) | (refine ACode.s_ret ?_; conv => whnf) | (refine ACode.s_skip ?_; conv => whnf) | (refine ACode.s_label ?_; conv => whnf))
                rw [hren] at hs1 hSi1
                simp only [show srcT 1 (zz l[i].text) = zz l[i].text from rfl] at hs1 hSi1
                refine ⟨by omega, ?_⟩
                conv => whnf
                repeat (first | refine ACode.seq ?_ | (refine ACode.s_reg tys_ok ?_; conv => whnf) | refine ACode.s_block ?_ | refine ACode.s_scope ?_ | (refine ACode.s_cond ?_; conv => whnf) | (refine ACode.s_exit ?_; conv => whnf) | (refine ACode.s_ret ?_; conv => whnf) | (refine ACode.s_skip ?_; conv => whnf) | (refine ACode.s_label ?_; conv => whnf))
                refine ⟨by simp; omega, ?_⟩
                conv => whnf
                repeat (first | refine ACode.seq ?_ | (refine ACode.s_reg tys_ok ?_; conv => whnf) | refine ACode.s_block ?_ | refine ACode.s_scope ?_ | (refine ACode.s_cond ?_; conv => whnf) | (refine ACode.s_exit ?_; conv => whnf) | (refine ACode.s_ret ?_; conv => whnf) | (refine ACode.s_skip ?_; conv => whnf) | (refine ACode.s_label ?_; conv => whnf))
                refine ⟨i + 1, ?_⟩
                conv => whnf
                repeat (refine And.intro ?_ ?_; (focus (first | rfl | (simp; done) | (first | (rw [Wr64 _ (by omega) (by omega)]; omega) | (rw [hs1]; simp [List.append_assoc]; done); done))); conv => whnf)
                refine ⟨⟨by omega, fun j hj hji q1 q2 => ?_⟩, by omega⟩
                by_cases c : j = i
                · subst c; exact hz2
                · exact hz j hj (by omega) q1 q2
            | false =>
              have hren : ren (l[i].kind, l[i].text) = (l[i].kind, l[i].text) := by unfold ren; simp [hnm]
              repeat (first | (refine no_br ?_ (fun _ => ?_); (focus (simp; done)); conv => whnf) | (refine yes_br ?_ (fun _ => ?_); (focus (simp; done)); conv => whnf) | refine ACode.seq ?_ | (refine ACode.s_reg tys_ok ?_; conv => whnf) | refine ACode.s_block ?_ | refine ACode.s_scope ?_ | (refine ACode.s_cond ?_; conv => whnf) | (refine ACode.s_exit ?_; conv => whnf) | (refine ACode.s_ret ?_; conv => whnf) | (refine ACode.s_skip ?_; conv => whnf) | (refine ACode.s_label ?_; conv => whnf))
              rw [hren] at hs1 hSi1
              simp only [es] at hs1 hSi1
              refine ⟨by omega, ?_⟩
              conv => whnf
              repeat (first | refine ACode.seq ?_ | (refine ACode.s_reg tys_ok ?_; conv => whnf) | refine ACode.s_block ?_ | refine ACode.s_scope ?_ | (refine ACode.s_cond ?_; conv => whnf) | (refine ACode.s_exit ?_; conv => whnf) | (refine ACode.s_ret ?_; conv => whnf) | (refine ACode.s_skip ?_; conv => whnf) | (refine ACode.s_label ?_; conv => whnf))
              refine ⟨by simp; omega, ?_⟩
              conv => whnf
              repeat (first | refine ACode.seq ?_ | (refine ACode.s_reg tys_ok ?_; conv => whnf) | refine ACode.s_block ?_ | refine ACode.s_scope ?_ | (refine ACode.s_cond ?_; conv => whnf) | (refine ACode.s_exit ?_; conv => whnf) | (refine ACode.s_ret ?_; conv => whnf) | (refine ACode.s_skip ?_; conv => whnf) | (refine ACode.s_label ?_; conv => whnf))
              refine ⟨i + 1, ?_⟩
              conv => whnf
              repeat (refine And.intro ?_ ?_; (focus (first | rfl | (simp; done) | (first | (rw [Wr64 _ (by omega) (by omega)]; omega) | (rw [hs1]; simp [List.append_assoc]; done); done))); conv => whnf)
              exact ⟨⟨by omega, next hren (by intro _ q; rw [hnm] at q; cases q)⟩, by omega⟩
          · have hren : ren (l[i].kind, l[i].text) = (l[i].kind, l[i].text) := by unfold ren; simp [hk]
            repeat (first | (refine no_br ?_ (fun _ => ?_); (focus (simp [hk]; done)); conv => whnf) | (refine yes_br ?_ (fun _ => ?_); (focus (simp [hk]; done)); conv => whnf) | refine ACode.seq ?_ | (refine ACode.s_reg tys_ok ?_; conv => whnf) | refine ACode.s_block ?_ | refine ACode.s_scope ?_ | (refine ACode.s_cond ?_; conv => whnf) | (refine ACode.s_exit ?_; conv => whnf) | (refine ACode.s_ret ?_; conv => whnf) | (refine ACode.s_skip ?_; conv => whnf) | (refine ACode.s_label ?_; conv => whnf))
            rw [hren] at hs1 hSi1
            simp only at hs1 hSi1
            refine ⟨by omega, ?_⟩
            conv => whnf
            repeat (first | refine ACode.seq ?_ | (refine ACode.s_reg tys_ok ?_; conv => whnf) | refine ACode.s_block ?_ | refine ACode.s_scope ?_ | (refine ACode.s_cond ?_; conv => whnf) | (refine ACode.s_exit ?_; conv => whnf) | (refine ACode.s_ret ?_; conv => whnf) | (refine ACode.s_skip ?_; conv => whnf) | (refine ACode.s_label ?_; conv => whnf))
            refine ⟨by simp; omega, ?_⟩
            conv => whnf
            repeat (first | refine ACode.seq ?_ | (refine ACode.s_reg tys_ok ?_; conv => whnf) | refine ACode.s_block ?_ | refine ACode.s_scope ?_ | (refine ACode.s_cond ?_; conv => whnf) | (refine ACode.s_exit ?_; conv => whnf) | (refine ACode.s_ret ?_; conv => whnf) | (refine ACode.s_skip ?_; conv => whnf) | (refine ACode.s_label ?_; conv => whnf))
            refine ⟨i + 1, ?_⟩
            conv => whnf
            repeat (refine And.intro ?_ ?_; (focus (first | rfl | (simp; done) | (first | (rw [Wr64 _ (by omega) (by omega)]; omega) | (rw [hs1]; simp [List.append_assoc]; done); done))); conv => whnf)
            exact ⟨⟨by omega, next hren (by intro q _; exact hk q)⟩, by omega⟩
        · have h : i = l.length := by simp at h; omega
          subst h
          have e1 : (kts l).take l.length = kts l := by rw [← hK, List.take_length]
          rw [e1] at *
          repeat (first | refine ACode.seq ?_ | (refine ACode.s_reg tys_ok ?_; conv => whnf) | refine ACode.s_block ?_ | refine ACode.s_scope ?_ | (refine ACode.s_cond ?_; conv => whnf) | (refine ACode.s_exit ?_; conv => whnf) | (refine ACode.s_ret ?_; conv => whnf) | (refine ACode.s_skip ?_; conv => whnf) | (refine ACode.s_label ?_; conv => whnf))
          by_cases h9 : (spc ((kts l).map ren)).length ≤ 8000
          · have hnp := names_parse hL hR (fun t ht => by
              obtain ⟨j, hj, rfl⟩ := List.mem_iff_getElem.1 ht
              exact hz j hj hj) h9
            have hb5 : (spc ((kts l).map ren)).length ≤ 9223372036854775807 := by omega
            have hrs := renamed_spec n hsml (fun x hx => name_len (hn.names.2 x hx)) (fun x hx => name_len (hn.opers x hx)) (fun x hx => name_len (hn.offs x hx).name) (fun x hx => name_len (hn.lins x hx).name) (fun x hx => name_len (hn.clss x hx).name)
            have hsm2 : Sml (renN n) := by
              obtain ⟨m1, m2, m3, m4, m5, m6, m7, m8⟩ := hsml
              refine ⟨by simpa [renN] using m1, by simpa [renN] using m2, by simpa [renN] using m3, by simpa [renN] using m4, by simpa [renN] using m5, by simpa [renN] using m6, m7, fun o ho => ?_⟩
              obtain ⟨x, hx, rfl⟩ := List.mem_map.1 ho
              exact m8 x hx
            repeat (first | (refine no_br ?_ (fun _ => ?_); (focus (simp; omega; done)); conv => whnf) | (refine yes_br ?_ (fun _ => ?_); (focus (simp; omega; done)); conv => whnf) | (refine ACall.of_spec (parse_x hb5 hnp) rfl fun r hr => ?_; subst hr; conv => whnf) | (refine ⟨_, ⟨parse_x hb5 hnp, rfl⟩, ?_⟩; conv => whnf) | (refine ACall.of_spec (hrs) rfl fun r hr => ?_; subst hr; conv => whnf) | (refine ⟨_, ⟨hrs, rfl⟩, ?_⟩; conv => whnf) | (refine ACall.of_spec (same_true hsm2) rfl fun r hr => ?_; subst hr; conv => whnf) | (refine ⟨_, ⟨same_true hsm2, rfl⟩, ?_⟩; conv => whnf) | (refine ACode.draw [] tys_ok (by kernel_rfl) (by kernel_rfl) ?_; conv => whnf) | (refine no_br ?_ (fun _ => ?_); (focus (simp; done)); conv => whnf) | (refine yes_br ?_ (fun _ => ?_); (focus (simp; done)); conv => whnf) | refine ACode.seq ?_ | (refine ACode.s_reg tys_ok ?_; conv => whnf) | refine ACode.s_block ?_ | refine ACode.s_scope ?_ | (refine ACode.s_cond ?_; conv => whnf) | (refine ACode.s_exit ?_; conv => whnf) | (refine ACode.s_ret ?_; conv => whnf) | (refine ACode.s_skip ?_; conv => whnf) | (refine ACode.s_label ?_; conv => whnf))
            exact .inr rfl
          · repeat (first | (refine no_br ?_ (fun _ => ?_); (focus (simp; omega; done)); conv => whnf) | (refine yes_br ?_ (fun _ => ?_); (focus (simp; omega; done)); conv => whnf) | refine ACode.seq ?_ | (refine ACode.s_reg tys_ok ?_; conv => whnf) | refine ACode.s_block ?_ | refine ACode.s_scope ?_ | (refine ACode.s_cond ?_; conv => whnf) | (refine ACode.s_exit ?_; conv => whnf) | (refine ACode.s_ret ?_; conv => whnf) | (refine ACode.s_skip ?_; conv => whnf) | (refine ACode.s_label ?_; conv => whnf))
            exact .inr rfl
end Go.Proofs.YtmhlneeboefkgaaDoor
