/-
  slices.CompactFunc.
-/
import Derived.Test.YtiojkoaefabjbaaGreatDoorF5
import Derived.Test.YtiojkoaefabjbaaGreatDoorP5
set_option linter.unusedVariables false
set_option linter.unusedSimpArgs false
namespace Go.Proofs.YtiojkoaefabjbaaGreatDoor
open Go.Av Go.Shelf Pl Go.RowKit
theorem eq_spec (a b : Rc) (ha : a.co.length ≤ 100000) : Ctr Tryz.prog 40 [a.v, b.v] (fun r => r = .bool (decide (cmpR a b = 0))) := by
  refine Ctr.of_body Tryz.func40 rfl tys_ok (by kernel_rfl) ?_
  conv => whnf
  repeat (first | refine ACode.seq ?_ | (refine ACode.s_reg tys_ok ?_; conv => whnf) | refine ACode.s_block ?_ | refine ACode.s_scope ?_ | (refine ACode.s_cond ?_; conv => whnf) | (refine ACode.s_exit ?_; conv => whnf) | (refine ACode.s_ret ?_; conv => whnf) | (refine ACode.s_skip ?_; conv => whnf) | (refine ACode.s_label ?_; conv => whnf))
  repeat (first | (refine ACall.of_spec (compare_spec a b ha) rfl fun r hr => ?_; subst hr; conv => whnf) | refine ACode.seq ?_ | (refine ACode.s_reg tys_ok ?_; conv => whnf) | refine ACode.s_block ?_ | refine ACode.s_scope ?_ | (refine ACode.s_cond ?_; conv => whnf) | (refine ACode.s_exit ?_; conv => whnf) | (refine ACode.s_ret ?_; conv => whnf) | (refine ACode.s_skip ?_; conv => whnf) | (refine ACode.s_label ?_; conv => whnf))
abbrev eT := 28
def CompPost (l : List Rc) (r : AV) (H1 : List HO) : Prop := ∃ z, r = .own 0 6 0 (compactC cmpR l).length ∧ H1 = [.arr eT 6 (rv (compactC cmpR l) ++ z)]
theorem rv_get (l : List Rc) (i : Nat) (h : i < l.length) : (rv l)[i]? = some l[i].v := by simp [rv, h]
theorem hpreK_app {Q : Prop} (q : Q) (R : List HO) : ∀ xs : List HO, hpreK (xs ++ R) xs Q
  | [] => by cases R <;> exact q
  | x :: xs => ⟨rfl, hpreK_app q R xs⟩
theorem rv_okd (l : List Rc) (n : Nat) {e : Go.TypeId} {H : List HO} : objsOK H ([.arr e 6 (rv l)] ++ List.replicate n .dead) True := by
  refine ⟨rv_closed l, ?_⟩
  induction n with
  | zero => trivial
  | succ n ih => exact ih
set_option maxRecDepth 100000 in
theorem compactF_spec (l : List Rc) (hl : l.length ≤ 100000) (hx : ∀ r ∈ l, RcOK r) : HCtr Tryz.prog 39 [.own 0 6 0 l.length, .fn 40 []] [.arr eT 6 (rv l)]
    (CompPost l) (fun _ _ => False) := by
  refine HCtr.of_body Tryz.func39 rfl tys_ok (by kernel_rfl) rfl ?_
  conv => whnf
  repeat (first | refine ACode.seq ?_ | (refine ACode.s_reg tys_ok ?_; conv => whnf) | refine ACode.s_block ?_ | refine ACode.s_scope ?_ | (refine ACode.s_cond ?_; conv => whnf) | (refine ACode.s_exit ?_; conv => whnf) | (refine ACode.s_ret ?_; conv => whnf) | (refine ACode.s_skip ?_; conv => whnf) | (refine ACode.s_label ?_; conv => whnf))
  refine ⟨fun h => ?_, fun h => ?_⟩
  · have h : l.length < 2 := by simp at h; omega
    conv => whnf
    repeat (first | refine ACode.seq ?_ | (refine ACode.s_reg tys_ok ?_; conv => whnf) | refine ACode.s_block ?_ | refine ACode.s_scope ?_ | (refine ACode.s_cond ?_; conv => whnf) | (refine ACode.s_exit ?_; conv => whnf) | (refine ACode.s_ret ?_; conv => whnf) | (refine ACode.s_skip ?_; conv => whnf) | (refine ACode.s_label ?_; conv => whnf))
    refine ⟨rv_closed _, ?_⟩
    conv => whnf
    have e : compactC cmpR l = l := by
      match l, h with
      | [], _ => simp [compactC]
      | [x], _ => simp [compactC]
    exact ⟨[], by rw [e], by rw [e]; simp⟩
  · have h : 2 ≤ l.length := by simp at h; omega
    conv => whnf
    repeat (first | refine ACode.seq ?_ | (refine ACode.s_reg tys_ok ?_; conv => whnf) | refine ACode.s_block ?_ | refine ACode.s_scope ?_ | (refine ACode.s_cond ?_; conv => whnf) | (refine ACode.s_exit ?_; conv => whnf) | (refine ACode.s_ret ?_; conv => whnf) | (refine ACode.s_skip ?_; conv => whnf) | (refine ACode.s_label ?_; conv => whnf))
    refine ACode.loopD (fun k : Nat => mk 66 [(0, .own 0 6 0 l.length), (1, .fn 40 []), (5, .int .i64 k)]) (fun _ => [.arr eT 6 (rv l)]) (fun k => CmpS0 l k) (fun k => l.length - k) (fun _ _ => ⟨rfl, rv_ok _⟩) ⟨1, ?_⟩ (fun _ => rfl) fun k hk => ?_
    · conv => whnf
      repeat (refine And.intro ?_ ?_; (focus (first | rfl | (simp; done))); conv => whnf)
      exact cmpS0_start (by omega)
    · repeat (first | refine ACode.seq ?_ | (refine ACode.s_reg tys_ok ?_; conv => whnf) | refine ACode.s_block ?_ | refine ACode.s_scope ?_ | (refine ACode.s_cond ?_; conv => whnf) | (refine ACode.s_exit ?_; conv => whnf) | (refine ACode.s_ret ?_; conv => whnf) | (refine ACode.s_skip ?_; conv => whnf) | (refine ACode.s_label ?_; conv => whnf))
      refine ⟨fun h3 => ?_, fun h3 => ?_⟩
      · have h3 : k < l.length := by simpa using h3
        obtain ⟨m, rfl⟩ : ∃ m, k = m + 1 := ⟨k - 1, by have := hk.k1; omega⟩
        conv => whnf
        repeat (first | refine ACode.seq ?_ | (refine ACode.s_reg tys_ok ?_; conv => whnf) | refine ACode.s_block ?_ | refine ACode.s_scope ?_ | (refine ACode.s_cond ?_; conv => whnf) | (refine ACode.s_exit ?_; conv => whnf) | (refine ACode.s_ret ?_; conv => whnf) | (refine ACode.s_skip ?_; conv => whnf) | (refine ACode.s_label ?_; conv => whnf))
        refine ACode.draw [] tys_ok (by kernel_rfl) (by kernel_rfl) ?_
        conv => whnf
        refine ⟨by omega, ?_⟩
        conv => whnf
        refine ⟨_, by rw [Nat.zero_add, Int.toNat_natCast]; exact rv_get l (m + 1) h3, ?_⟩
        conv => whnf
        rw [Wr64 _ (by omega) (by omega)]
        refine ⟨by omega, ?_⟩
        conv => whnf
        refine ⟨_, by rw [Nat.zero_add, show ((m + 1 : Nat) - 1 : Int).toNat = m by omega]; exact rv_get l m (by omega), ?_⟩
        conv => whnf
        refine ⟨_, ⟨eq_spec l[m + 1] l[m] ((hx _ (List.getElem_mem h3)).co), rfl⟩, ?_⟩
        conv => whnf
        refine ⟨fun h4 => ?_, fun h4 => ?_⟩
        · have h4 : cmpR l[m + 1] l[m] = 0 := by simpa using h4
          have hs := cmpS0_eq hk h3 h4
          conv => whnf
          repeat (first | refine ACode.seq ?_ | (refine ACode.s_reg tys_ok ?_; conv => whnf) | refine ACode.s_block ?_ | refine ACode.s_scope ?_ | (refine ACode.s_cond ?_; conv => whnf) | (refine ACode.s_exit ?_; conv => whnf) | (refine ACode.s_ret ?_; conv => whnf) | (refine ACode.s_skip ?_; conv => whnf) | (refine ACode.s_label ?_; conv => whnf))
          refine ⟨by omega, ?_⟩
          rw [show 0 + ((m + 1 : Nat) : Int).toNat = m + 1 by omega, show ((l.length : Nat) : Int).toNat - ((m + 1 : Nat) : Int).toNat = l.length - (m + 1) by omega]
          conv => whnf
          repeat (first | refine ACode.seq ?_ | (refine ACode.s_reg tys_ok ?_; conv => whnf) | refine ACode.s_block ?_ | refine ACode.s_scope ?_ | (refine ACode.s_cond ?_; conv => whnf) | (refine ACode.s_exit ?_; conv => whnf) | (refine ACode.s_ret ?_; conv => whnf) | (refine ACode.s_skip ?_; conv => whnf) | (refine ACode.s_label ?_; conv => whnf))
          refine ACode.loopD (fun s : Nat × List Rc × List Rc => mk 66 [(0, .own 0 6 0 l.length), (1, .fn 40 []), (5, .int .i64 s.2.1.length), (6, .own 0 6 (m + 1) (l.length - (m + 1))), (7, .int .i64 (s.1 + 1 : Nat))]) (fun s => [.arr eT 6 (rv (arrC l s.2.1 s.2.2 (m + 1 + s.1)))] ++ List.replicate 11 .dead) (fun s => CmpSt l s.2.1 s.2.2 (m + 1 + s.1)) (fun s => l.length - s.1) (fun _ _ => ⟨rfl, rv_okd _ 11⟩) ⟨(0, l.take (m + 1), []), ?_⟩ (fun _ => rfl) fun ⟨j, kept, g⟩ hc => ?_
          · conv => whnf
            repeat (refine And.intro ?_ ?_; (focus (first | rfl | (simp; done) | (first | (simp; done) | (simp; omega); done))); conv => whnf)
            refine ⟨?_, hs⟩
            show [HO.arr eT 6 (rv l)] ++ _ = [HO.arr eT 6 (rv (l.take (m + 1) ++ [] ++ l.drop (m + 1)))] ++ _
            rw [List.append_nil, List.take_append_drop]
            rfl
          · simp only at hc
            repeat (first | refine ACode.seq ?_ | (refine ACode.s_reg tys_ok ?_; conv => whnf) | refine ACode.s_block ?_ | refine ACode.s_scope ?_ | (refine ACode.s_cond ?_; conv => whnf) | (refine ACode.s_exit ?_; conv => whnf) | (refine ACode.s_ret ?_; conv => whnf) | (refine ACode.s_skip ?_; conv => whnf) | (refine ACode.s_label ?_; conv => whnf))
            refine ⟨fun h5 => ?_, fun h5 => ?_⟩
            · have h5 : j + 1 < l.length - (m + 1) := by simp at h5; omega
              conv => whnf
              repeat (first | refine ACode.seq ?_ | (refine ACode.s_reg tys_ok ?_; conv => whnf) | refine ACode.s_block ?_ | refine ACode.s_scope ?_ | (refine ACode.s_cond ?_; conv => whnf) | (refine ACode.s_exit ?_; conv => whnf) | (refine ACode.s_ret ?_; conv => whnf) | (refine ACode.s_skip ?_; conv => whnf) | (refine ACode.s_label ?_; conv => whnf))
              refine ACode.draw [] tys_ok (by kernel_rfl) (by kernel_rfl) ?_
              conv => whnf
              refine ⟨by omega, ?_⟩
              conv => whnf
              refine ⟨_, by rw [show m + 1 + ((j + 1 : Nat) : Int).toNat = m + 1 + j + 1 by omega]; exact arrC_get hc _ (by omega) (by omega), ?_⟩
              conv => whnf
              rw [Wr64 _ (by omega) (by omega)]
              refine ⟨by omega, ?_⟩
              conv => whnf
              refine ⟨_, by rw [show m + 1 + (((j + 1 : Nat) : Int) - 1).toNat = m + 1 + j by omega]; exact arrC_get hc _ (by omega) (by omega), ?_⟩
              conv => whnf
              refine ⟨_, ⟨eq_spec l[m + 1 + j + 1] l[m + 1 + j] ((hx _ (List.getElem_mem (by omega))).co), rfl⟩, ?_⟩
              conv => whnf
              refine ⟨fun h6 => ?_, fun h6 => ?_⟩
              · have h6 : cmpR l[m + 1 + j + 1] l[m + 1 + j] = 0 := by simpa using h6
                conv => whnf
                repeat (first | refine ACode.seq ?_ | (refine ACode.s_reg tys_ok ?_; conv => whnf) | refine ACode.s_block ?_ | refine ACode.s_scope ?_ | (refine ACode.s_cond ?_; conv => whnf) | (refine ACode.s_exit ?_; conv => whnf) | (refine ACode.s_ret ?_; conv => whnf) | (refine ACode.s_skip ?_; conv => whnf) | (refine ACode.s_label ?_; conv => whnf))
                refine ⟨(j + 1, kept, g ++ [l[m + 1 + j]]), ?_⟩
                conv => whnf
                repeat (refine And.intro ?_ ?_; (focus (first | rfl | (simp; done) | (first | (rw [Wr64 _ (by omega) (by omega)]; done) | (rw [Wr64 _ (by omega) (by omega)]; rfl); done))); conv => whnf)
                obtain ⟨c1, c2⟩ := cmpSt_eq hc (by omega) h6
                refine ⟨?_, hpreK_app ⟨c1, by simp only; omega⟩ _ (List.replicate 11 .dead)⟩
                show HO.arr eT 6 (rv (arrC l kept g (m + 1 + j))) = HO.arr eT 6 (rv (arrC l kept (g ++ [l[m + 1 + j]]) (m + 1 + j + 1)))
                rw [c2]
              · have h6 : ¬ cmpR l[m + 1 + j + 1] l[m + 1 + j] = 0 := by simpa using h6
                have hkl := hc.len
                conv => whnf
                repeat (first | refine ACode.seq ?_ | (refine ACode.s_reg tys_ok ?_; conv => whnf) | refine ACode.s_block ?_ | refine ACode.s_scope ?_ | (refine ACode.s_cond ?_; conv => whnf) | (refine ACode.s_exit ?_; conv => whnf) | (refine ACode.s_ret ?_; conv => whnf) | (refine ACode.s_skip ?_; conv => whnf) | (refine ACode.s_label ?_; conv => whnf))
                refine ⟨by omega, ?_⟩
                conv => whnf
                refine ⟨_, by rw [show m + 1 + ((j + 1 : Nat) : Int).toNat = m + 1 + j + 1 by omega]; exact arrC_get hc _ (by omega) (by omega), ?_⟩
                conv => whnf
                repeat (first | refine ACode.seq ?_ | (refine ACode.s_reg tys_ok ?_; conv => whnf) | refine ACode.s_block ?_ | refine ACode.s_scope ?_ | (refine ACode.s_cond ?_; conv => whnf) | (refine ACode.s_exit ?_; conv => whnf) | (refine ACode.s_ret ?_; conv => whnf) | (refine ACode.s_skip ?_; conv => whnf) | (refine ACode.s_label ?_; conv => whnf))
                refine ⟨by simp only; omega, ?_⟩
                conv => whnf
                refine ⟨_, by simp only; rw [Nat.zero_add, Int.toNat_natCast]; exact rv_get _ kept.length (by rw [arrC_len hc]; omega), ?_⟩
                conv => whnf
                repeat (first | refine ACode.seq ?_ | (refine ACode.s_reg tys_ok ?_; conv => whnf) | refine ACode.s_block ?_ | refine ACode.s_scope ?_ | (refine ACode.s_cond ?_; conv => whnf) | (refine ACode.s_exit ?_; conv => whnf) | (refine ACode.s_ret ?_; conv => whnf) | (refine ACode.s_skip ?_; conv => whnf) | (refine ACode.s_label ?_; conv => whnf))
                refine ⟨(j + 1, kept ++ [l[m + 1 + j + 1]], (g ++ [l[m + 1 + j]]).tail), ?_⟩
                conv => whnf
                repeat (refine And.intro ?_ ?_; (focus (first | rfl | (simp; done) | (first | (rw [Wr64 _ (by simp only; omega) (by simp only; omega)]; done) | (rw [Wr64 _ (by simp only; omega) (by simp only; omega)]; simp; done) | (rw [Wr64 _ (by simp only; omega) (by simp only; omega)]; rfl); done))); conv => whnf)
                obtain ⟨c1, c2⟩ := cmpSt_ne hc (by omega) h6
                refine ⟨?_, hpreK_app ⟨c1, by simp only; omega⟩ _ (List.replicate 11 .dead)⟩
                simp only [Nat.zero_add, Int.toNat_natCast]
                show _ = HO.arr eT 6 (rv (arrC l (kept ++ [l[m + 1 + j + 1]]) ((g ++ [l[m + 1 + j]]).tail) (m + 1 + j + 1)))
                rw [c2]
                rfl
            · have h5 : l.length - (m + 1) ≤ j + 1 := by simp at h5; omega
              have hkl := hc.len
              have hlt := hc.lt
              conv => whnf
              repeat (first | refine ACode.seq ?_ | (refine ACode.s_reg tys_ok ?_; conv => whnf) | refine ACode.s_block ?_ | refine ACode.s_scope ?_ | (refine ACode.s_cond ?_; conv => whnf) | (refine ACode.s_exit ?_; conv => whnf) | (refine ACode.s_ret ?_; conv => whnf) | (refine ACode.s_skip ?_; conv => whnf) | (refine ACode.s_label ?_; conv => whnf))
              refine ⟨by simp only; omega, ?_⟩
              conv => whnf
              repeat (first | refine ACode.seq ?_ | (refine ACode.s_reg tys_ok ?_; conv => whnf) | refine ACode.s_block ?_ | refine ACode.s_scope ?_ | (refine ACode.s_cond ?_; conv => whnf) | (refine ACode.s_exit ?_; conv => whnf) | (refine ACode.s_ret ?_; conv => whnf) | (refine ACode.s_skip ?_; conv => whnf) | (refine ACode.s_label ?_; conv => whnf))
              refine ⟨by simp only; omega, ?_⟩
              conv => whnf
              repeat (first | refine ACode.seq ?_ | (refine ACode.s_reg tys_ok ?_; conv => whnf) | refine ACode.s_block ?_ | refine ACode.s_scope ?_ | (refine ACode.s_cond ?_; conv => whnf) | (refine ACode.s_exit ?_; conv => whnf) | (refine ACode.s_ret ?_; conv => whnf) | (refine ACode.s_skip ?_; conv => whnf) | (refine ACode.s_label ?_; conv => whnf))
              have hkept := cmpSt_end hc (by omega)
              have hcl : ∀ z : AV, clearL (rv (arrC l kept g (m + 1 + j))) (0 + (kept.length : Int).toNat) ((l.length : Int).toNat - (kept.length : Int).toNat) z = rv kept ++ List.replicate (l.length - kept.length) z := by
                intro z
                have hal := arrC_len hc
                unfold clearL
                rw [Nat.zero_add, Int.toNat_natCast, Int.toNat_natCast, List.drop_eq_nil_of_le (by simp [rv, hal]; omega), List.append_nil]
                congr 1
                simp [rv, arrC]
              refine ⟨?_, ?_⟩
              · show ∀ e ∈ clearL (rv (arrC l kept g (m + 1 + j))) (0 + (kept.length : Int).toNat) ((l.length : Int).toNat - (kept.length : Int).toNat) _, closed e = true
                rw [hcl]
                intro e he
                rcases List.mem_append.1 he with he | he
                · exact rv_closed _ e he
                · rw [List.eq_of_mem_replicate he]; rfl
              · conv => whnf
                rw [hkept]
                exact ⟨List.replicate (l.length - kept.length) _, rfl, congrArg (fun x => [HO.arr eT 6 x]) (hcl _)⟩
        · have h4 : ¬ cmpR l[m + 1] l[m] = 0 := by simpa using h4
          conv => whnf
          repeat (first | refine ACode.seq ?_ | (refine ACode.s_reg tys_ok ?_; conv => whnf) | refine ACode.s_block ?_ | refine ACode.s_scope ?_ | (refine ACode.s_cond ?_; conv => whnf) | (refine ACode.s_exit ?_; conv => whnf) | (refine ACode.s_ret ?_; conv => whnf) | (refine ACode.s_skip ?_; conv => whnf) | (refine ACode.s_label ?_; conv => whnf))
          refine ⟨m + 2, ?_⟩
          conv => whnf
          repeat (refine And.intro ?_ ?_; (focus (first | rfl | (simp; done) | (first | (rw [Wr64 _ (by omega) (by omega)]; done) | (rw [Wr64 _ (by omega) (by omega)]; rfl); done))); conv => whnf)
          exact ⟨cmpS0_ne hk h3 h4, by omega⟩
      · have h3 : ¬ k < l.length := by simpa using h3
        conv => whnf
        repeat (first | refine ACode.seq ?_ | (refine ACode.s_reg tys_ok ?_; conv => whnf) | refine ACode.s_block ?_ | refine ACode.s_scope ?_ | (refine ACode.s_cond ?_; conv => whnf) | (refine ACode.s_exit ?_; conv => whnf) | (refine ACode.s_ret ?_; conv => whnf) | (refine ACode.s_skip ?_; conv => whnf) | (refine ACode.s_label ?_; conv => whnf))
        refine ⟨rv_closed _, ?_⟩
        conv => whnf
        have e : compactC cmpR l = l := cmpS0_end hk (by have := hk.k2; omega)
        exact ⟨[], by rw [e], by rw [e]; simp⟩
end Go.Proofs.YtiojkoaefabjbaaGreatDoor
