/-
  The reference: Insert, Normal.
-/
import Derived.Test.YtiojkoaefabjbaaGreatDoorG9
import Derived.Test.YtiojkoaefabjbaaGreatDoorAv53
set_option linter.unusedVariables false
set_option linter.unusedSimpArgs false
namespace Go.Proofs.YtiojkoaefabjbaaGreatDoor
open Go.Av Go.Shelf Pl Go.RowKit
def InsR (l : List Rc) (r : Rc) (l' : List Rc) : Prop := ∃ k, k ≤ l.length ∧ (∀ x ∈ l.take k, cmpR x r = -1) ∧ ((∃ h : k < l.length, cmpR l[k] r = 0 ∧ l' = l) ∨ ((∀ h : k < l.length, cmpR l[k] r = 1) ∧ l' = l.take k ++ [r] ++ l.drop k))
theorem ins_strict {l l' : List Rc} {r : Rc} (hs : Strict cmpR l) (h : InsR l r l') : Strict cmpR l' ∧ ∀ y, y ∈ l' ↔ y ∈ l ∨ y = r := by
  obtain ⟨k, hk, hlt, ⟨hkl, h0, rfl⟩ | ⟨h1, rfl⟩⟩ := h
  · refine ⟨hs, fun y => ⟨.inl, fun hy => hy.elim id fun e => ?_⟩⟩
    rw [e, ← (cmpR_ok.eq0 _ _).1 h0]
    exact List.getElem_mem hkl
  · have hsp : Strict cmpR (l.take k ++ l.drop k) := by rw [List.take_append_drop]; exact hs
    unfold Strict at hsp ⊢
    rw [List.pairwise_append] at hsp
    obtain ⟨p1, p2, p3⟩ := hsp
    have hgt : ∀ y ∈ l.drop k, cmpR r y = -1 := by
      intro y hy
      by_cases hkl : k < l.length
      · have h1 := h1 hkl
        have h2 := cmpR_ok.anti l[k] r
        rw [List.drop_eq_getElem_cons hkl] at hy p2
        rcases List.mem_cons.1 hy with rfl | hy
        · omega
        · exact cmpR_ok.tr _ _ _ (by omega) ((List.pairwise_cons.1 p2).1 y hy)
      · rw [List.drop_eq_nil_of_le (by omega)] at hy
        cases hy
    refine ⟨?_, fun y => ?_⟩
    · rw [List.append_assoc, List.pairwise_append]
      refine ⟨p1, ?_, fun x hx y hy => ?_⟩
      · rw [List.singleton_append, List.pairwise_cons]
        exact ⟨hgt, p2⟩
      · rw [List.singleton_append] at hy
        rcases List.mem_cons.1 hy with rfl | hy
        · exact hlt x hx
        · exact p3 x hx y hy
    · conv => rhs; rw [← List.take_append_drop k l]
      simp only [List.mem_append, List.mem_singleton]
      constructor
      · rintro ((h | h) | h)
        · exact .inl (.inl h)
        · exact .inr h
        · exact .inl (.inr h)
      · rintro ((h | h) | h)
        · exact .inl (.inl h)
        · exact .inr h
        · exact .inl (.inr h)
set_option maxRecDepth 100000 in
theorem insert_rspec (l : List Rc) (r : Rc) (hl : l.length ≤ 1000) (hx : ∀ y ∈ l, RcOK y) : Ctr Tryz.prog 42 [rcs l, r.v] (fun x => ∃ l', x = rcs l' ∧ InsR l r l') := by
  refine Ctr.of_body Tryz.func42 rfl tys_ok (by kernel_rfl) ?_
  conv => whnf
  repeat (first | refine ACode.seq ?_ | (refine ACode.s_reg tys_ok ?_; conv => whnf) | refine ACode.s_block ?_ | refine ACode.s_scope ?_ | (refine ACode.s_cond ?_; conv => whnf) | (refine ACode.s_exit ?_; conv => whnf) | (refine ACode.s_ret ?_; conv => whnf) | (refine ACode.s_skip ?_; conv => whnf) | (refine ACode.s_label ?_; conv => whnf))
  refine ACode.loopD (fun k : Nat => mk 47 [(0, rcs l), (3, .ptr 0 0), (5, .int .i64 k)]) (fun _ => [.cells [.int .i64 r.sc, .int .i64 r.nu, .int .i64 r.ki, .int .i64 r.ti, .str r.la, .sl 1 (strs r.co)]]) (fun k => k ≤ l.length ∧ ∀ x ∈ l.take k, cmpR x r = -1) (fun k => l.length - k) (fun _ _ => ⟨rfl, rfl, trivial⟩) ⟨0, ?_⟩ (fun _ => rfl) fun k hk => ?_
  · conv => whnf
    repeat (refine And.intro ?_ ?_; (focus (first | rfl | (simp; done))); conv => whnf)
    simp
  · obtain ⟨hk, hlt⟩ := hk
    repeat (first | refine ACode.seq ?_ | (refine ACode.s_reg tys_ok ?_; conv => whnf) | refine ACode.s_block ?_ | refine ACode.s_scope ?_ | (refine ACode.s_cond ?_; conv => whnf) | (refine ACode.s_exit ?_; conv => whnf) | (refine ACode.s_ret ?_; conv => whnf) | (refine ACode.s_skip ?_; conv => whnf) | (refine ACode.s_label ?_; conv => whnf))
    refine ACode.draw [] tys_ok (by kernel_rfl) (by kernel_rfl) ?_
    conv => whnf
    refine ⟨fun h => ?_, fun h => ?_⟩
    · have h : k < l.length := by simpa using h
      have hxk := hx _ (List.getElem_mem h)
      have hrng := cmpR_ok.rng l[k] r
      conv => whnf
      refine ⟨by omega, _, rv_get l k h, ?_⟩
      conv => whnf
      refine ⟨_, ⟨rcompare_spec l[k] r hxk.co, rfl⟩, ?_⟩
      conv => whnf
      refine ⟨fun h2 => ?_, fun h2 => ?_⟩
      · have h2 : cmpR l[k] r = -1 := by simp at h2; omega
        conv => whnf
        repeat (first | refine ACode.seq ?_ | (refine ACode.s_reg tys_ok ?_; conv => whnf) | refine ACode.s_block ?_ | refine ACode.s_scope ?_ | (refine ACode.s_cond ?_; conv => whnf) | (refine ACode.s_exit ?_; conv => whnf) | (refine ACode.s_ret ?_; conv => whnf) | (refine ACode.s_skip ?_; conv => whnf) | (refine ACode.s_label ?_; conv => whnf))
        refine ⟨k + 1, ?_⟩
        conv => whnf
        repeat (refine And.intro ?_ ?_; (focus (first | rfl | (simp; done) | (first | (rw [Wr64 _ (by omega) (by omega)]; rfl); done))); conv => whnf)
        refine ⟨⟨by omega, fun x hxx => ?_⟩, by omega⟩
        rw [List.take_succ_eq_append_getElem h] at hxx
        rcases List.mem_append.1 hxx with hxx | hxx
        · exact hlt x hxx
        · rw [List.mem_singleton.1 hxx]; exact h2
      · have h2 : cmpR l[k] r ≠ -1 := by simp at h2; omega
        conv => whnf
        repeat (first | refine ACode.seq ?_ | (refine ACode.s_reg tys_ok ?_; conv => whnf) | refine ACode.s_block ?_ | refine ACode.s_scope ?_ | (refine ACode.s_cond ?_; conv => whnf) | (refine ACode.s_exit ?_; conv => whnf) | (refine ACode.s_ret ?_; conv => whnf) | (refine ACode.s_skip ?_; conv => whnf) | (refine ACode.s_label ?_; conv => whnf))
        refine ACode.draw [] tys_ok (by kernel_rfl) (by kernel_rfl) ?_
        conv => whnf
        refine ⟨fun _ => ?_, fun h3 => absurd h3 (by simp; omega)⟩
        conv => whnf
        refine ⟨by omega, _, rv_get l k h, ?_⟩
        conv => whnf
        refine ⟨_, ⟨rcompare_spec l[k] r hxk.co, rfl⟩, ?_⟩
        conv => whnf
        refine ⟨fun h3 => ?_, fun h3 => ?_⟩
        · have h3 : cmpR l[k] r = 0 := by simpa using h3
          conv => whnf
          repeat (first | refine ACode.seq ?_ | (refine ACode.s_reg tys_ok ?_; conv => whnf) | refine ACode.s_block ?_ | refine ACode.s_scope ?_ | (refine ACode.s_cond ?_; conv => whnf) | (refine ACode.s_exit ?_; conv => whnf) | (refine ACode.s_ret ?_; conv => whnf) | (refine ACode.s_skip ?_; conv => whnf) | (refine ACode.s_label ?_; conv => whnf))
          exact ⟨l, rfl, k, by omega, hlt, .inl ⟨h, h3, rfl⟩⟩
        · have h3 : cmpR l[k] r ≠ 0 := by simpa using h3
          conv => whnf
          repeat (first | refine ACode.seq ?_ | (refine ACode.s_reg tys_ok ?_; conv => whnf) | refine ACode.s_block ?_ | refine ACode.s_scope ?_ | (refine ACode.s_cond ?_; conv => whnf) | (refine ACode.s_exit ?_; conv => whnf) | (refine ACode.s_ret ?_; conv => whnf) | (refine ACode.s_skip ?_; conv => whnf) | (refine ACode.s_label ?_; conv => whnf))
          refine ACode.drawO [0, 1, 2, 3, 5, 6, 8, 9, 10, 4, 7, 11, 12] [6] [4, 7, 11] [3, 5, 6, 10] tys_ok (by kernel_rfl) (by kernel_rfl) ?_
          conv => whnf
          refine ⟨rfl, ?_⟩
          (conv => whnf)
          refine ⟨⟨by omega, by omega, by simp; omega⟩, ?_⟩
          (conv => whnf)
          refine ⟨⟨rfl, rfl⟩, ?_⟩
          (conv => whnf)
          refine ⟨rfl, ?_⟩
          conv => whnf
          refine ⟨⟨rfl, rfl⟩, ?_⟩
          conv => whnf
          refine ⟨rfl, ?_⟩
          conv => whnf
          refine ⟨⟨rfl, rfl⟩, ?_⟩
          conv => whnf
          refine ⟨rfl, ?_⟩
          (conv => whnf)
          refine ⟨⟨by omega, by simp; omega, by simp⟩, ?_⟩
          (conv => whnf)
          refine ⟨⟨rfl, rfl⟩, ?_⟩
          (conv => whnf)
          refine ⟨⟨rfl, by simp; omega⟩, ?_⟩
          rw [show [] ++ List.drop (Int.toNat 0) (List.take (k : Int).toNat (List.map Rc.v l)) = rv (l.take k) by simp [rv]]
          (conv => whnf)
          refine ⟨⟨rfl, by simp; omega⟩, ?_⟩
          rw [show rv (l.take k) ++ [AV.agg [.int .i64 r.sc, .int .i64 r.nu, .int .i64 r.ki, .int .i64 r.ti, .str r.la, .sl 1 (strs r.co)]] = rv (l.take k ++ [r]) by simp [rv, Rc.v]]
          (conv => whnf)
          refine ⟨⟨rfl, by simp; omega⟩, ?_⟩
          rw [show rv (l.take k ++ [r]) ++ List.drop (k : Int).toNat (List.take (((List.map Rc.v l).length : Nat) : Int).toNat (List.map Rc.v l)) = rv (l.take k ++ [r] ++ l.drop k) by rw [Int.toNat_natCast, Int.toNat_natCast, List.take_length]; simp [rv]]
          conv => whnf
          repeat (first | refine ACode.seq ?_ | (refine ACode.s_reg tys_ok ?_; conv => whnf) | refine ACode.s_block ?_ | refine ACode.s_scope ?_ | (refine ACode.s_cond ?_; conv => whnf) | (refine ACode.s_exit ?_; conv => whnf) | (refine ACode.s_ret ?_; conv => whnf) | (refine ACode.s_skip ?_; conv => whnf) | (refine ACode.s_label ?_; conv => whnf))
          refine ⟨⟨rfl, rv_closed _⟩, ?_⟩
          exact ⟨_, rfl, k, by omega, hlt, .inr ⟨fun _ => by omega, rfl⟩⟩
    · have h : k = l.length := by simp at h; omega
      conv => whnf
      repeat (first | refine ACode.seq ?_ | (refine ACode.s_reg tys_ok ?_; conv => whnf) | refine ACode.s_block ?_ | refine ACode.s_scope ?_ | (refine ACode.s_cond ?_; conv => whnf) | (refine ACode.s_exit ?_; conv => whnf) | (refine ACode.s_ret ?_; conv => whnf) | (refine ACode.s_skip ?_; conv => whnf) | (refine ACode.s_label ?_; conv => whnf))
      refine ACode.draw [] tys_ok (by kernel_rfl) (by kernel_rfl) ?_
      conv => whnf
      refine ⟨fun h3 => absurd h3 (by simp; omega), fun _ => ?_⟩
      conv => whnf
      repeat (first | refine ACode.seq ?_ | (refine ACode.s_reg tys_ok ?_; conv => whnf) | refine ACode.s_block ?_ | refine ACode.s_scope ?_ | (refine ACode.s_cond ?_; conv => whnf) | (refine ACode.s_exit ?_; conv => whnf) | (refine ACode.s_ret ?_; conv => whnf) | (refine ACode.s_skip ?_; conv => whnf) | (refine ACode.s_label ?_; conv => whnf))
      refine ACode.drawO [0, 1, 2, 3, 5, 6, 8, 9, 10, 4, 7, 11, 12] [6] [4, 7, 11] [3, 5, 6, 10] tys_ok (by kernel_rfl) (by kernel_rfl) ?_
      conv => whnf
      refine ⟨rfl, ?_⟩
      (conv => whnf)
      refine ⟨⟨by omega, by omega, by simp; omega⟩, ?_⟩
      (conv => whnf)
      refine ⟨⟨rfl, rfl⟩, ?_⟩
      (conv => whnf)
      refine ⟨rfl, ?_⟩
      conv => whnf
      refine ⟨⟨rfl, rfl⟩, ?_⟩
      conv => whnf
      refine ⟨rfl, ?_⟩
      conv => whnf
      refine ⟨⟨rfl, rfl⟩, ?_⟩
      conv => whnf
      refine ⟨rfl, ?_⟩
      (conv => whnf)
      refine ⟨⟨by omega, by simp; omega, by simp⟩, ?_⟩
      (conv => whnf)
      refine ⟨⟨rfl, rfl⟩, ?_⟩
      (conv => whnf)
      refine ⟨⟨rfl, by simp; omega⟩, ?_⟩
      rw [show [] ++ List.drop (Int.toNat 0) (List.take (k : Int).toNat (List.map Rc.v l)) = rv (l.take k) by simp [rv]]
      (conv => whnf)
      refine ⟨⟨rfl, by simp; omega⟩, ?_⟩
      rw [show rv (l.take k) ++ [AV.agg [.int .i64 r.sc, .int .i64 r.nu, .int .i64 r.ki, .int .i64 r.ti, .str r.la, .sl 1 (strs r.co)]] = rv (l.take k ++ [r]) by simp [rv, Rc.v]]
      (conv => whnf)
      refine ⟨⟨rfl, by simp; omega⟩, ?_⟩
      rw [show rv (l.take k ++ [r]) ++ List.drop (k : Int).toNat (List.take (((List.map Rc.v l).length : Nat) : Int).toNat (List.map Rc.v l)) = rv (l.take k ++ [r] ++ l.drop k) by rw [Int.toNat_natCast, Int.toNat_natCast, List.take_length]; simp [rv]]
      conv => whnf
      repeat (first | refine ACode.seq ?_ | (refine ACode.s_reg tys_ok ?_; conv => whnf) | refine ACode.s_block ?_ | refine ACode.s_scope ?_ | (refine ACode.s_cond ?_; conv => whnf) | (refine ACode.s_exit ?_; conv => whnf) | (refine ACode.s_ret ?_; conv => whnf) | (refine ACode.s_skip ?_; conv => whnf) | (refine ACode.s_label ?_; conv => whnf))
      refine ⟨⟨rfl, rv_closed _⟩, ?_⟩
      exact ⟨_, rfl, k, by omega, hlt, .inr ⟨fun h4 => absurd h4 (by omega), rfl⟩⟩
set_option maxRecDepth 100000 in
theorem rnormal_spec (l : List Sn) (r : List Rc) (hl : r.length ≤ 1000) (hx : ∀ y ∈ r, RcOK y) : Ctr Tryz.prog 21 [sns l, rcs r] (fun x => ∃ N, x = rcs N ∧ NormR l r N) := by
  refine Ctr.of_body Tryz.func21 rfl tys_ok (by kernel_rfl) ?_
  conv => whnf
  repeat (first | refine ACode.seq ?_ | (refine ACode.s_reg tys_ok ?_; conv => whnf) | refine ACode.s_block ?_ | refine ACode.s_scope ?_ | (refine ACode.s_cond ?_; conv => whnf) | (refine ACode.s_exit ?_; conv => whnf) | (refine ACode.s_ret ?_; conv => whnf) | (refine ACode.s_skip ?_; conv => whnf) | (refine ACode.s_label ?_; conv => whnf))
  refine ACode.freeze 0 ?_
  conv => whnf
  refine ⟨by simp [closed], ?_⟩
  conv => whnf
  repeat (refine ⟨(by first | rfl | (simp; done) : (_ : Nat) = _), ?_⟩; conv => whnf)
  refine ACode.loopD (fun d : Nat × List Rc => mk 27 [(0, sns l), (1, rcs r), (5, rcs d.2), (6, .int .i64 d.1)]) (fun _ => [.dead]) (fun d => d.1 ≤ r.length ∧ d.2.length ≤ d.1 ∧ NormR l (r.take d.1) d.2) (fun d => r.length - d.1) (fun _ _ => ⟨rfl, trivial⟩) ⟨(0, []), ?_⟩ (fun _ => rfl) fun ⟨k, d⟩ hd => ?_
  · conv => whnf
    repeat (refine And.intro ?_ ?_; (focus (first | rfl | (simp; done))); conv => whnf)
    exact ⟨.nil, by simp⟩
  · obtain ⟨hk, hdl, hn⟩ := hd
    simp only at hk hdl hn
    repeat (first | refine ACode.seq ?_ | (refine ACode.s_reg tys_ok ?_; conv => whnf) | refine ACode.s_block ?_ | refine ACode.s_scope ?_ | (refine ACode.s_cond ?_; conv => whnf) | (refine ACode.s_exit ?_; conv => whnf) | (refine ACode.s_ret ?_; conv => whnf) | (refine ACode.s_skip ?_; conv => whnf) | (refine ACode.s_label ?_; conv => whnf))
    refine ⟨fun h => ?_, fun h => ?_⟩
    · have h : k < r.length := by simpa using h
      have hxk := hx _ (List.getElem_mem h)
      have hxd : ∀ y ∈ d, RcOK y := fun y hy => hx y (List.mem_of_mem_take ((hn.2 y).1 hy).1)
      conv => whnf
      repeat (first | refine ACode.seq ?_ | (refine ACode.s_reg tys_ok ?_; conv => whnf) | refine ACode.s_block ?_ | refine ACode.s_scope ?_ | (refine ACode.s_cond ?_; conv => whnf) | (refine ACode.s_exit ?_; conv => whnf) | (refine ACode.s_ret ?_; conv => whnf) | (refine ACode.s_skip ?_; conv => whnf) | (refine ACode.s_label ?_; conv => whnf))
      refine ⟨by simp only; omega, _, rv_get r k h, ?_⟩
      conv => whnf
      repeat (first | refine ACode.seq ?_ | (refine ACode.s_reg tys_ok ?_; conv => whnf) | refine ACode.s_block ?_ | refine ACode.s_scope ?_ | (refine ACode.s_cond ?_; conv => whnf) | (refine ACode.s_exit ?_; conv => whnf) | (refine ACode.s_ret ?_; conv => whnf) | (refine ACode.s_skip ?_; conv => whnf) | (refine ACode.s_label ?_; conv => whnf))
      refine ACall.of_spec (rvalid_spec l r[k] hxk) rfl fun r hr => ?_
      subst hr
      conv => whnf
      repeat (first | refine ACode.seq ?_ | (refine ACode.s_reg tys_ok ?_; conv => whnf) | refine ACode.s_block ?_ | refine ACode.s_scope ?_ | (refine ACode.s_cond ?_; conv => whnf) | (refine ACode.s_exit ?_; conv => whnf) | (refine ACode.s_ret ?_; conv => whnf) | (refine ACode.s_skip ?_; conv => whnf) | (refine ACode.s_label ?_; conv => whnf))
      refine ⟨fun h2 => ?_, fun h2 => ?_⟩
      · have h2 : validB l r[k] = true := by simpa using h2
        conv => whnf
        repeat (first | refine ACode.seq ?_ | (refine ACode.s_reg tys_ok ?_; conv => whnf) | refine ACode.s_block ?_ | refine ACode.s_scope ?_ | (refine ACode.s_cond ?_; conv => whnf) | (refine ACode.s_exit ?_; conv => whnf) | (refine ACode.s_ret ?_; conv => whnf) | (refine ACode.s_skip ?_; conv => whnf) | (refine ACode.s_label ?_; conv => whnf))
        refine ⟨by simp only; omega, _, rv_get r k h, ?_⟩
        conv => whnf
        repeat (first | refine ACode.seq ?_ | (refine ACode.s_reg tys_ok ?_; conv => whnf) | refine ACode.s_block ?_ | refine ACode.s_scope ?_ | (refine ACode.s_cond ?_; conv => whnf) | (refine ACode.s_exit ?_; conv => whnf) | (refine ACode.s_ret ?_; conv => whnf) | (refine ACode.s_skip ?_; conv => whnf) | (refine ACode.s_label ?_; conv => whnf))
        refine ACall.of_spec (insert_rspec d r[k] (by omega) hxd) rfl fun x hxx => ?_
        obtain ⟨d', rfl, hins⟩ := hxx
        obtain ⟨hs', hm'⟩ := ins_strict hn.1 hins
        have hdl' : d'.length ≤ k + 1 := by
          obtain ⟨j, hj, _, ⟨_, _, rfl⟩ | ⟨_, rfl⟩⟩ := hins
          · omega
          · simp; omega
        conv => whnf
        repeat (first | refine ACode.seq ?_ | (refine ACode.s_reg tys_ok ?_; conv => whnf) | refine ACode.s_block ?_ | refine ACode.s_scope ?_ | (refine ACode.s_cond ?_; conv => whnf) | (refine ACode.s_exit ?_; conv => whnf) | (refine ACode.s_ret ?_; conv => whnf) | (refine ACode.s_skip ?_; conv => whnf) | (refine ACode.s_label ?_; conv => whnf))
        refine ⟨(k + 1, d'), ?_⟩
        conv => whnf
        repeat (refine And.intro ?_ ?_; (focus (first | rfl | (simp; done) | (first | (rw [Wr64 _ (by simp only; omega) (by simp only; omega)]; rfl); done))); conv => whnf)
        refine ⟨⟨by simp only; omega, hdl', hs', fun y => ?_⟩, by show r.length - (k + 1) < r.length - k; omega⟩
        rw [hm', hn.2, List.take_succ_eq_append_getElem h, List.mem_append, List.mem_singleton]
        constructor
        · rintro (⟨h3, h4⟩ | rfl)
          · exact ⟨.inl h3, h4⟩
          · exact ⟨.inr rfl, h2⟩
        · rintro ⟨h3 | rfl, h4⟩
          · exact .inl ⟨h3, h4⟩
          · exact .inr rfl
      · have h2 : validB l r[k] = false := by simpa using h2
        conv => whnf
        repeat (first | refine ACode.seq ?_ | (refine ACode.s_reg tys_ok ?_; conv => whnf) | refine ACode.s_block ?_ | refine ACode.s_scope ?_ | (refine ACode.s_cond ?_; conv => whnf) | (refine ACode.s_exit ?_; conv => whnf) | (refine ACode.s_ret ?_; conv => whnf) | (refine ACode.s_skip ?_; conv => whnf) | (refine ACode.s_label ?_; conv => whnf))
        refine ⟨(k + 1, d), ?_⟩
        conv => whnf
        repeat (refine And.intro ?_ ?_; (focus (first | rfl | (simp; done) | (first | (rw [Wr64 _ (by simp only; omega) (by simp only; omega)]; rfl); done))); conv => whnf)
        refine ⟨⟨by simp only; omega, by simp only; omega, hn.1, fun y => ?_⟩, by show r.length - (k + 1) < r.length - k; omega⟩
        rw [List.take_succ_eq_append_getElem h, List.mem_append, List.mem_singleton, hn.2]
        constructor
        · exact fun ⟨h3, h4⟩ => ⟨.inl h3, h4⟩
        · rintro ⟨h3 | rfl, h4⟩
          · exact ⟨h3, h4⟩
          · rw [h2] at h4; cases h4
    · have h : k = r.length := by simp at h; omega
      rw [h, List.take_length] at hn
      conv => whnf
      repeat (first | refine ACode.seq ?_ | (refine ACode.s_reg tys_ok ?_; conv => whnf) | refine ACode.s_block ?_ | refine ACode.s_scope ?_ | (refine ACode.s_cond ?_; conv => whnf) | (refine ACode.s_exit ?_; conv => whnf) | (refine ACode.s_ret ?_; conv => whnf) | (refine ACode.s_skip ?_; conv => whnf) | (refine ACode.s_label ?_; conv => whnf))
      exact ⟨d, rfl, hn⟩
end Go.Proofs.YtiojkoaefabjbaaGreatDoor
