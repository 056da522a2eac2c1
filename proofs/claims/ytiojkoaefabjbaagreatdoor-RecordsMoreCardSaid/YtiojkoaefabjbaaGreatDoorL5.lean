/-
  RecordsMore.
-/
import Derived.Test.YtiojkoaefabjbaaGreatDoorS3
set_option linter.unusedVariables false
set_option linter.unusedSimpArgs false
namespace Go.Proofs.YtiojkoaefabjbaaGreatDoor
open Go.Av Go.Shelf Pl Go.RowKit
def sv (l : List Sn) : List AV := l.map Sn.v
theorem sv_closed (l : List Sn) : ∀ e ∈ sv l, closed e = true := by
  intro e he
  obtain ⟨s, _, rfl⟩ := List.mem_map.1 he
  rfl
def otherS (s : Sn) : Sn := if 0 ≤ s.op ∧ 0 ≤ s.of then ⟨7, 3, s.er⟩ else s
def others (l : List Sn) (k : Nat) : List Sn := (l.take k).map otherS
theorem others_len (l : List Sn) (k : Nat) (h : k ≤ l.length) : (others l k).length = k := by simp [others]; omega
theorem others_succ (l : List Sn) (k : Nat) (h : k < l.length) : others l (k + 1) = others l k ++ [otherS l[k]] := by
  unfold others
  rw [List.take_succ_eq_append_getElem h, List.map_append]
  rfl
theorem other_scan (s : Sn) (h : scannerB s = true) : scannerB (otherS s) = true := by
  unfold otherS
  split
  · unfold scannerB at h ⊢
    simp at h ⊢
    omega
  · exact h
theorem wider_valid {l : List Sn} {m : Sn} {y : Rc} (hl : l.length ≤ 23) (h : validB l y = true) : validB (others l l.length ++ [m]) y = true := by
  unfold validB at h ⊢
  simp only [Bool.and_eq_true, decide_eq_true_eq] at h ⊢
  obtain ⟨⟨⟨h1, h2⟩, h3⟩, h4⟩ := h
  refine ⟨⟨⟨by rw [List.length_append, others_len l _ (Nat.le_refl _)]; simp; omega, h2⟩, ?_⟩, h4⟩
  by_cases hs : y.sc.toNat < l.length
  · rw [List.getElem?_eq_getElem hs] at h3
    have e : (others l l.length ++ [m])[y.sc.toNat]? = some (otherS l[y.sc.toNat]) := by
      rw [List.getElem?_append_left (by rw [others_len l _ (Nat.le_refl _)]; exact hs)]
      unfold others
      rw [List.take_length]
      simp [hs]
    rw [e]
    exact other_scan _ h3
  · rw [List.getElem?_eq_none (by omega)] at h3
    cases h3
def restR (x : Rc) (M : List Rc) (k : Nat) : List Rc := (M.take k).filter fun y => decide (y ≠ x)
theorem rest_len (x : Rc) (M : List Rc) (k : Nat) : (restR x M k).length ≤ k := Nat.le_trans (List.length_filter_le _ _) (by simp; omega)
theorem rest_eq {x : Rc} {M N : List Rc} (hM : Strict cmpR M) (hN : Strict cmpR N) (h : ∀ y, y ∈ M ↔ y ∈ N ∨ y = x) (hx : x ∉ N) : restR x M M.length = N := by
  unfold restR
  rw [List.take_length]
  refine strict_unique cmpR_ok _ _ (List.Pairwise.filter _ hM) hN fun y => ?_
  rw [List.mem_filter, h]
  simp only [decide_eq_true_eq]
  constructor
  · rintro ⟨h | h, hne⟩
    · exact h
    · exact absurd h hne
  · exact fun h => ⟨.inl h, fun e => hx (e ▸ h)⟩
theorem rest_one {x : Rc} {M : List Rc} (hM : Strict cmpR M) (h : x ∈ M) : M.length = (restR x M M.length).length + 1 := by
  have hn := strict_nodup hM
  unfold restR
  rw [List.take_length]
  clear hM
  induction M with
  | nil => cases h
  | cons y M ih =>
    obtain ⟨h1, h2⟩ := List.nodup_cons.1 hn
    by_cases hy : y = x
    · subst hy
      rw [List.filter_cons, if_neg (by simp)]
      have : M.filter (fun z => decide (z ≠ y)) = M := List.filter_eq_self.2 fun z hz => by
        simp only [decide_eq_true_eq]; exact fun e => h1 (e ▸ hz)
      rw [this]; rfl
    · rw [List.filter_cons, if_pos (by simpa using hy)]
      have := ih ((List.mem_cons.1 h).resolve_left (Ne.symm hy)) h2
      simp only [List.length_cons]
      omega
set_option maxHeartbeats 4000000 in
set_option maxRecDepth 100000 in
theorem more_law (l : List Sn) (r : List Rc) (x : Rc) (m : Sn) : Ctr Tryz.prog 8 [sns l, rcs r, x.v, m.v] (fun x => x = .bool true) := by
  refine Ctr.lits ?_
  refine Ctr.of_body Tryz.func8 rfl tys_ok (by kernel_rfl) ?_
  conv => whnf
  repeat (first | refine ACode.seq ?_ | (refine ACode.s_reg tys_ok ?_; conv => whnf) | refine ACode.s_block ?_ | refine ACode.s_scope ?_ | (refine ACode.s_cond ?_; conv => whnf) | (refine ACode.s_exit ?_; conv => whnf) | (refine ACode.s_ret ?_; conv => whnf) | (refine ACode.s_skip ?_; conv => whnf) | (refine ACode.s_label ?_; conv => whnf))
  refine ACall.of_spec (head_spec) rfl fun r hr => ?_
  subst hr
  conv => whnf
  repeat (first | refine ACode.seq ?_ | (refine ACode.s_reg tys_ok ?_; conv => whnf) | refine ACode.s_block ?_ | refine ACode.s_scope ?_ | (refine ACode.s_cond ?_; conv => whnf) | (refine ACode.s_exit ?_; conv => whnf) | (refine ACode.s_ret ?_; conv => whnf) | (refine ACode.s_skip ?_; conv => whnf) | (refine ACode.s_label ?_; conv => whnf))
  repeat' (first | (refine And.intro (fun _ => ?_) (fun _ => ?_) <;> conv => whnf) | (refine ACall.of_spec (few_spec l r 12 (by decide)) rfl fun r hr => ?_; subst hr; conv => whnf) | (refine ACall.of_spec (short_spec x) rfl fun r hr => ?_; subst hr; conv => whnf) | refine ACode.seq ?_ | (refine ACode.s_reg tys_ok ?_; conv => whnf) | refine ACode.s_block ?_ | refine ACode.s_scope ?_ | (refine ACode.s_cond ?_; conv => whnf) | (refine ACode.s_exit ?_; conv => whnf) | (refine ACode.s_ret ?_; conv => whnf) | (refine ACode.s_skip ?_; conv => whnf) | (refine ACode.s_label ?_; conv => whnf))
  · exact .inr rfl
  · rename_i h1 h2 h3
    obtain ⟨_, hrl, hrx⟩ := few_ok (by simpa using h1)
    have hxx := short_ok (r := x) (by simpa using h2)
    have hll : l.length ≤ 23 := by simp at h3; omega
    refine ACall.of_spec (normalAny_spec l r (by omega) hrx) rfl fun z hz => ?_
    obtain ⟨N, rfl, hN⟩ := hz
    have hNx : ∀ y ∈ N, RcOK y := fun y hy => hrx y ((hN.2 y).1 hy).1
    have hNl : N.length ≤ 12 := Nat.le_trans (norm_len hN) hrl
    conv => whnf
    repeat (first | refine ACode.seq ?_ | (refine ACode.s_reg tys_ok ?_; conv => whnf) | refine ACode.s_block ?_ | refine ACode.s_scope ?_ | (refine ACode.s_cond ?_; conv => whnf) | (refine ACode.s_exit ?_; conv => whnf) | (refine ACode.s_ret ?_; conv => whnf) | (refine ACode.s_skip ?_; conv => whnf) | (refine ACode.s_label ?_; conv => whnf))
    refine ACode.loopD (fun k : Nat => mk 135 [(0, sns l), (1, rcs r), (6, .ptr 0 0), (7, .ptr 1 0), (8, .lit false), (9, .bool true), (10, rcs N), (11, .own 2 3 0 k), (12, .int .i64 k)]) (fun k => [.cells [.int .i64 x.sc, .int .i64 x.nu, .int .i64 x.ki, .int .i64 x.ti, .str x.la, .sl 1 (strs x.co)], .cells [.int .i64 m.op, .int .i64 m.of, .int .i64 m.er], .arr 45 3 (sv (others l k))])
      (fun k => k ≤ l.length) (fun k => l.length - k) (fun _ _ => ⟨rfl, rfl, rfl, sv_closed _, trivial⟩) ⟨0, ?_⟩ (fun _ => rfl) fun k hk => ?_
    · conv => whnf
      repeat (refine And.intro ?_ ?_; (focus (first | rfl | (simp; done))); conv => whnf)
      exact Nat.zero_le _
    · have hol := others_len l k hk
      repeat (first | refine ACode.seq ?_ | (refine ACode.s_reg tys_ok ?_; conv => whnf) | refine ACode.s_block ?_ | refine ACode.s_scope ?_ | (refine ACode.s_cond ?_; conv => whnf) | (refine ACode.s_exit ?_; conv => whnf) | (refine ACode.s_ret ?_; conv => whnf) | (refine ACode.s_skip ?_; conv => whnf) | (refine ACode.s_label ?_; conv => whnf))
      refine ⟨fun h => ?_, fun h => ?_⟩
      · have h : k < l.length := by simpa using h
        have hos := others_succ l k h
        have hw1 : Wr .i64 ((k : Int) + 1) = ((k + 1 : Nat) : Int) := by rw [Wr64 _ (by omega) (by omega)]; rfl
        conv => whnf
        repeat (first | refine ACode.seq ?_ | (refine ACode.s_reg tys_ok ?_; conv => whnf) | refine ACode.s_block ?_ | refine ACode.s_scope ?_ | (refine ACode.s_cond ?_; conv => whnf) | (refine ACode.s_exit ?_; conv => whnf) | (refine ACode.s_ret ?_; conv => whnf) | (refine ACode.s_skip ?_; conv => whnf) | (refine ACode.s_label ?_; conv => whnf))
        refine ⟨by omega, _, sns_get l k h, ?_⟩
        conv => whnf
        repeat (first | refine ACode.seq ?_ | (refine ACode.s_reg tys_ok ?_; conv => whnf) | refine ACode.s_block ?_ | refine ACode.s_scope ?_ | (refine ACode.s_cond ?_; conv => whnf) | (refine ACode.s_exit ?_; conv => whnf) | (refine ACode.s_ret ?_; conv => whnf) | (refine ACode.s_skip ?_; conv => whnf) | (refine ACode.s_label ?_; conv => whnf))
        repeat' (first | (refine And.intro (fun _ => ?_) (fun _ => ?_) <;> conv => whnf) | refine ACode.seq ?_ | (refine ACode.s_reg tys_ok ?_; conv => whnf) | refine ACode.s_block ?_ | refine ACode.s_scope ?_ | (refine ACode.s_cond ?_; conv => whnf) | (refine ACode.s_exit ?_; conv => whnf) | (refine ACode.s_ret ?_; conv => whnf) | (refine ACode.s_skip ?_; conv => whnf) | (refine ACode.s_label ?_; conv => whnf))
        · rename_i h4 h5
          have e : otherS l[k] = ⟨7, 3, l[k].er⟩ := if_pos ⟨by simpa using h4, by simpa using h5⟩
          refine ⟨rfl, ?_⟩
          conv => whnf
          refine ⟨⟨by simp [sv, hol], by simp [sv, hol]; omega⟩, ?_⟩
          conv => whnf
          repeat (first | refine ACode.seq ?_ | (refine ACode.s_reg tys_ok ?_; conv => whnf) | refine ACode.s_block ?_ | refine ACode.s_scope ?_ | (refine ACode.s_cond ?_; conv => whnf) | (refine ACode.s_exit ?_; conv => whnf) | (refine ACode.s_ret ?_; conv => whnf) | (refine ACode.s_skip ?_; conv => whnf) | (refine ACode.s_label ?_; conv => whnf))
          refine ⟨k + 1, ?_⟩
          conv => whnf
          repeat (refine And.intro ?_ ?_; (focus (first | rfl | (simp; done) | (first | exact hw1 | (rw [hos]; simp [sv, hol]; done) | (simp [sv, hol]; done); done))); conv => whnf)
          refine ⟨congrArg (HO.arr _ 3) (by rw [hos, e]; simp [sv, Sn.v]), by omega, by omega⟩
        · rename_i h4 h5
          have e : otherS l[k] = l[k] := if_neg fun h6 => by simp at h5; omega
          refine ⟨rfl, ?_⟩
          conv => whnf
          refine ⟨⟨by simp [sv, hol], by simp [sv, hol]; omega⟩, ?_⟩
          conv => whnf
          repeat (first | refine ACode.seq ?_ | (refine ACode.s_reg tys_ok ?_; conv => whnf) | refine ACode.s_block ?_ | refine ACode.s_scope ?_ | (refine ACode.s_cond ?_; conv => whnf) | (refine ACode.s_exit ?_; conv => whnf) | (refine ACode.s_ret ?_; conv => whnf) | (refine ACode.s_skip ?_; conv => whnf) | (refine ACode.s_label ?_; conv => whnf))
          refine ⟨k + 1, ?_⟩
          conv => whnf
          repeat (refine And.intro ?_ ?_; (focus (first | rfl | (simp; done) | (first | exact hw1 | (rw [hos]; simp [sv, hol]; done) | (simp [sv, hol]; done); done))); conv => whnf)
          refine ⟨congrArg (HO.arr _ 3) (by rw [hos, e]; simp [sv, Sn.v]), by omega, by omega⟩
        · rename_i h4
          have e : otherS l[k] = l[k] := if_neg fun h6 => by simp at h4; omega
          refine ⟨rfl, ?_⟩
          conv => whnf
          refine ⟨⟨by simp [sv, hol], by simp [sv, hol]; omega⟩, ?_⟩
          conv => whnf
          repeat (first | refine ACode.seq ?_ | (refine ACode.s_reg tys_ok ?_; conv => whnf) | refine ACode.s_block ?_ | refine ACode.s_scope ?_ | (refine ACode.s_cond ?_; conv => whnf) | (refine ACode.s_exit ?_; conv => whnf) | (refine ACode.s_ret ?_; conv => whnf) | (refine ACode.s_skip ?_; conv => whnf) | (refine ACode.s_label ?_; conv => whnf))
          refine ⟨k + 1, ?_⟩
          conv => whnf
          repeat (refine And.intro ?_ ?_; (focus (first | rfl | (simp; done) | (first | exact hw1 | (rw [hos]; simp [sv, hol]; done) | (simp [sv, hol]; done); done))); conv => whnf)
          refine ⟨congrArg (HO.arr _ 3) (by rw [hos, e]; simp [sv, Sn.v]), by omega, by omega⟩
      · have h : k = l.length := by simp at h; omega
        subst h
        conv => whnf
        repeat (first | refine ACode.seq ?_ | (refine ACode.s_reg tys_ok ?_; conv => whnf) | refine ACode.s_block ?_ | refine ACode.s_scope ?_ | (refine ACode.s_cond ?_; conv => whnf) | (refine ACode.s_exit ?_; conv => whnf) | (refine ACode.s_ret ?_; conv => whnf) | (refine ACode.s_skip ?_; conv => whnf) | (refine ACode.s_label ?_; conv => whnf))
        refine ⟨rfl, ?_⟩
        conv => whnf
        refine ⟨⟨by simp [sv, hol], by simp [sv, hol]; omega⟩, ?_⟩
        rw [show sv (others l l.length) ++ [AV.agg [.int .i64 m.op, .int .i64 m.of, .int .i64 m.er]] = sv (others l l.length ++ [m]) by simp [sv, Sn.v]]
        conv => whnf
        repeat (first | refine ACode.seq ?_ | (refine ACode.s_reg tys_ok ?_; conv => whnf) | refine ACode.s_block ?_ | refine ACode.s_scope ?_ | (refine ACode.s_cond ?_; conv => whnf) | (refine ACode.s_exit ?_; conv => whnf) | (refine ACode.s_ret ?_; conv => whnf) | (refine ACode.s_skip ?_; conv => whnf) | (refine ACode.s_label ?_; conv => whnf))
        refine ACall.freeze 2 ?_ (by kernel_rfl)
        conv => whnf
        refine ⟨sv_closed _, ?_⟩
        conv => whnf
        repeat (refine ⟨(by first | rfl | (simp; done) : (_ : Nat) = _), ?_⟩; conv => whnf)
        refine ACall.of_spec (normalAny_spec (others l l.length ++ [m]) r (by omega) hrx) rfl fun z hz => ?_
        obtain ⟨W, rfl, hW⟩ := hz
        have hWx : ∀ y ∈ W, RcOK y := fun y hy => hrx y ((hW.2 y).1 hy).1
        have hWl : W.length ≤ 12 := Nat.le_trans (norm_len hW) hrl
        have hNW : ∀ y ∈ N, y ∈ W := fun y hy => by
          obtain ⟨q1, q2⟩ := (hN.2 y).1 hy
          exact (hW.2 y).2 ⟨q1, wider_valid hll q2⟩
        conv => whnf
        repeat (first | refine ACode.seq ?_ | (refine ACode.s_reg tys_ok ?_; conv => whnf) | refine ACode.s_block ?_ | refine ACode.s_scope ?_ | (refine ACode.s_cond ?_; conv => whnf) | (refine ACode.s_exit ?_; conv => whnf) | (refine ACode.s_ret ?_; conv => whnf) | (refine ACode.s_skip ?_; conv => whnf) | (refine ACode.s_label ?_; conv => whnf))
        refine ACode.loopD (fun k : Nat => mk 135 [(0, sns l), (1, rcs r), (6, .ptr 0 0), (7, .ptr 1 0), (8, .lit false), (9, .bool true), (10, rcs N), (14, rcs W), (15, .int .i64 k)]) (fun k => [.cells [.int .i64 x.sc, .int .i64 x.nu, .int .i64 x.ki, .int .i64 x.ti, .str x.la, .sl 1 (strs x.co)], .cells [.int .i64 m.op, .int .i64 m.of, .int .i64 m.er], .dead, .arr 45 3 [.agg [.int .i64 m.op, .int .i64 m.of, .int .i64 m.er]]])
          (fun k => k ≤ N.length) (fun k => N.length - k) (fun _ _ => ⟨rfl, rfl, rfl, by simp [closed, closeds], trivial⟩) ⟨0, ?_⟩ (fun _ => rfl) fun k hk => ?_
        · conv => whnf
          repeat (refine And.intro ?_ ?_; (focus (first | rfl | (simp; done))); conv => whnf)
          exact Nat.zero_le _
        · repeat (first | refine ACode.seq ?_ | (refine ACode.s_reg tys_ok ?_; conv => whnf) | refine ACode.s_block ?_ | refine ACode.s_scope ?_ | (refine ACode.s_cond ?_; conv => whnf) | (refine ACode.s_exit ?_; conv => whnf) | (refine ACode.s_ret ?_; conv => whnf) | (refine ACode.s_skip ?_; conv => whnf) | (refine ACode.s_label ?_; conv => whnf))
          refine ⟨fun h => ?_, fun h => ?_⟩
          · have h : k < N.length := by simpa using h
            have hg := rv_get N k h
            have hin : inB W N[k] = true := decide_eq_true (hNW _ (List.getElem_mem h))
            have hw1 : Wr .i64 ((k : Int) + 1) = ((k + 1 : Nat) : Int) := by rw [Wr64 _ (by omega) (by omega)]; rfl
            conv => whnf
            repeat (first | refine ACode.seq ?_ | (refine ACode.s_reg tys_ok ?_; conv => whnf) | refine ACode.s_block ?_ | refine ACode.s_scope ?_ | (refine ACode.s_cond ?_; conv => whnf) | (refine ACode.s_exit ?_; conv => whnf) | (refine ACode.s_ret ?_; conv => whnf) | (refine ACode.s_skip ?_; conv => whnf) | (refine ACode.s_label ?_; conv => whnf))
            repeat (first | (refine ⟨by omega, _, (by exact hg), ?_⟩; conv => whnf) | (refine ACall.of_spec (in_spec W N[k] (by omega) hWx) rfl fun r hr => ?_; subst hr; conv => whnf) | (refine no_br ?_ (fun _ => ?_); (focus (first | (simp [hin]; done); done)); conv => whnf) | (refine yes_br ?_ (fun _ => ?_); (focus (first | (simp [hin]; done); done)); conv => whnf) | refine ACode.seq ?_ | (refine ACode.s_reg tys_ok ?_; conv => whnf) | refine ACode.s_block ?_ | refine ACode.s_scope ?_ | (refine ACode.s_cond ?_; conv => whnf) | (refine ACode.s_exit ?_; conv => whnf) | (refine ACode.s_ret ?_; conv => whnf) | (refine ACode.s_skip ?_; conv => whnf) | (refine ACode.s_label ?_; conv => whnf))
            refine ⟨k + 1, ?_⟩
            conv => whnf
            repeat (refine And.intro ?_ ?_; (focus (first | rfl | (simp; done) | (first | exact hw1; done))); conv => whnf)
            exact ⟨by omega, by omega⟩
          · have h : k = N.length := by simp at h; omega
            conv => whnf
            repeat (first | refine ACode.seq ?_ | (refine ACode.s_reg tys_ok ?_; conv => whnf) | refine ACode.s_block ?_ | refine ACode.s_scope ?_ | (refine ACode.s_cond ?_; conv => whnf) | (refine ACode.s_exit ?_; conv => whnf) | (refine ACode.s_ret ?_; conv => whnf) | (refine ACode.s_skip ?_; conv => whnf) | (refine ACode.s_label ?_; conv => whnf))
            repeat' (first | (refine And.intro (fun _ => ?_) (fun _ => ?_) <;> conv => whnf) | (refine ACall.of_spec (valid_spec l x hxx) rfl fun r hr => ?_; subst hr; conv => whnf) | (refine ACall.of_spec (in_spec N x (by omega) hNx) rfl fun r hr => ?_; subst hr; conv => whnf) | refine ACode.seq ?_ | (refine ACode.s_reg tys_ok ?_; conv => whnf) | refine ACode.s_block ?_ | refine ACode.s_scope ?_ | (refine ACode.s_cond ?_; conv => whnf) | (refine ACode.s_exit ?_; conv => whnf) | (refine ACode.s_ret ?_; conv => whnf) | (refine ACode.s_skip ?_; conv => whnf) | (refine ACode.s_label ?_; conv => whnf))
            · exact .inr rfl
            · rename_i h4 h5
              have hvx : validB l x = true := by simpa using h4
              have hxN : x ∉ N := by simpa [inB] using h5
              refine ACode.drawO [0, 1, 2, 4, 5, 3, 6, 7, 8] [5] [3, 6, 7] [4, 5] tys_ok (by kernel_rfl) (by kernel_rfl) ?_
              conv => whnf
              refine ⟨rfl, ?_⟩
              conv => whnf
              refine ⟨⟨rfl, rfl⟩, ?_⟩
              conv => whnf
              refine ⟨rfl, ?_⟩
              conv => whnf
              refine ⟨⟨rfl, rfl⟩, ?_⟩
              conv => whnf
              refine ⟨⟨rfl, by simp; omega⟩, ?_⟩
              rw [List.nil_append]
              conv => whnf
              refine ⟨⟨by simp, by simp; omega⟩, ?_⟩
              rw [show List.map Rc.v r ++ [AV.agg [.int .i64 x.sc, .int .i64 x.nu, .int .i64 x.ki, .int .i64 x.ti, .str x.la, .sl 1 (strs x.co)]] = rv (r ++ [x]) by simp [rv, Rc.v]]
              conv => whnf
              have hrxx : ∀ y ∈ r ++ [x], RcOK y := fun y hy => (List.mem_append.1 hy).elim (hrx y) fun h => by rw [List.mem_singleton.1 h]; exact hxx
              refine ACall.freeze 5 ?_ (by kernel_rfl)
              conv => whnf
              refine ⟨rv_closed _, ?_⟩
              conv => whnf
              repeat (refine ⟨(by first | rfl | (simp; done) : (_ : Nat) = _), ?_⟩; conv => whnf)
              refine ACall.of_spec (normF_spec l (r ++ [x]) (by simp; omega) hrxx) rfl fun z hz => ?_
              subst hz
              have hM := normF_ok l (r ++ [x])
              generalize normF l (r ++ [x]) = M at *
              have hMx : ∀ y ∈ M, RcOK y := fun y hy => hrxx y ((hM.2 y).1 hy).1
              have hMl : M.length ≤ 13 := Nat.le_trans (norm_len hM) (by simp; omega)
              conv => whnf
              repeat (first | refine ACode.seq ?_ | (refine ACode.s_reg tys_ok ?_; conv => whnf) | refine ACode.s_block ?_ | refine ACode.s_scope ?_ | (refine ACode.s_cond ?_; conv => whnf) | (refine ACode.s_exit ?_; conv => whnf) | (refine ACode.s_ret ?_; conv => whnf) | (refine ACode.s_skip ?_; conv => whnf) | (refine ACode.s_label ?_; conv => whnf))
              refine ACode.loopD (fun k : Nat => mk 135 [(0, sns l), (1, rcs r), (6, .ptr 0 0), (7, .ptr 1 0), (8, .lit false), (9, .bool true), (10, rcs N), (16, rcs M), (17, .own 13 6 0 (restR x M k).length), (18, .int .i64 k)])
                (fun k => [.cells [.int .i64 x.sc, .int .i64 x.nu, .int .i64 x.ki, .int .i64 x.ti, .str x.la, .sl 1 (strs x.co)], .cells [.int .i64 m.op, .int .i64 m.of, .int .i64 m.er], .dead, .arr 45 3 [.agg [.int .i64 m.op, .int .i64 m.of, .int .i64 m.er]], .dead, .dead, .dead, .dead, .dead, .ghost [] [] [], .dead, .dead, .dead, .arr eT 6 (rv (restR x M k))])
                (fun k => k ≤ M.length) (fun k => M.length - k) (fun _ _ => ⟨rfl, rfl, rfl, by simp [closed, closeds], rfl, rv_closed _, trivial⟩) ⟨0, ?_⟩ (fun _ => rfl) fun k hk => ?_
              · conv => whnf
                repeat (refine And.intro ?_ ?_; (focus (first | rfl | (simp; done))); conv => whnf)
                exact Nat.zero_le _
              · have hrl2 := rest_len x M k
                repeat (first | refine ACode.seq ?_ | (refine ACode.s_reg tys_ok ?_; conv => whnf) | refine ACode.s_block ?_ | refine ACode.s_scope ?_ | (refine ACode.s_cond ?_; conv => whnf) | (refine ACode.s_exit ?_; conv => whnf) | (refine ACode.s_ret ?_; conv => whnf) | (refine ACode.s_skip ?_; conv => whnf) | (refine ACode.s_label ?_; conv => whnf))
                refine ⟨fun h => ?_, fun h => ?_⟩
                · have h : k < M.length := by simpa using h
                  have hg := rv_get M k h
                  have hxk := hMx _ (List.getElem_mem h)
                  have hw1 : Wr .i64 ((k : Int) + 1) = ((k + 1 : Nat) : Int) := by rw [Wr64 _ (by omega) (by omega)]; rfl
                  conv => whnf
                  repeat (first | refine ACode.seq ?_ | (refine ACode.s_reg tys_ok ?_; conv => whnf) | refine ACode.s_block ?_ | refine ACode.s_scope ?_ | (refine ACode.s_cond ?_; conv => whnf) | (refine ACode.s_exit ?_; conv => whnf) | (refine ACode.s_ret ?_; conv => whnf) | (refine ACode.s_skip ?_; conv => whnf) | (refine ACode.s_label ?_; conv => whnf))
                  refine ACode.draw [] tys_ok (by kernel_rfl) (by kernel_rfl) ?_
                  conv => whnf
                  refine ⟨by omega, _, hg, ?_⟩
                  conv => whnf
                  refine ⟨_, ⟨compare_spec M[k] x hxk.co, rfl⟩, ?_⟩
                  conv => whnf
                  refine ⟨fun h8 => ?_, fun h8 => ?_⟩
                  · have h8 : M[k] ≠ x := fun e => by rw [e, cmpR_ok.self] at h8; simp at h8
                    have hrs : restR x M (k + 1) = restR x M k ++ [M[k]] := by
                      unfold restR
                      rw [List.take_succ_eq_append_getElem h, List.filter_append]
                      simp [h8]
                    conv => whnf
                    repeat (first | refine ACode.seq ?_ | (refine ACode.s_reg tys_ok ?_; conv => whnf) | refine ACode.s_block ?_ | refine ACode.s_scope ?_ | (refine ACode.s_cond ?_; conv => whnf) | (refine ACode.s_exit ?_; conv => whnf) | (refine ACode.s_ret ?_; conv => whnf) | (refine ACode.s_skip ?_; conv => whnf) | (refine ACode.s_label ?_; conv => whnf))
                    refine ⟨by omega, _, hg, ?_⟩
                    conv => whnf
                    repeat (first | refine ACode.seq ?_ | (refine ACode.s_reg tys_ok ?_; conv => whnf) | refine ACode.s_block ?_ | refine ACode.s_scope ?_ | (refine ACode.s_cond ?_; conv => whnf) | (refine ACode.s_exit ?_; conv => whnf) | (refine ACode.s_ret ?_; conv => whnf) | (refine ACode.s_skip ?_; conv => whnf) | (refine ACode.s_label ?_; conv => whnf))
                    refine ⟨rfl, ?_⟩
                    conv => whnf
                    refine ⟨⟨by simp [rv], by simp [rv]; omega⟩, ?_⟩
                    conv => whnf
                    repeat (first | refine ACode.seq ?_ | (refine ACode.s_reg tys_ok ?_; conv => whnf) | refine ACode.s_block ?_ | refine ACode.s_scope ?_ | (refine ACode.s_cond ?_; conv => whnf) | (refine ACode.s_exit ?_; conv => whnf) | (refine ACode.s_ret ?_; conv => whnf) | (refine ACode.s_skip ?_; conv => whnf) | (refine ACode.s_label ?_; conv => whnf))
                    refine ⟨k + 1, ?_⟩
                    conv => whnf
                    repeat (refine And.intro ?_ ?_; (focus (first | rfl | (simp; done) | (first | exact hw1 | (rw [hrs]; simp [rv]; done); done))); conv => whnf)
                    refine ⟨congrArg (HO.arr eT 6) (by rw [hrs]; simp [rv, Rc.v]), ?_⟩
                    conv => whnf
                    exact ⟨by omega, by omega⟩
                  · have h8 : M[k] = x := (cmpR_ok.eq0 _ _).1 (by simpa using h8)
                    have hrs : restR x M (k + 1) = restR x M k := by
                      unfold restR
                      rw [List.take_succ_eq_append_getElem h, List.filter_append]
                      simp [h8]
                    conv => whnf
                    repeat (first | refine ACode.seq ?_ | (refine ACode.s_reg tys_ok ?_; conv => whnf) | refine ACode.s_block ?_ | refine ACode.s_scope ?_ | (refine ACode.s_cond ?_; conv => whnf) | (refine ACode.s_exit ?_; conv => whnf) | (refine ACode.s_ret ?_; conv => whnf) | (refine ACode.s_skip ?_; conv => whnf) | (refine ACode.s_label ?_; conv => whnf))
                    refine ⟨k + 1, ?_⟩
                    conv => whnf
                    repeat (refine And.intro ?_ ?_; (focus (first | rfl | (simp; done) | (first | exact hw1 | (rw [hrs]; done); done))); conv => whnf)
                    exact ⟨by omega, by omega⟩
                · have h : k = M.length := by simp at h; omega
                  subst h
                  have hMN : ∀ y, y ∈ M ↔ y ∈ N ∨ y = x := fun y => by
                    rw [hM.2, hN.2, List.mem_append, List.mem_singleton]
                    constructor
                    · rintro ⟨h | h, hv⟩
                      · exact .inl ⟨h, hv⟩
                      · exact .inr h
                    · rintro (⟨h, hv⟩ | rfl)
                      · exact ⟨.inl h, hv⟩
                      · exact ⟨.inr rfl, hvx⟩
                  have hrest := rest_eq hM.1 hN.1 hMN hxN
                  have hlen := rest_one hM.1 ((hMN x).2 (.inr rfl))
                  rw [hrest] at hlen
                  conv => whnf
                  repeat (first | refine ACode.seq ?_ | (refine ACode.s_reg tys_ok ?_; conv => whnf) | refine ACode.s_block ?_ | refine ACode.s_scope ?_ | (refine ACode.s_cond ?_; conv => whnf) | (refine ACode.s_exit ?_; conv => whnf) | (refine ACode.s_ret ?_; conv => whnf) | (refine ACode.s_skip ?_; conv => whnf) | (refine ACode.s_label ?_; conv => whnf))
                  refine ⟨fun _ => ?_, fun h => absurd h (by simp)⟩
                  conv => whnf
                  repeat (first | refine ACode.seq ?_ | (refine ACode.s_reg tys_ok ?_; conv => whnf) | refine ACode.s_block ?_ | refine ACode.s_scope ?_ | (refine ACode.s_cond ?_; conv => whnf) | (refine ACode.s_exit ?_; conv => whnf) | (refine ACode.s_ret ?_; conv => whnf) | (refine ACode.s_skip ?_; conv => whnf) | (refine ACode.s_label ?_; conv => whnf))
                  have hw : Wr .i64 (((List.map Rc.v N).length : Nat) + 1 : Int) = ((M.length : Nat) : Int) := by rw [Wr64 _ (by simp; omega) (by simp; omega), hlen]; simp
                  refine ⟨fun _ => ?_, fun h => absurd h (by rw [hw]; simp)⟩
                  conv => whnf
                  repeat (first | refine ACode.seq ?_ | (refine ACode.s_reg tys_ok ?_; conv => whnf) | refine ACode.s_block ?_ | refine ACode.s_scope ?_ | (refine ACode.s_cond ?_; conv => whnf) | (refine ACode.s_exit ?_; conv => whnf) | (refine ACode.s_ret ?_; conv => whnf) | (refine ACode.s_skip ?_; conv => whnf) | (refine ACode.s_label ?_; conv => whnf))
                  refine ACall.freeze 13 ?_ (by kernel_rfl)
                  conv => whnf
                  refine ⟨rv_closed _, ?_⟩
                  conv => whnf
                  repeat (refine ⟨(by first | rfl | (simp; done) : (_ : Nat) = _), ?_⟩; conv => whnf)
                  rw [hrest]
                  refine ACall.of_spec (same_spec N N (by omega) (fun y hy => (hNx y hy).co)) rfl fun z hz => ?_
                  subst hz
                  conv => whnf
                  repeat (first | refine ACode.seq ?_ | (refine ACode.s_reg tys_ok ?_; conv => whnf) | refine ACode.s_block ?_ | refine ACode.s_scope ?_ | (refine ACode.s_cond ?_; conv => whnf) | (refine ACode.s_exit ?_; conv => whnf) | (refine ACode.s_ret ?_; conv => whnf) | (refine ACode.s_skip ?_; conv => whnf) | (refine ACode.s_label ?_; conv => whnf))
                  exact .inr (by simp)
            · exact .inr rfl
  · exact .inr rfl
  · exact .inr rfl
end Go.Proofs.YtiojkoaefabjbaaGreatDoor
