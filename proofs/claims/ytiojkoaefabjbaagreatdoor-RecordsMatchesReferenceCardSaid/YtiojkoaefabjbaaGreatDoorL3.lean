/-
  RecordsSets.
-/
import Derived.Test.YtiojkoaefabjbaaGreatDoorL2
import Derived.Test.YtiojkoaefabjbaaGreatDoorS2
import Derived.Test.YtiojkoaefabjbaaGreatDoorG7
set_option linter.unusedVariables false
set_option linter.unusedSimpArgs false
namespace Go.Proofs.YtiojkoaefabjbaaGreatDoor
open Go.Av Go.Shelf Pl Go.RowKit
def inB (l : List Rc) (r : Rc) : Bool := decide (r ∈ l)
set_option maxRecDepth 100000 in
theorem in_spec (l : List Rc) (r : Rc) (hl : l.length ≤ 1000) (hx : ∀ y ∈ l, RcOK y) : Ctr Tryz.prog 23 [rcs l, r.v] (fun x => x = .bool (inB l r)) := by
  refine Ctr.of_body Tryz.func23 rfl tys_ok (by kernel_rfl) ?_
  conv => whnf
  repeat (first | refine ACode.seq ?_ | (refine ACode.s_reg tys_ok ?_; conv => whnf) | refine ACode.s_block ?_ | refine ACode.s_scope ?_ | (refine ACode.s_cond ?_; conv => whnf) | (refine ACode.s_exit ?_; conv => whnf) | (refine ACode.s_ret ?_; conv => whnf) | (refine ACode.s_skip ?_; conv => whnf) | (refine ACode.s_label ?_; conv => whnf))
  refine ACode.loopD (fun k : Nat => mk 19 [(0, rcs l), (3, .ptr 0 0), (4, .lit false), (5, .int .i64 k)]) (fun _ => [.cells [.int .i64 r.sc, .int .i64 r.nu, .int .i64 r.ki, .int .i64 r.ti, .str r.la, .sl 1 (strs r.co)]]) (fun k => k ≤ l.length ∧ r ∉ l.take k) (fun k => l.length - k) (fun _ _ => ⟨rfl, rfl, trivial⟩) ⟨0, ?_⟩ (fun _ => rfl) fun k hk => ?_
  · conv => whnf
    repeat (refine And.intro ?_ ?_; (focus (first | rfl | (simp; done))); conv => whnf)
    simp
  · obtain ⟨hk, hn⟩ := hk
    repeat (first | refine ACode.seq ?_ | (refine ACode.s_reg tys_ok ?_; conv => whnf) | refine ACode.s_block ?_ | refine ACode.s_scope ?_ | (refine ACode.s_cond ?_; conv => whnf) | (refine ACode.s_exit ?_; conv => whnf) | (refine ACode.s_ret ?_; conv => whnf) | (refine ACode.s_skip ?_; conv => whnf) | (refine ACode.s_label ?_; conv => whnf))
    refine ⟨fun h => ?_, fun h => ?_⟩
    · have h : k < l.length := by simpa using h
      have hxk := hx _ (List.getElem_mem h)
      conv => whnf
      repeat (first | refine ACode.seq ?_ | (refine ACode.s_reg tys_ok ?_; conv => whnf) | refine ACode.s_block ?_ | refine ACode.s_scope ?_ | (refine ACode.s_cond ?_; conv => whnf) | (refine ACode.s_exit ?_; conv => whnf) | (refine ACode.s_ret ?_; conv => whnf) | (refine ACode.s_skip ?_; conv => whnf) | (refine ACode.s_label ?_; conv => whnf))
      refine ACode.draw [] tys_ok (by kernel_rfl) (by kernel_rfl) ?_
      conv => whnf
      refine ⟨by omega, _, rv_get l k h, ?_⟩
      conv => whnf
      refine ⟨_, ⟨compare_spec l[k] r hxk.co, rfl⟩, ?_⟩
      conv => whnf
      refine ⟨fun h2 => ?_, fun h2 => ?_⟩
      · have h2 : cmpR l[k] r = 0 := by simpa using h2
        conv => whnf
        repeat (first | refine ACode.seq ?_ | (refine ACode.s_reg tys_ok ?_; conv => whnf) | refine ACode.s_block ?_ | refine ACode.s_scope ?_ | (refine ACode.s_cond ?_; conv => whnf) | (refine ACode.s_exit ?_; conv => whnf) | (refine ACode.s_ret ?_; conv => whnf) | (refine ACode.s_skip ?_; conv => whnf) | (refine ACode.s_label ?_; conv => whnf))
        refine congrArg AV.bool ?_
        have := (cmpR_ok.eq0 _ _).1 h2
        unfold inB
        rw [decide_eq_true (by rw [← this]; exact List.getElem_mem h)]
      · have h2 : cmpR l[k] r ≠ 0 := by simpa using h2
        conv => whnf
        repeat (first | refine ACode.seq ?_ | (refine ACode.s_reg tys_ok ?_; conv => whnf) | refine ACode.s_block ?_ | refine ACode.s_scope ?_ | (refine ACode.s_cond ?_; conv => whnf) | (refine ACode.s_exit ?_; conv => whnf) | (refine ACode.s_ret ?_; conv => whnf) | (refine ACode.s_skip ?_; conv => whnf) | (refine ACode.s_label ?_; conv => whnf))
        refine ⟨k + 1, ?_⟩
        conv => whnf
        repeat (refine And.intro ?_ ?_; (focus (first | rfl | (simp; done) | (first | (rw [Wr64 _ (by omega) (by omega)]; rfl); done))); conv => whnf)
        refine ⟨⟨by omega, ?_⟩, by omega⟩
        rw [List.take_succ_eq_append_getElem h, List.mem_append, List.mem_singleton, not_or]
        exact ⟨hn, fun e => h2 ((cmpR_ok.eq0 _ _).2 e.symm)⟩
    · have h : k = l.length := by simp at h; omega
      rw [h, List.take_length] at hn
      conv => whnf
      repeat (first | refine ACode.seq ?_ | (refine ACode.s_reg tys_ok ?_; conv => whnf) | refine ACode.s_block ?_ | refine ACode.s_scope ?_ | (refine ACode.s_cond ?_; conv => whnf) | (refine ACode.s_exit ?_; conv => whnf) | (refine ACode.s_ret ?_; conv => whnf) | (refine ACode.s_skip ?_; conv => whnf) | (refine ACode.s_label ?_; conv => whnf))
      exact congrArg AV.bool (by simp [inB, hn])
def twR (r : List Rc) (k : Nat) : List Rc := (r.reverse.take k).flatMap fun x => [x, x]
theorem dup_len : ∀ l : List Rc, (l.flatMap fun x => [x, x]).length = 2 * l.length
  | [] => rfl
  | x :: l => by have := dup_len l; simp only [List.flatMap_cons, List.length_append, List.length_cons, List.length_nil, this]; omega
theorem tw_len (r : List Rc) (k : Nat) (h : k ≤ r.length) : (twR r k).length = 2 * k := by
  unfold twR
  rw [dup_len]
  simp
  omega
theorem tw_mem (r : List Rc) (y : Rc) : y ∈ twR r r.length ↔ y ∈ r := by
  unfold twR
  rw [List.take_of_length_le (by simp)]
  simp
theorem tw_succ (r : List Rc) (k : Nat) (h : k < r.length) : twR r (k + 1) = twR r k ++ [r[r.length - 1 - k], r[r.length - 1 - k]] := by
  unfold twR
  rw [List.take_succ_eq_append_getElem (by simpa using h), List.flatMap_append]
  simp
theorem norm_eq {l : List Sn} {r r' N N' : List Rc} (h : NormR l r N) (h' : NormR l r' N') (hm : ∀ y, y ∈ r ↔ y ∈ r') : N = N' :=
  strict_unique cmpR_ok N N' h.1 h'.1 fun y => by rw [h.2, h'.2, hm]
theorem strict_nodup {l : List Rc} (h : Strict cmpR l) : l.Nodup := by
  refine List.Pairwise.imp (fun {a b} hab e => ?_) h
  subst e
  rw [cmpR_ok.self] at hab
  cases hab
theorem nodup_len : ∀ (a b : List Rc), a.Nodup → (∀ x ∈ a, x ∈ b) → a.length ≤ b.length
  | [], b, _, _ => Nat.zero_le _
  | x :: a, b, h, hs => by
    obtain ⟨h1, h2⟩ := List.nodup_cons.1 h
    have hx := hs x (List.mem_cons_self ..)
    have := nodup_len a (b.erase x) h2 fun y hy => (List.mem_erase_of_ne (fun e => h1 (by rw [← e]; exact hy))).2 (hs y (List.mem_cons_of_mem _ hy))
    rw [List.length_erase_of_mem hx] at this
    have := List.length_pos_of_mem hx
    simp only [List.length_cons]
    omega
theorem norm_len {l : List Sn} {r N : List Rc} (h : NormR l r N) : N.length ≤ r.length :=
  nodup_len N r (strict_nodup h.1) fun y hy => ((h.2 y).1 hy).1
set_option maxHeartbeats 4000000 in
set_option maxRecDepth 100000 in
theorem sets_law (l : List Sn) (r : List Rc) : Ctr Tryz.prog 5 [sns l, rcs r] (fun x => x = .bool true) := by
  refine Ctr.lits ?_
  refine Ctr.of_body Tryz.func5 rfl tys_ok (by kernel_rfl) ?_
  conv => whnf
  repeat (first | refine ACode.seq ?_ | (refine ACode.s_reg tys_ok ?_; conv => whnf) | refine ACode.s_block ?_ | refine ACode.s_scope ?_ | (refine ACode.s_cond ?_; conv => whnf) | (refine ACode.s_exit ?_; conv => whnf) | (refine ACode.s_ret ?_; conv => whnf) | (refine ACode.s_skip ?_; conv => whnf) | (refine ACode.s_label ?_; conv => whnf))
  refine ACall.of_spec (head_spec) rfl fun r hr => ?_
  subst hr
  conv => whnf
  repeat (first | refine ACode.seq ?_ | (refine ACode.s_reg tys_ok ?_; conv => whnf) | refine ACode.s_block ?_ | refine ACode.s_scope ?_ | (refine ACode.s_cond ?_; conv => whnf) | (refine ACode.s_exit ?_; conv => whnf) | (refine ACode.s_ret ?_; conv => whnf) | (refine ACode.s_skip ?_; conv => whnf) | (refine ACode.s_label ?_; conv => whnf))
  repeat' (first | (refine And.intro (fun _ => ?_) (fun _ => ?_) <;> conv => whnf) | (refine ACall.of_spec (few_spec l r 12 (by decide)) rfl fun r hr => ?_; subst hr; conv => whnf) | refine ACode.seq ?_ | (refine ACode.s_reg tys_ok ?_; conv => whnf) | refine ACode.s_block ?_ | refine ACode.s_scope ?_ | (refine ACode.s_cond ?_; conv => whnf) | (refine ACode.s_exit ?_; conv => whnf) | (refine ACode.s_ret ?_; conv => whnf) | (refine ACode.s_skip ?_; conv => whnf) | (refine ACode.s_label ?_; conv => whnf))
  · exact .inr rfl
  rename_i h1
  have h1 : fewB l r 12 = true := by simpa using h1
  unfold fewB at h1
  simp only [Bool.and_eq_true, decide_eq_true_eq, List.all_eq_true] at h1
  obtain ⟨⟨_, hrl⟩, hsh⟩ := h1
  have hrl : r.length ≤ 12 := by omega
  have hx : ∀ y ∈ r, RcOK y := fun y hy => short_ok (hsh y hy)
  refine ACode.loopD (fun k : Nat => mk 112 [(0, sns l), (1, rcs r), (4, .lit false), (5, .bool true), (6, .own 0 6 0 (twR r k).length), (7, .int .i64 ((r.length : Int) - 1 - k))]) (fun k => [.arr eT 6 (rv (twR r k))]) (fun k => k ≤ r.length) (fun k => r.length - k) (fun _ _ => ⟨rfl, rv_ok _⟩) ⟨0, ?_⟩ (fun _ => rfl) fun k hk => ?_
  · conv => whnf
    repeat (refine And.intro ?_ ?_; (focus (first | rfl | (simp; done) | (first | (rw [Wr64 _ (by simp; omega) (by simp; omega)]; simp; done); done))); conv => whnf)
    exact Nat.zero_le _
  · repeat (first | refine ACode.seq ?_ | (refine ACode.s_reg tys_ok ?_; conv => whnf) | refine ACode.s_block ?_ | refine ACode.s_scope ?_ | (refine ACode.s_cond ?_; conv => whnf) | (refine ACode.s_exit ?_; conv => whnf) | (refine ACode.s_ret ?_; conv => whnf) | (refine ACode.s_skip ?_; conv => whnf) | (refine ACode.s_label ?_; conv => whnf))
    refine ⟨fun h => ?_, fun h => ?_⟩
    · have h : k < r.length := by simp at h; omega
      have hi : ((r.length : Int) - 1 - k) = ((r.length - 1 - k : Nat) : Int) := by omega
      have hg := rv_get r (r.length - 1 - k) (by omega)
      conv => whnf
      repeat (first | refine ACode.seq ?_ | (refine ACode.s_reg tys_ok ?_; conv => whnf) | refine ACode.s_block ?_ | refine ACode.s_scope ?_ | (refine ACode.s_cond ?_; conv => whnf) | (refine ACode.s_exit ?_; conv => whnf) | (refine ACode.s_ret ?_; conv => whnf) | (refine ACode.s_skip ?_; conv => whnf) | (refine ACode.s_label ?_; conv => whnf))
      refine ACode.draw [10] tys_ok (by kernel_rfl) (by kernel_rfl) ?_
      conv => whnf
      refine ⟨by omega, _, by rw [hi, Int.toNat_natCast]; exact hg, ?_⟩
      conv => whnf
      refine ⟨by omega, _, by rw [hi, Int.toNat_natCast]; exact hg, ?_⟩
      conv => whnf
      refine ⟨rfl, ?_⟩
      conv => whnf
      have htl := tw_len r k hk
      refine ⟨⟨by simp [rv], by simp [rv]; omega⟩, ?_⟩
      conv => whnf
      repeat (first | refine ACode.seq ?_ | (refine ACode.s_reg tys_ok ?_; conv => whnf) | refine ACode.s_block ?_ | refine ACode.s_scope ?_ | (refine ACode.s_cond ?_; conv => whnf) | (refine ACode.s_exit ?_; conv => whnf) | (refine ACode.s_ret ?_; conv => whnf) | (refine ACode.s_skip ?_; conv => whnf) | (refine ACode.s_label ?_; conv => whnf))
      refine ⟨k + 1, ?_⟩
      have hts := tw_succ r k h
      conv => whnf
      repeat (refine And.intro ?_ ?_; (focus (first | rfl | (simp; done) | (first | (rw [Wr64 _ (by omega) (by omega)]; push_cast; omega) | (rw [hts]; simp [rv]; done); done))); conv => whnf)
      refine ⟨congrArg (HO.arr eT 6) (by rw [hts]; simp [rv, Rc.v]), by omega, by omega⟩
    · have h : k = r.length := by simp at h; omega
      subst h
      conv => whnf
      repeat (first | refine ACode.seq ?_ | (refine ACode.s_reg tys_ok ?_; conv => whnf) | refine ACode.s_block ?_ | refine ACode.s_scope ?_ | (refine ACode.s_cond ?_; conv => whnf) | (refine ACode.s_exit ?_; conv => whnf) | (refine ACode.s_ret ?_; conv => whnf) | (refine ACode.s_skip ?_; conv => whnf) | (refine ACode.s_label ?_; conv => whnf))
      refine ACall.of_spec (normalAny_spec l r (by omega) hx) rfl fun x hxx => ?_
      obtain ⟨N, rfl, hN⟩ := hxx
      have hNx : ∀ y ∈ N, RcOK y := fun y hy => hx y ((hN.2 y).1 hy).1
      have hNl : N.length ≤ 12 := Nat.le_trans (norm_len hN) hrl
      have htl := tw_len r r.length (Nat.le_refl _)
      have htx : ∀ y ∈ twR r r.length, RcOK y := fun y hy => hx y ((tw_mem r y).1 hy)
      conv => whnf
      repeat (first | refine ACode.seq ?_ | (refine ACode.s_reg tys_ok ?_; conv => whnf) | refine ACode.s_block ?_ | refine ACode.s_scope ?_ | (refine ACode.s_cond ?_; conv => whnf) | (refine ACode.s_exit ?_; conv => whnf) | (refine ACode.s_ret ?_; conv => whnf) | (refine ACode.s_skip ?_; conv => whnf) | (refine ACode.s_label ?_; conv => whnf))
      refine ACall.freeze 0 ?_ (by kernel_rfl)
      conv => whnf
      refine ⟨rv_closed _, ?_⟩
      conv => whnf
      repeat (refine ⟨(by first | rfl | (simp; done) : (_ : Nat) = _), ?_⟩; conv => whnf)
      refine ACall.of_spec (normalAny_spec l (twR r r.length) (by omega) htx) rfl fun x hxx => ?_
      obtain ⟨N2, rfl, hN2⟩ := hxx
      have e2 : N2 = N := norm_eq hN2 hN (fun y => tw_mem r y)
      subst e2
      conv => whnf
      repeat (first | refine ACode.seq ?_ | (refine ACode.s_reg tys_ok ?_; conv => whnf) | refine ACode.s_block ?_ | refine ACode.s_scope ?_ | (refine ACode.s_cond ?_; conv => whnf) | (refine ACode.s_exit ?_; conv => whnf) | (refine ACode.s_ret ?_; conv => whnf) | (refine ACode.s_skip ?_; conv => whnf) | (refine ACode.s_label ?_; conv => whnf))
      refine ACall.of_spec (same_spec N2 N2 (by omega) (fun y hy => (hNx y hy).co)) rfl fun r hr => ?_
      subst hr
      conv => whnf
      repeat (first | refine ACode.seq ?_ | (refine ACode.s_reg tys_ok ?_; conv => whnf) | refine ACode.s_block ?_ | refine ACode.s_scope ?_ | (refine ACode.s_cond ?_; conv => whnf) | (refine ACode.s_exit ?_; conv => whnf) | (refine ACode.s_ret ?_; conv => whnf) | (refine ACode.s_skip ?_; conv => whnf) | (refine ACode.s_label ?_; conv => whnf))
      refine ⟨fun _ => ?_, fun h => absurd h (by simp)⟩
      conv => whnf
      repeat (first | refine ACode.seq ?_ | (refine ACode.s_reg tys_ok ?_; conv => whnf) | refine ACode.s_block ?_ | refine ACode.s_scope ?_ | (refine ACode.s_cond ?_; conv => whnf) | (refine ACode.s_exit ?_; conv => whnf) | (refine ACode.s_ret ?_; conv => whnf) | (refine ACode.s_skip ?_; conv => whnf) | (refine ACode.s_label ?_; conv => whnf))
      refine ACall.of_spec (normalAny_spec l N2 (by omega) hNx) rfl fun x hxx => ?_
      obtain ⟨N3, rfl, hN3⟩ := hxx
      have e3 : N3 = N2 := strict_unique cmpR_ok N3 N2 hN3.1 hN2.1 fun y => by rw [hN3.2]; exact ⟨fun h => h.1, fun h => ⟨h, ((hN.2 y).1 h).2⟩⟩
      subst e3
      conv => whnf
      repeat (first | refine ACode.seq ?_ | (refine ACode.s_reg tys_ok ?_; conv => whnf) | refine ACode.s_block ?_ | refine ACode.s_scope ?_ | (refine ACode.s_cond ?_; conv => whnf) | (refine ACode.s_exit ?_; conv => whnf) | (refine ACode.s_ret ?_; conv => whnf) | (refine ACode.s_skip ?_; conv => whnf) | (refine ACode.s_label ?_; conv => whnf))
      refine ACall.of_spec (same_spec N3 N3 (by omega) (fun y hy => (hNx y hy).co)) rfl fun r hr => ?_
      subst hr
      conv => whnf
      repeat (first | refine ACode.seq ?_ | (refine ACode.s_reg tys_ok ?_; conv => whnf) | refine ACode.s_block ?_ | refine ACode.s_scope ?_ | (refine ACode.s_cond ?_; conv => whnf) | (refine ACode.s_exit ?_; conv => whnf) | (refine ACode.s_ret ?_; conv => whnf) | (refine ACode.s_skip ?_; conv => whnf) | (refine ACode.s_label ?_; conv => whnf))
      conv => whnf
      refine ⟨fun h => absurd h (by simp), fun _ => ?_⟩
      have hord : ∀ i (h1 : i + 1 < N3.length), cmpR N3[i] N3[i + 1] = -1 := fun i h1 => (List.pairwise_iff_getElem.1 hN.1) i (i + 1) (by omega) h1 (by omega)
      conv => whnf
      repeat (first | refine ACode.seq ?_ | (refine ACode.s_reg tys_ok ?_; conv => whnf) | refine ACode.s_block ?_ | refine ACode.s_scope ?_ | (refine ACode.s_cond ?_; conv => whnf) | (refine ACode.s_exit ?_; conv => whnf) | (refine ACode.s_ret ?_; conv => whnf) | (refine ACode.s_skip ?_; conv => whnf) | (refine ACode.s_label ?_; conv => whnf))
      refine ACode.loopD (fun k : Nat => mk 112 [(0, sns l), (1, rcs r), (4, .lit false), (5, .bool true), (8, rcs N3), (9, .int .i64 k)]) (fun _ => [.dead]) (fun k => k ≤ N3.length) (fun k => N3.length - k) (fun _ _ => ⟨rfl, trivial⟩) ⟨0, ?_⟩ (fun _ => rfl) fun k hk => ?_
      · conv => whnf
        repeat (refine And.intro ?_ ?_; (focus (first | rfl | (simp; done))); conv => whnf)
        exact Nat.zero_le _
      · repeat (first | refine ACode.seq ?_ | (refine ACode.s_reg tys_ok ?_; conv => whnf) | refine ACode.s_block ?_ | refine ACode.s_scope ?_ | (refine ACode.s_cond ?_; conv => whnf) | (refine ACode.s_exit ?_; conv => whnf) | (refine ACode.s_ret ?_; conv => whnf) | (refine ACode.s_skip ?_; conv => whnf) | (refine ACode.s_label ?_; conv => whnf))
        refine ⟨fun h => ?_, fun h => ?_⟩
        · have h : k < N3.length := by simpa using h
          have hxk := hNx _ (List.getElem_mem h)
          have hmk := (hN.2 N3[k]).1 (List.getElem_mem h)
          have hin : inB r N3[k] = true := decide_eq_true hmk.1
          have hv := hmk.2
          have hg := rv_get N3 k h
          have hw1 : Wr .i64 ((k : Int) + 1) = ((k + 1 : Nat) : Int) := by rw [Wr64 _ (by omega) (by omega)]; rfl
          conv => whnf
          repeat (first | refine ACode.seq ?_ | (refine ACode.s_reg tys_ok ?_; conv => whnf) | refine ACode.s_block ?_ | refine ACode.s_scope ?_ | (refine ACode.s_cond ?_; conv => whnf) | (refine ACode.s_exit ?_; conv => whnf) | (refine ACode.s_ret ?_; conv => whnf) | (refine ACode.s_skip ?_; conv => whnf) | (refine ACode.s_label ?_; conv => whnf))
          refine ACode.draw [] tys_ok (by kernel_rfl) (by kernel_rfl) ?_
          conv => whnf
          rcases Nat.eq_zero_or_pos k with h0 | h0
          · subst h0
            repeat (first | (refine ⟨by omega, _, (by exact hg), ?_⟩; conv => whnf) | (refine ⟨_, ⟨valid_spec l N3[0] hxk, rfl⟩, ?_⟩; conv => whnf) | (refine ⟨_, ⟨in_spec r N3[0] (by omega) hx, rfl⟩, ?_⟩; conv => whnf) | (refine no_br ?_ (fun _ => ?_); (focus (first | (simp [hv, hin]; done); done)); conv => whnf) | (refine yes_br ?_ (fun _ => ?_); (focus (first | (simp [hv, hin]; done); done)); conv => whnf) | refine ACode.seq ?_ | (refine ACode.s_reg tys_ok ?_; conv => whnf) | refine ACode.s_block ?_ | refine ACode.s_scope ?_ | (refine ACode.s_cond ?_; conv => whnf) | (refine ACode.s_exit ?_; conv => whnf) | (refine ACode.s_ret ?_; conv => whnf) | (refine ACode.s_skip ?_; conv => whnf) | (refine ACode.s_label ?_; conv => whnf))
            refine ⟨0 + 1, ?_⟩
            conv => whnf
            repeat (refine And.intro ?_ ?_; (focus (first | rfl | (simp; done) | (first | exact hw1; done))); conv => whnf)
            exact ⟨by omega, by omega⟩
          · obtain ⟨j, rfl⟩ : ∃ j, k = j + 1 := ⟨k - 1, by omega⟩
            have hz : (0 : Int) < ((j + 1 : Nat) : Int) := by omega
            have hw : Wr .i64 (((j + 1 : Nat) : Int) - 1) = (j : Int) := by rw [Wr64 _ (by omega) (by omega)]; omega
            have hg2 := rv_get N3 j (by omega)
            have hxj := hNx N3[j] (List.getElem_mem _)
            have hc := hord j (by omega)
            repeat (first | (refine ⟨by omega, _, (by first | exact hg | (rw [hw, Int.toNat_natCast]; exact hg2)), ?_⟩; conv => whnf) | (refine ⟨_, ⟨valid_spec l N3[j + 1] hxk, rfl⟩, ?_⟩; conv => whnf) | (refine ⟨_, ⟨in_spec r N3[j + 1] (by omega) hx, rfl⟩, ?_⟩; conv => whnf) | (refine ⟨_, ⟨compare_spec N3[j] N3[j + 1] hxj.co, rfl⟩, ?_⟩; conv => whnf) | (refine no_br ?_ (fun _ => ?_); (focus (first | (simp [hv, hin, hz, hc]; done); done)); conv => whnf) | (refine yes_br ?_ (fun _ => ?_); (focus (first | (simp [hv, hin, hz, hc]; done); done)); conv => whnf) | refine ACode.seq ?_ | (refine ACode.s_reg tys_ok ?_; conv => whnf) | refine ACode.s_block ?_ | refine ACode.s_scope ?_ | (refine ACode.s_cond ?_; conv => whnf) | (refine ACode.s_exit ?_; conv => whnf) | (refine ACode.s_ret ?_; conv => whnf) | (refine ACode.s_skip ?_; conv => whnf) | (refine ACode.s_label ?_; conv => whnf))
            refine ⟨j + 1 + 1, ?_⟩
            conv => whnf
            repeat (refine And.intro ?_ ?_; (focus (first | rfl | (simp; done) | (first | exact hw1; done))); conv => whnf)
            exact ⟨by omega, by omega⟩
        · have h : k = N3.length := by simp at h; omega
          conv => whnf
          repeat (first | refine ACode.seq ?_ | (refine ACode.s_reg tys_ok ?_; conv => whnf) | refine ACode.s_block ?_ | refine ACode.s_scope ?_ | (refine ACode.s_cond ?_; conv => whnf) | (refine ACode.s_exit ?_; conv => whnf) | (refine ACode.s_ret ?_; conv => whnf) | (refine ACode.s_skip ?_; conv => whnf) | (refine ACode.s_label ?_; conv => whnf))
          refine ACode.loopD (fun k : Nat => mk 112 [(0, sns l), (1, rcs r), (4, .lit false), (5, .bool true), (8, rcs N3), (10, .int .i64 k)]) (fun _ => [.dead]) (fun k => k ≤ r.length) (fun k => r.length - k) (fun _ _ => ⟨rfl, trivial⟩) ⟨0, ?_⟩ (fun _ => rfl) fun k hk => ?_
          · conv => whnf
            repeat (refine And.intro ?_ ?_; (focus (first | rfl | (simp; done))); conv => whnf)
            exact Nat.zero_le _
          · repeat (first | refine ACode.seq ?_ | (refine ACode.s_reg tys_ok ?_; conv => whnf) | refine ACode.s_block ?_ | refine ACode.s_scope ?_ | (refine ACode.s_cond ?_; conv => whnf) | (refine ACode.s_exit ?_; conv => whnf) | (refine ACode.s_ret ?_; conv => whnf) | (refine ACode.s_skip ?_; conv => whnf) | (refine ACode.s_label ?_; conv => whnf))
            refine ⟨fun h => ?_, fun h => ?_⟩
            · have h : k < r.length := by simpa using h
              have hxk := hx _ (List.getElem_mem h)
              have hg := rv_get r k h
              have hb : validB l r[k] = inB N3 r[k] := by
                rw [Bool.eq_iff_iff]
                unfold inB
                rw [decide_eq_true_iff, hN.2]
                exact ⟨fun h => ⟨List.getElem_mem _, h⟩, fun h => h.2⟩
              have hw1 : Wr .i64 ((k : Int) + 1) = ((k + 1 : Nat) : Int) := by rw [Wr64 _ (by omega) (by omega)]; rfl
              conv => whnf
              repeat (first | refine ACode.seq ?_ | (refine ACode.s_reg tys_ok ?_; conv => whnf) | refine ACode.s_block ?_ | refine ACode.s_scope ?_ | (refine ACode.s_cond ?_; conv => whnf) | (refine ACode.s_exit ?_; conv => whnf) | (refine ACode.s_ret ?_; conv => whnf) | (refine ACode.s_skip ?_; conv => whnf) | (refine ACode.s_label ?_; conv => whnf))
              refine ACode.draw [] tys_ok (by kernel_rfl) (by kernel_rfl) ?_
              conv => whnf
              cases hq : inB N3 r[k] with
              | false =>
                rw [hq] at hb
                repeat (first | (refine ⟨by omega, _, (by exact hg), ?_⟩; conv => whnf) | (refine ⟨_, ⟨valid_spec l r[k] hxk, rfl⟩, ?_⟩; conv => whnf) | (refine ⟨_, ⟨in_spec N3 r[k] (by omega) hNx, rfl⟩, ?_⟩; conv => whnf) | (refine no_br ?_ (fun _ => ?_); (focus (first | (simp [hb, hq]; done); done)); conv => whnf) | (refine yes_br ?_ (fun _ => ?_); (focus (first | (simp [hb, hq]; done); done)); conv => whnf) | refine ACode.seq ?_ | (refine ACode.s_reg tys_ok ?_; conv => whnf) | refine ACode.s_block ?_ | refine ACode.s_scope ?_ | (refine ACode.s_cond ?_; conv => whnf) | (refine ACode.s_exit ?_; conv => whnf) | (refine ACode.s_ret ?_; conv => whnf) | (refine ACode.s_skip ?_; conv => whnf) | (refine ACode.s_label ?_; conv => whnf))
                refine ⟨k + 1, ?_⟩
                conv => whnf
                repeat (refine And.intro ?_ ?_; (focus (first | rfl | (simp; done) | (first | exact hw1; done))); conv => whnf)
                exact ⟨by omega, by omega⟩
              | true =>
                rw [hq] at hb
                repeat (first | (refine ⟨by omega, _, (by exact hg), ?_⟩; conv => whnf) | (refine ⟨_, ⟨valid_spec l r[k] hxk, rfl⟩, ?_⟩; conv => whnf) | (refine ⟨_, ⟨in_spec N3 r[k] (by omega) hNx, rfl⟩, ?_⟩; conv => whnf) | (refine no_br ?_ (fun _ => ?_); (focus (first | (simp [hb, hq]; done); done)); conv => whnf) | (refine yes_br ?_ (fun _ => ?_); (focus (first | (simp [hb, hq]; done); done)); conv => whnf) | refine ACode.seq ?_ | (refine ACode.s_reg tys_ok ?_; conv => whnf) | refine ACode.s_block ?_ | refine ACode.s_scope ?_ | (refine ACode.s_cond ?_; conv => whnf) | (refine ACode.s_exit ?_; conv => whnf) | (refine ACode.s_ret ?_; conv => whnf) | (refine ACode.s_skip ?_; conv => whnf) | (refine ACode.s_label ?_; conv => whnf))
                refine ⟨k + 1, ?_⟩
                conv => whnf
                repeat (refine And.intro ?_ ?_; (focus (first | rfl | (simp; done) | (first | exact hw1; done))); conv => whnf)
                exact ⟨by omega, by omega⟩
            · have h : k = r.length := by simp at h; omega
              conv => whnf
              repeat (first | refine ACode.seq ?_ | (refine ACode.s_reg tys_ok ?_; conv => whnf) | refine ACode.s_block ?_ | refine ACode.s_scope ?_ | (refine ACode.s_cond ?_; conv => whnf) | (refine ACode.s_exit ?_; conv => whnf) | (refine ACode.s_ret ?_; conv => whnf) | (refine ACode.s_skip ?_; conv => whnf) | (refine ACode.s_label ?_; conv => whnf))
              exact .inr rfl
end Go.Proofs.YtiojkoaefabjbaaGreatDoor
