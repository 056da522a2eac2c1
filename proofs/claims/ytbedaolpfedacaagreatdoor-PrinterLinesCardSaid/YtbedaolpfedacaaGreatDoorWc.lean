/-
  The law of the lines.
-/
import Derived.Test.YtbedaolpfedacaaGreatDoorWb
set_option linter.unusedVariables false
set_option linter.unusedSimpArgs false
namespace Go.Proofs.YtbedaolpfedacaaGreatDoor
open Go.Av Go.Av.Net Pl
set_option maxRecDepth 20000
def sumH (l : List Cal) : Nat := (l.map fun c => c.hols.length).sum
def sumC (l : List OffI) : Nat := (l.map fun o => if o.codes = [] then 0 else 1).sum
theorem sum_snoc {α : Type} (f : α → Nat) (l : List α) (k : Nat) (h : k < l.length) : ((l.take (k + 1)).map f).sum = ((l.take k).map f).sum + f l[k] := by
 rw [List.take_succ_eq_append_getElem h, List.map_append, List.sum_append]; simp
theorem sum_le {α : Type} (f : α → Nat) (M : Nat) : ∀ l : List α, (∀ x ∈ l, f x ≤ M) → (l.map f).sum ≤ l.length * M
 | [], _ => by simp
 | x :: l, h => by
  have ih := sum_le f M l fun y hy => h y (List.mem_cons_of_mem _ hy)
  have h0 := h x (List.mem_cons_self ..)
  rw [List.map_cons, List.sum_cons, List.length_cons, Nat.succ_mul]
  omega
theorem cnt_snoc (s : Bs) (k : Nat) (h : k < s.length) : nlC (s.take (k + 1)) = nlC (s.take k) + (if s[k] = 10 then 1 else 0) := by
 rw [List.take_succ_eq_append_getElem h, nlC_app]
 unfold nlC
 by_cases e : s[k] = 10
 ·rw [e]; rfl
 ·rw [if_neg e]; simp [e]
set_option maxHeartbeats 4000000 in
theorem lines_law (n : NwI) (hcl : ∀ o ∈ n.offs, o.codes.length ≤ 9223372036854775807) : Ctr Tryz.prog 7 [netI n] (fun r => r = .bool true) := by
 refine Ctr.lits ?_
 refine Ctr.of_body Tryz.func7 rfl tys_ok (by kernel_rfl) ?_
 conv => whnf
 repeat (first | (refine ACode.st tys_ok rfl ?_; conv => whnf))
 refine ACall.of_spec (head_spec) rfl fun r hr => ?_
 subst hr
 conv => whnf
 repeat (first | (refine ACode.st tys_ok rfl ?_; conv => whnf))
 cases hS : smallB n with
 | false =>
  refine ACall.of_spec (small_at hcl hS) rfl fun r hr => ?_
  subst hr
  conv => whnf
  repeat (first | (refine ACode.st tys_ok rfl ?_; conv => whnf))
  repeat (first | ((first | refine ⟨fun _ => ?_, fun h => absurd h (by decide +kernel)⟩ | refine ⟨fun h => absurd h (by decide +kernel), fun _ => ?_⟩ | refine ⟨by decide, _, rfl, ?_⟩); conv => whnf) | (refine ACode.st tys_ok rfl ?_; conv => whnf))
  first | exact .inl rfl | exact .inr rfl
 | true =>
  have sm := small_sm hS
  refine ACall.of_spec (small_at hcl hS) rfl fun r hr => ?_
  subst hr
  conv => whnf
  repeat (first | (refine ACode.st tys_ok rfl ?_; conv => whnf))
  repeat (first | ((first | refine ⟨fun _ => ?_, fun h => absurd h (by decide +kernel)⟩ | refine ⟨fun h => absurd h (by decide +kernel), fun _ => ?_⟩ | refine ⟨by decide, _, rfl, ?_⟩); conv => whnf) | (refine ACode.st tys_ok rfl ?_; conv => whnf))
  cases hP : printB n with
  | false =>
   refine ACall.of_spec (printable_y sm hP) rfl fun r hr => ?_
   subst hr
   conv => whnf
   repeat (first | (refine ACode.st tys_ok rfl ?_; conv => whnf))
   repeat (first | ((first | refine ⟨fun _ => ?_, fun h => absurd h (by decide +kernel)⟩ | refine ⟨fun h => absurd h (by decide +kernel), fun _ => ?_⟩ | refine ⟨by decide, _, rfl, ?_⟩); conv => whnf) | (refine ACode.st tys_ok rfl ?_; conv => whnf))
   first | exact .inl rfl | exact .inr rfl
  | true =>
   have hlen := print_len n sm hP
   refine ACall.of_spec (printable_y sm hP) rfl fun r hr => ?_
   subst hr
   conv => whnf
   repeat (first | (refine ACode.st tys_ok rfl ?_; conv => whnf))
   repeat (first | ((first | refine ⟨fun _ => ?_, fun h => absurd h (by decide +kernel)⟩ | refine ⟨fun h => absurd h (by decide +kernel), fun _ => ?_⟩ | refine ⟨by decide, _, rfl, ?_⟩); conv => whnf) | (refine ACode.st tys_ok rfl ?_; conv => whnf))
   obtain ⟨b1, b2, b3, b4, b5, b6⟩ : n.cals.length ≤ 8 ∧ n.opers.length ≤ 8 ∧ n.offs.length ≤ 15 ∧ n.lins.length ≤ 45 ∧ n.clss.length ≤ 6 ∧ ∀ c ∈ n.cals, c.hols.length ≤ 50 := by
    unfold smallB at hS
    simp only [Bool.and_eq_true, decide_eq_true_eq, List.all_eq_true] at hS
    obtain ⟨⟨⟨⟨⟨⟨⟨⟨h1, h2⟩, h3⟩, h4⟩, h5⟩, h6⟩, h7⟩, h8⟩, h9⟩ := hS
    exact ⟨h1, h3, h4, h5, h6, fun c hc => (h8 c hc).1⟩
   have hH : ∀ k, sumH (n.cals.take k) ≤ 400 := fun k => by
    have := sum_le (fun c : Cal => c.hols.length) 50 (n.cals.take k) fun c hc => b6 c (List.mem_of_mem_take hc)
    have h2 : (n.cals.take k).length ≤ 8 := by rw [List.length_take]; omega
    unfold sumH; omega
   have hC : ∀ k, sumC (n.offs.take k) ≤ 15 := fun k => by
    have := sum_le (fun o : OffI => if o.codes = [] then 0 else 1) 1 (n.offs.take k) fun o _ => by split <;> omega
    have h2 : (n.offs.take k).length ≤ 15 := by rw [List.length_take]; omega
    unfold sumC; omega
   have hwn : wantN n = 4 * n.cals.length + n.opers.length + 7 * n.offs.length + n.lins.length + 4 * n.clss.length + sumH n.cals + sumC n.offs := by
    unfold wantN sumH sumC; omega
   generalize hw0 : 4 * n.cals.length + n.opers.length + 7 * n.offs.length + n.lins.length + 4 * n.clss.length = W0 at hwn
   have hwl : W0 ≤ 300 := by omega
   have e0 : Wr .i64 (Wr .i64 (Wr .i64 (Wr .i64 (Wr .i64 (4 * ((n.cals.map calA).length : Int)) + ((n.opers.map operA).length : Int)) + Wr .i64 (7 * ((n.offs.map offIA).length : Int))) + ((n.lins.map linIA).length : Int)) + Wr .i64 (4 * ((n.clss.map clsA).length : Int))) = (W0 : Int) := by
    simp only [List.length_map]
    rw [Wr64 (4 * (n.cals.length : Int)) (by omega) (by omega), Wr64 (4 * (n.clss.length : Int)) (by omega) (by omega), Wr64 (7 * (n.offs.length : Int)) (by omega) (by omega)]
    rw [Wr64 (4 * (n.cals.length : Int) + _) (by omega) (by omega)]
    rw [Wr64 (4 * (n.cals.length : Int) + _ + _) (by omega) (by omega)]
    rw [Wr64 (4 * (n.cals.length : Int) + _ + _ + _) (by omega) (by omega)]
    rw [Wr64 _ (by omega) (by omega)]
    omega
   rw [e0]
   refine ACode.loopD (fun k : Nat => mk 114 [(1, .ptr 0 0), (3, .bool true), (4, .int .i64 ((W0 + sumH (n.cals.take k) : Nat) : Int)), (5, .int .i64 k)]) (fun _ => [netH n]) (fun k => k ≤ n.cals.length) (fun k => n.cals.length - k) (fun _ _ => ⟨rfl, rfl, trivial⟩) ⟨0, ?_⟩ (fun _ => rfl) fun k hk => ?_
   ·conv => whnf
    repeat (refine And.intro ?_ ?_; (focus (first | rfl | (simp; done))); conv => whnf)
    exact Nat.zero_le _
   ·unfold netH
    repeat (first | (refine ACode.st tys_ok rfl ?_; conv => whnf))
    refine ⟨fun h => ?_, fun h => ?_⟩
    ·have h : k < n.cals.length := by simpa using h
     have hw1 : Wr .i64 ((k : Int) + 1) = ((k + 1 : Nat) : Int) := by rw [Wr64 _ (by omega) (by omega)]; rfl
     have hcg : (n.cals.map calA)[k]? = some (calA n.cals[k]) := by rw [List.getElem?_map, List.getElem?_eq_getElem h]; rfl
     have hst := sum_snoc (fun c : Cal => c.hols.length) n.cals k h
     have hle := hH (k + 1)
     generalize hcx : n.cals[k] = c at *
     conv => whnf
     repeat (first | (refine ACode.st tys_ok rfl ?_; conv => whnf))
     refine ⟨by omega, _, hcg, ?_⟩
     conv => whnf
     repeat (first | (refine ACode.st tys_ok rfl ?_; conv => whnf))
     have hst' : sumH (n.cals.take (k + 1)) = sumH (n.cals.take k) + c.hols.length := hst
     refine ⟨k + 1, ?_⟩
     conv => whnf
     repeat (refine And.intro ?_ ?_; (focus (first | rfl | (simp; done) | (first | exact hw1 | (rw [List.length_map, Wr64 _ (by omega) (by omega), hst']; omega); done))); conv => whnf)
     omega
    ·have h : k = n.cals.length := by simp at h; omega
     rw [h, List.take_length]
     have hH0 : sumH n.cals ≤ 400 := by have := hH n.cals.length; rwa [List.take_length] at this
     generalize hw1 : W0 + sumH n.cals = W1 at *
     conv => whnf
     repeat (first | (refine ACode.st tys_ok rfl ?_; conv => whnf))
     refine ACode.loopD (fun k : Nat => mk 114 [(1, .ptr 0 0), (3, .bool true), (4, .int .i64 ((W1 + sumC (n.offs.take k) : Nat) : Int)), (6, .int .i64 k)]) (fun _ => [netH n]) (fun k => k ≤ n.offs.length) (fun k => n.offs.length - k) (fun _ _ => ⟨rfl, rfl, trivial⟩) ⟨0, ?_⟩ (fun _ => rfl) fun k hk => ?_
     ·conv => whnf
      repeat (refine And.intro ?_ ?_; (focus (first | rfl | (simp; done))); conv => whnf)
      exact Nat.zero_le _
     ·unfold netH
      repeat (first | (refine ACode.st tys_ok rfl ?_; conv => whnf))
      refine ⟨fun h => ?_, fun h => ?_⟩
      ·have h : k < n.offs.length := by simpa using h
       have hw1 : Wr .i64 ((k : Int) + 1) = ((k + 1 : Nat) : Int) := by rw [Wr64 _ (by omega) (by omega)]; rfl
       have hcg : (n.offs.map offIA)[k]? = some (offIA n.offs[k]) := by rw [List.getElem?_map, List.getElem?_eq_getElem h]; rfl
       have hst : sumC (n.offs.take (k + 1)) = sumC (n.offs.take k) + if n.offs[k].codes = [] then 0 else 1 := sum_snoc (fun o : OffI => if o.codes = [] then 0 else 1) n.offs k h
       have hle := hC (k + 1)
       generalize hcx : n.offs[k] = o at *
       conv => whnf
       repeat (first | (refine ACode.st tys_ok rfl ?_; conv => whnf))
       refine ⟨by omega, _, hcg, ?_⟩
       conv => whnf
       repeat (first | (refine ACode.st tys_ok rfl ?_; conv => whnf))
       refine ⟨fun z => ?_, fun z => ?_⟩
       ·have z : ¬ o.codes = [] := by intro e; rw [e] at z; simp [strs] at z
        rw [if_neg z] at hst
        conv => whnf
        repeat (first | (refine ACode.st tys_ok rfl ?_; conv => whnf))
        refine ⟨k + 1, ?_⟩
        conv => whnf
        repeat (refine And.intro ?_ ?_; (focus (first | rfl | (simp; done) | (first | exact hw1 | (rw [Wr64 _ (by omega) (by omega), hst]; omega); done))); conv => whnf)
        omega
       ·have z : o.codes = [] := by
         cases hc : o.codes with
         | nil => rfl
         | cons x y => rw [hc] at z; simp [strs] at z
        rw [if_pos z] at hst
        conv => whnf
        repeat (first | (refine ACode.st tys_ok rfl ?_; conv => whnf))
        refine ⟨k + 1, ?_⟩
        conv => whnf
        repeat (refine And.intro ?_ ?_; (focus (first | rfl | (simp; done) | (first | exact hw1 | (rw [hst]; omega); done))); conv => whnf)
        omega
      ·have h : k = n.offs.length := by simp at h; omega
       rw [h, List.take_length]
       rw [show W1 + sumC n.offs = wantN n by omega]
       have hC0 : sumC n.offs ≤ 15 := by have := hC n.offs.length; rwa [List.take_length] at this
       conv => whnf
       repeat (first | (refine ACode.st tys_ok rfl ?_; conv => whnf))
       refine ACall.of_spec (print_y sm hP) rfl fun r hr => ?_
       subst hr
       conv => whnf
       repeat (first | (refine ACode.st tys_ok rfl ?_; conv => whnf))
       have hnl := nl_print hP
       have hcnt : ∀ k, nlC ((printT n).take k) ≤ (printT n).length := fun k => by
        have := List.count_le_length (a := (10 : UInt8)) (l := (printT n).take k)
        rw [List.length_take] at this
        unfold nlC; omega
       refine ACode.loopD (fun k : Nat => mk 114 [(3, .bool true), (4, .int .i64 ((wantN n : Nat) : Int)), (7, .str (printT n)), (8, .int .i64 ((nlC ((printT n).take k) : Nat) : Int)), (9, .int .i64 k)]) (fun _ => [netH n]) (fun k => k ≤ (printT n).length) (fun k => (printT n).length - k) (fun _ _ => ⟨rfl, rfl, trivial⟩) ⟨0, ?_⟩ (fun _ => rfl) fun k hk => ?_
       ·conv => whnf
        repeat (refine And.intro ?_ ?_; (focus (first | rfl | (simp; done))); conv => whnf)
        exact Nat.zero_le _
       ·unfold netH
        repeat (first | (refine ACode.st tys_ok rfl ?_; conv => whnf))
        refine ⟨fun h => ?_, fun h => ?_⟩
        ·have h : k < (printT n).length := by simpa using h
         have hw1 : Wr .i64 ((k : Int) + 1) = ((k + 1 : Nat) : Int) := by rw [Wr64 _ (by omega) (by omega)]; rfl
         have hst := cnt_snoc (printT n) k h
         have hle := hcnt (k + 1)
         conv => whnf
         repeat (first | (refine ACode.st tys_ok rfl ?_; conv => whnf))
         refine ⟨⟨by omega, by omega⟩, ?_⟩
         conv => whnf
         repeat (first | (refine ACode.st tys_ok rfl ?_; conv => whnf))
         have hgd : List.getD (printT n) ((k : Int)).toNat 0 = (printT n)[k] := by simp [h]
         rw [hgd]
         refine ⟨fun z => ?_, fun z => ?_⟩
         ·have z : (printT n)[k] = 10 := by simp at z; exact UInt8.toNat_inj.1 (by rw [show (10 : UInt8).toNat = 10 from rfl]; omega)
          rw [if_pos z] at hst
          conv => whnf
          repeat (first | (refine ACode.st tys_ok rfl ?_; conv => whnf))
          refine ⟨k + 1, ?_⟩
          conv => whnf
          repeat (refine And.intro ?_ ?_; (focus (first | rfl | (simp; done) | (first | exact hw1 | (rw [hst, Wr64 _ (by omega) (by omega)]; omega); done))); conv => whnf)
          omega
         ·have z : ¬ (printT n)[k] = 10 := fun e => by rw [e] at z; simp at z
          rw [if_neg z] at hst
          conv => whnf
          repeat (first | (refine ACode.st tys_ok rfl ?_; conv => whnf))
          refine ⟨k + 1, ?_⟩
          conv => whnf
          repeat (refine And.intro ?_ ?_; (focus (first | rfl | (simp; done) | (first | exact hw1 | (rw [hst]; omega); done))); conv => whnf)
          omega
        ·have h : k = (printT n).length := by simp at h; omega
         rw [h, List.take_length]
         rw [hnl]
         conv => whnf
         repeat (first | (refine ACode.st tys_ok rfl ?_; conv => whnf))
         repeat (first | ((first | refine ⟨fun _ => ?_, fun h => absurd h (by decide +kernel)⟩ | refine ⟨fun h => absurd h (by decide +kernel), fun _ => ?_⟩ | refine ⟨by decide, _, rfl, ?_⟩); conv => whnf))
         refine ⟨fun _ => ?_, fun h => absurd h (by simp)⟩
         conv => whnf
         repeat (first | (refine ACode.st tys_ok rfl ?_; conv => whnf))
         have hpe := print_empty hP
         have hqe : (decide (((wantN n : Nat) : Int) = 0) == (printT n == [])) = true := by
          by_cases z : printT n = []
          ·have := hpe.2 z; rw [z, this]; rfl
          ·have : ¬ wantN n = 0 := fun e => z (hpe.1 e)
           rw [decide_eq_false (by omega), show (printT n == []) = false by simpa using z]; rfl
         refine ⟨fun _ => ?_, fun h => absurd (hqe.symm.trans h) (by simp)⟩
         conv => whnf
         repeat (first | (refine ACode.st tys_ok rfl ?_; conv => whnf))
         refine ⟨fun z => ?_, fun z => ?_⟩
         ·have z : ¬ wantN n = 0 := by simp at z; omega
          have hne : printT n ≠ [] := fun e => z (hpe.2 e)
          have hp0 : 0 < (printT n).length := List.length_pos_iff.2 hne
          have hlast : (printT n).getLast? = some 10 := (end_print n).resolve_left hne
          have hwx : Wr .i64 (((printT n).length : Int) - 1) = (((printT n).length - 1 : Nat) : Int) := by rw [Wr64 _ (by omega) (by omega)]; omega
          have hgd : List.getD (printT n) ((((printT n).length - 1 : Nat) : Int)).toNat 0 = 10 := by
           rw [List.getLast?_eq_getElem?] at hlast
           rw [Int.toNat_natCast, List.getD_eq_getElem?_getD, hlast]
           rfl
          conv => whnf
          repeat (first | (refine ACode.st tys_ok rfl ?_; conv => whnf))
          rw [hwx]
          refine ⟨⟨by omega, by omega⟩, ?_⟩
          rw [hgd]
          conv => whnf
          repeat (first | (refine ACode.st tys_ok rfl ?_; conv => whnf))
          exact .inr rfl
         ·conv => whnf
          repeat (first | (refine ACode.st tys_ok rfl ?_; conv => whnf))
          exact .inr rfl
end Go.Proofs.YtbedaolpfedacaaGreatDoor
