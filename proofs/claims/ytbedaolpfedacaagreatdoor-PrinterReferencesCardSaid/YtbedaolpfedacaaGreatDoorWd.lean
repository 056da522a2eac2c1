/-
  The law of the references.
-/
import Derived.Test.YtbedaolpfedacaaGreatDoorWb
import Derived.Test.YtbedaolpfedacaaGreatDoorKf2
set_option linter.unusedVariables false
set_option linter.unusedSimpArgs false
namespace Go.Proofs.YtbedaolpfedacaaGreatDoor
open Go.Av Go.Av.Net Pl
set_option maxRecDepth 20000
theorem closed_lins (l : List LinI) : ∀ e ∈ l.map linIA, closed e = true := by
 intro e he
 obtain ⟨x, _, rfl⟩ := List.mem_map.1 he
 simp [closed, closeds, linIA]
theorem closed_offs (l : List OffI) : ∀ e ∈ l.map offIA, closed e = true := by
 intro e he
 obtain ⟨x, _, rfl⟩ := List.mem_map.1 he
 simp [closed, closeds, offIA]
theorem sm_lins {n : NwI} (sm : SmI n) {ls : List LinI} (h : ls.length ≤ 100000) (hn : ∀ x ∈ ls, x.name.length ≤ 8000) : SmI { n with lins := ls } :=
 ⟨sm.cals, sm.names, sm.opers, sm.offs, h, sm.clss, sm.nmt, sm.opt, sm.oft, hn, sm.clt, sm.hol, sm.cod⟩
theorem sm_offs {n : NwI} (sm : SmI n) {o : OffI} (ho : o ∈ n.offs) (h : n.offs.length ≤ 1000) : SmI { n with offs := n.offs ++ [o] } :=
 ⟨sm.cals, sm.names, sm.opers, by simp; omega, sm.lins, sm.clss, sm.nmt, sm.opt, fun x hx => by
  rcases List.mem_append.1 hx with h | h
  ·exact sm.oft x h
  ·rw [List.mem_singleton.1 h]; exact sm.oft o ho, sm.lit, sm.clt, sm.hol, fun x hx => by
  rcases List.mem_append.1 hx with h | h
  ·exact sm.cod x h
  ·rw [List.mem_singleton.1 h]; exact sm.cod o ho⟩
set_option maxHeartbeats 4000000 in
theorem references_law (n : NwI) (hcl : ∀ o ∈ n.offs, o.codes.length ≤ 9223372036854775807) (u : Int) (ku : inK .u8 u) (to : Int) (kt : inK .i64 to) : Ctr Tryz.prog 8 [netI n, .int .u8 u, .int .i64 to] (fun r => r = .bool true) := by
 refine Ctr.lits ?_
 refine Ctr.of_body Tryz.func8 rfl tys_ok (by kernel_rfl) ?_
 conv => whnf
 repeat (first | (refine ACode.st tys_ok rfl ?_; conv => whnf))
 refine ACall.of_spec (head_spec) rfl fun r hr => ?_
 subst hr
 conv => whnf
 repeat (first | (refine ACode.st tys_ok rfl ?_; conv => whnf))
 cases hS : smallB n with
 | false =>
  refine ACall.of_spec (small_at hcl hS) rfl fun r hr => ?_
  subst hr
  conv => whnf
  repeat (first | (refine ACode.st tys_ok rfl ?_; conv => whnf))
  repeat (first | ((first | refine ⟨fun _ => ?_, fun h => absurd h (by decide +kernel)⟩ | refine ⟨fun h => absurd h (by decide +kernel), fun _ => ?_⟩ | refine ⟨by decide, _, rfl, ?_⟩); conv => whnf) | (refine ACode.st tys_ok rfl ?_; conv => whnf))
  first | exact .inl rfl | exact .inr rfl
 | true =>
  have sm := small_sm hS
  refine ACall.of_spec (small_at hcl hS) rfl fun r hr => ?_
  subst hr
  conv => whnf
  repeat (first | (refine ACode.st tys_ok rfl ?_; conv => whnf))
  repeat (first | ((first | refine ⟨fun _ => ?_, fun h => absurd h (by decide +kernel)⟩ | refine ⟨fun h => absurd h (by decide +kernel), fun _ => ?_⟩ | refine ⟨by decide, _, rfl, ?_⟩); conv => whnf) | (refine ACode.st tys_ok rfl ?_; conv => whnf))
  refine ⟨fun h => ?_, fun h => ?_⟩
  ·have h14 : n.offs.length ≤ 14 := by simp at h; omega
   conv => whnf
   repeat (first | (refine ACode.st tys_ok rfl ?_; conv => whnf))
   refine ⟨fun h => ?_, fun h => ?_⟩
   ·have hl0 : 0 < n.lins.length := by
     cases e : n.lins with
     | nil => rw [e] at h; simp at h
     | cons x y => simp
    conv => whnf
    repeat (first | (refine ACode.st tys_ok rfl ?_; conv => whnf))
    cases hP : printB n with
    | false =>
     refine ACall.of_spec (printable_y sm hP) rfl fun r hr => ?_
     subst hr
     conv => whnf
     repeat (first | (refine ACode.st tys_ok rfl ?_; conv => whnf))
     repeat (first | ((first | refine ⟨fun _ => ?_, fun h => absurd h (by decide +kernel)⟩ | refine ⟨fun h => absurd h (by decide +kernel), fun _ => ?_⟩ | refine ⟨by decide, _, rfl, ?_⟩); conv => whnf) | (refine ACode.st tys_ok rfl ?_; conv => whnf))
     first | exact .inl rfl | exact .inr rfl
    | true =>
     refine ACall.of_spec (printable_y sm hP) rfl fun r hr => ?_
     subst hr
     conv => whnf
     repeat (first | (refine ACode.st tys_ok rfl ?_; conv => whnf))
     repeat (first | ((first | refine ⟨fun _ => ?_, fun h => absurd h (by decide +kernel)⟩ | refine ⟨fun h => absurd h (by decide +kernel), fun _ => ?_⟩ | refine ⟨by decide, _, rfl, ?_⟩); conv => whnf) | (refine ACode.st tys_ok rfl ?_; conv => whnf))
     have hu := inKu8.1 ku
     obtain ⟨K, hKe, hK⟩ : ∃ K : Nat, (Wr .i64 u).tmod ((n.lins.map linIA).length : Int) = (K : Int) ∧ K < n.lins.length := by
      refine ⟨u.toNat % n.lins.length, ?_, Nat.mod_lt _ hl0⟩
      rw [Wr64 _ (by omega) (by omega), List.length_map, Int.tmod_eq_emod_of_nonneg hu.1, Int.natCast_emod, Int.toNat_of_nonneg hu.1]
     have hcg : (n.lins.map linIA)[0 + ((K : Int)).toNat]? = some (linIA n.lins[K]) := by
      rw [Nat.zero_add, Int.toNat_natCast, List.getElem?_map, List.getElem?_eq_getElem hK]; rfl
     have hget : n.lins[K]? = some n.lins[K] := List.getElem?_eq_getElem hK
     have hnm : ∀ (f t : Int), ∀ x ∈ n.lins.set K { n.lins[K] with from_ := f, to_ := t }, x.name.length ≤ 8000 := fun f t x hx => by
      rcases List.mem_or_eq_of_mem_set hx with h | rfl
      ·exact sm.lit x h
      ·exact (sm.lit n.lins[K] (List.getElem_mem hK) : _)
     refine ⟨by rw [List.length_map]; omega, ?_⟩
     rw [hKe]
     conv => whnf
     repeat (first | (refine ACode.st tys_ok rfl ?_; conv => whnf))
     have hb : n.lins.length ≤ 45 := by
      unfold smallB at hS
      simp only [Bool.and_eq_true, decide_eq_true_eq, List.all_eq_true] at hS
      exact hS.1.1.1.1.2
     refine ⟨⟨rfl, by rw [List.nil_append, List.length_map]; omega⟩, ?_⟩
     conv => whnf
     repeat (first | (refine ACode.st tys_ok rfl ?_; conv => whnf))
     rw [List.nil_append]
     refine ⟨fun g => ?_, fun g => ?_⟩
     ·have g : 0 ≤ to := by simp at g; omega
      conv => whnf
      repeat (first | (refine ACode.st tys_ok rfl ?_; conv => whnf))
      refine ⟨fun g2 => ?_, fun g2 => ?_⟩
      ·have g2 : (n.offs.length : Int) ≤ to := by simp at g2; omega
       have hout : to < 0 ∨ (n.offs.length : Int) ≤ to := .inr g2
       conv => whnf
       repeat (first | (refine ACode.st tys_ok rfl ?_; conv => whnf))
       refine ⟨⟨by omega, by rw [List.length_map]; omega⟩, ?_⟩
       conv => whnf
       repeat (first | (refine ACode.st tys_ok rfl ?_; conv => whnf))
       refine ⟨_, hcg, ?_⟩
       conv => whnf
       repeat (first | (refine ACode.st tys_ok rfl ?_; conv => whnf))
       generalize hE : (List.map linIA n.lins).set _ _ = ls
       obtain rfl : ls = (n.lins.set K { n.lins[K] with to_ := to }).map linIA := by
        rw [← hE, List.map_set, Nat.zero_add, Int.toNat_natCast]; rfl
       clear hS
       have hbad := bad_to (n := n) hget hout
       have smb := sm_lins sm (ls := n.lins.set K { n.lins[K] with to_ := to }) (by rw [List.length_set]; omega) (hnm n.lins[K].from_ to)
       repeat (first | ((first | refine ⟨fun _ => ?_, fun h => absurd h (by decide +kernel)⟩ | refine ⟨fun h => absurd h (by decide +kernel), fun _ => ?_⟩ | refine ⟨by decide, _, rfl, ?_⟩); conv => whnf) | (refine ACode.st tys_ok rfl ?_; conv => whnf))
       refine ACall.freeze 2 ?_ (by kernel_rfl)
       conv => whnf
       refine ⟨closed_lins _, ?_⟩
       conv => whnf
       repeat (refine ⟨(by first | rfl | (simp; done) : (_ : Nat) = _), ?_⟩; conv => whnf)
       refine ACall.of_spec (printable_y smb hbad) rfl fun r hr => ?_
       subst hr
       conv => whnf
       repeat (first | (refine ACode.st tys_ok rfl ?_; conv => whnf))
       repeat (first | ((first | refine ⟨fun _ => ?_, fun h => absurd h (by decide +kernel)⟩ | refine ⟨fun h => absurd h (by decide +kernel), fun _ => ?_⟩ | refine ⟨by decide, _, rfl, ?_⟩); conv => whnf) | (refine ACode.st tys_ok rfl ?_; conv => whnf))
       refine ACall.of_spec (print_n smb hbad) rfl fun r hr => ?_
       subst hr
       conv => whnf
       repeat (first | (refine ACode.st tys_ok rfl ?_; conv => whnf))
       repeat (first | ((first | refine ⟨fun _ => ?_, fun h => absurd h (by decide +kernel)⟩ | refine ⟨fun h => absurd h (by decide +kernel), fun _ => ?_⟩ | refine ⟨by decide, _, rfl, ?_⟩); conv => whnf) | (refine ACode.st tys_ok rfl ?_; conv => whnf))
       exact .inr rfl
      ·have g2 : to < n.offs.length := by simp at g2; omega
       have hto : to.toNat < n.offs.length := by omega
       have hog : (n.offs.map offIA)[to.toNat]? = some (offIA n.offs[to.toNat]) := by rw [List.getElem?_map, List.getElem?_eq_getElem hto]; rfl
       have hom : n.offs[to.toNat] ∈ n.offs := List.getElem_mem hto
       generalize n.offs[to.toNat] = o at hog hom
       conv => whnf
       repeat (first | (refine ACode.st tys_ok rfl ?_; conv => whnf))
       clear hS
       refine ACode.drawO [0, 1, 2, 4, 5, 6, 7, 8, 9, 3, 10, 11, 12] [9] [3, 10, 12] [4, 5, 6, 7, 8, 9] tys_ok (by kernel_rfl) (by kernel_rfl) ?_
       conv => whnf
       refine ⟨rfl, ?_⟩
       conv => whnf
       refine ⟨⟨rfl, rfl⟩, ?_⟩
       conv => whnf
       refine ⟨rfl, ?_⟩
       conv => whnf
       refine ⟨⟨rfl, rfl⟩, ?_⟩
       conv => whnf
       refine ⟨rfl, ?_⟩
       conv => whnf
       refine ⟨⟨rfl, rfl⟩, ?_⟩
       conv => whnf
       refine ⟨rfl, ?_⟩
       conv => whnf
       refine ⟨by omega, _, hog, ?_⟩
       conv => whnf
       refine ⟨⟨rfl, rfl⟩, ?_⟩
       conv => whnf
       refine ⟨rfl, ?_⟩
       conv => whnf
       refine ⟨⟨rfl, rfl⟩, ?_⟩
       conv => whnf
       refine ⟨rfl, ?_⟩
       conv => whnf
       refine ⟨⟨rfl, rfl⟩, ?_⟩
       conv => whnf
       refine ⟨⟨rfl, by simp; omega⟩, ?_⟩
       rw [List.nil_append]
       conv => whnf
       refine ⟨⟨rfl, by simp; omega⟩, ?_⟩
       conv => whnf
       repeat (first | (refine ACode.st tys_ok rfl ?_; conv => whnf))
       have hoe : List.map offIA n.offs ++ [AV.agg [.str o.name, .int .i64 o.oper, .int .i64 o.cal, .int .i64 o.pockets, .int .i64 o.passes, .int .i64 o.minutes, .sl 1 (strs o.codes)]] = (n.offs ++ [o]).map offIA := by rw [List.map_append]; rfl
       rw [hoe]
       have hP1 := more_off hP hom
       have sm1 := sm_offs sm hom (by omega)
       refine ACall.of_vagg _ _ (printable_y sm1 hP1) rfl (fun R hR => ?_) ?_
       ·conv => whnf
        refine ⟨⟨rfl, closed_offs _⟩, ?_⟩
        conv => whnf
        refine ⟨⟨rfl, closed_lins _⟩, ?_⟩
        conv => whnf
        exact hR
       ·conv => whnf
        repeat (first | (refine ACode.st tys_ok rfl ?_; conv => whnf))
        repeat (first | ((first | refine ⟨fun _ => ?_, fun h => absurd h (by decide +kernel)⟩ | refine ⟨fun h => absurd h (by decide +kernel), fun _ => ?_⟩ | refine ⟨by decide, _, rfl, ?_⟩); conv => whnf) | (refine ACode.st tys_ok rfl ?_; conv => whnf))
        refine ⟨⟨by omega, by rw [List.length_map]; omega⟩, ?_⟩
        conv => whnf
        repeat (first | (refine ACode.st tys_ok rfl ?_; conv => whnf))
        refine ⟨_, hcg, ?_⟩
        conv => whnf
        repeat (first | (refine ACode.st tys_ok rfl ?_; conv => whnf))
        generalize hE : (List.map linIA n.lins).set _ _ = ls
        obtain rfl : ls = (n.lins.set K { n.lins[K] with from_ := n.offs.length }).map linIA := by
         rw [← hE, List.map_set, Nat.zero_add, Int.toNat_natCast, List.length_map]; rfl
        have hbad := bad_from hom hget
        have smb := sm_lins sm1 (ls := n.lins.set K { n.lins[K] with from_ := n.offs.length }) (by rw [List.length_set]; omega) (hnm n.offs.length n.lins[K].to_)
        repeat (first | ((first | refine ⟨fun _ => ?_, fun h => absurd h (by decide +kernel)⟩ | refine ⟨fun h => absurd h (by decide +kernel), fun _ => ?_⟩ | refine ⟨by decide, _, rfl, ?_⟩); conv => whnf) | (refine ACode.st tys_ok rfl ?_; conv => whnf))
        refine ACall.freeze 3 ?_ (by kernel_rfl)
        conv => whnf
        refine ⟨closed_offs _, ?_⟩
        conv => whnf
        repeat (refine ⟨(by first | rfl | (simp; done) : (_ : Nat) = _), ?_⟩; conv => whnf)
        refine ACall.freeze 2 ?_ (by kernel_rfl)
        conv => whnf
        refine ⟨closed_lins _, ?_⟩
        conv => whnf
        repeat (refine ⟨(by first | rfl | (simp; done) : (_ : Nat) = _), ?_⟩; conv => whnf)
        refine ACall.of_spec (printable_y smb hbad) rfl fun r hr => ?_
        subst hr
        conv => whnf
        repeat (first | (refine ACode.st tys_ok rfl ?_; conv => whnf))
        repeat (first | ((first | refine ⟨fun _ => ?_, fun h => absurd h (by decide +kernel)⟩ | refine ⟨fun h => absurd h (by decide +kernel), fun _ => ?_⟩ | refine ⟨by decide, _, rfl, ?_⟩); conv => whnf) | (refine ACode.st tys_ok rfl ?_; conv => whnf))
        exact .inr rfl
     ·have g : to < 0 := by simp at g; omega
      have hout : to < 0 ∨ (n.offs.length : Int) ≤ to := .inl g
      conv => whnf
      repeat (first | (refine ACode.st tys_ok rfl ?_; conv => whnf))
      refine ⟨⟨by omega, by rw [List.length_map]; omega⟩, ?_⟩
      conv => whnf
      repeat (first | (refine ACode.st tys_ok rfl ?_; conv => whnf))
      refine ⟨_, hcg, ?_⟩
      conv => whnf
      repeat (first | (refine ACode.st tys_ok rfl ?_; conv => whnf))
      generalize hE : (List.map linIA n.lins).set _ _ = ls
      obtain rfl : ls = (n.lins.set K { n.lins[K] with to_ := to }).map linIA := by
       rw [← hE, List.map_set, Nat.zero_add, Int.toNat_natCast]; rfl
      clear hS
      have hbad := bad_to (n := n) hget hout
      have smb := sm_lins sm (ls := n.lins.set K { n.lins[K] with to_ := to }) (by rw [List.length_set]; omega) (hnm n.lins[K].from_ to)
      repeat (first | ((first | refine ⟨fun _ => ?_, fun h => absurd h (by decide +kernel)⟩ | refine ⟨fun h => absurd h (by decide +kernel), fun _ => ?_⟩ | refine ⟨by decide, _, rfl, ?_⟩); conv => whnf) | (refine ACode.st tys_ok rfl ?_; conv => whnf))
      refine ACall.freeze 2 ?_ (by kernel_rfl)
      conv => whnf
      refine ⟨closed_lins _, ?_⟩
      conv => whnf
      repeat (refine ⟨(by first | rfl | (simp; done) : (_ : Nat) = _), ?_⟩; conv => whnf)
      refine ACall.of_spec (printable_y smb hbad) rfl fun r hr => ?_
      subst hr
      conv => whnf
      repeat (first | (refine ACode.st tys_ok rfl ?_; conv => whnf))
      repeat (first | ((first | refine ⟨fun _ => ?_, fun h => absurd h (by decide +kernel)⟩ | refine ⟨fun h => absurd h (by decide +kernel), fun _ => ?_⟩ | refine ⟨by decide, _, rfl, ?_⟩); conv => whnf) | (refine ACode.st tys_ok rfl ?_; conv => whnf))
      refine ACall.of_spec (print_n smb hbad) rfl fun r hr => ?_
      subst hr
      conv => whnf
      repeat (first | (refine ACode.st tys_ok rfl ?_; conv => whnf))
      repeat (first | ((first | refine ⟨fun _ => ?_, fun h => absurd h (by decide +kernel)⟩ | refine ⟨fun h => absurd h (by decide +kernel), fun _ => ?_⟩ | refine ⟨by decide, _, rfl, ?_⟩); conv => whnf) | (refine ACode.st tys_ok rfl ?_; conv => whnf))
      exact .inr rfl
   ·conv => whnf
    repeat (first | (refine ACode.st tys_ok rfl ?_; conv => whnf))
    first | exact .inl rfl | exact .inr rfl
  ·conv => whnf
   repeat (first | (refine ACode.st tys_ok rfl ?_; conv => whnf))
   first | exact .inl rfl | exact .inr rfl
end Go.Proofs.YtbedaolpfedacaaGreatDoor
