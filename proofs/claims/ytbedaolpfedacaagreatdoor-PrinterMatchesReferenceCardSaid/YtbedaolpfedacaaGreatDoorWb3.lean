/-
  Printable: the function.
-/
import Derived.Test.YtbedaolpfedacaaGreatDoorWa3
import Derived.Test.YtbedaolpfedacaaGreatDoorRa3
import Derived.Test.YtbedaolpfedacaaGreatDoorNb3
import Derived.Test.YtbedaolpfedacaaGreatDoorPa3
import Derived.Test.YtbedaolpfedacaaGreatDoorKf3
import Derived.KernelRfl
set_option linter.unusedVariables false
set_option linter.unusedSimpArgs false
namespace Go.Proofs.YtbedaolpfedacaaGreatDoor
open Go.Av Go.Av.Net Pl
def H4 (n : NwI) (L : List Bs) (a1 a2 a3 : Fst) : List HO := [.cells [.sl 3 (n.cals.map calA), .sl 1 (strs n.names), .sl 1 (n.opers.map operA), .sl 7 (n.offs.map offIA), .sl 6 (n.lins.map linIA), .sl 3 (n.clss.map clsA)],
 .cells [.sl 1 (strs n.names), .mp (fkeys a1) (fvals a1)], .cells [.sl 1 (strs n.opers), .mp (fkeys a2) (fvals a2)], .cells [.sl 1 (strs L), .mp (fkeys a3) (fvals a3)]]
theorem all_snoc {α : Type} (p : α → Bool) (l : List α) (k : Nat) (h : k < l.length) : (l.take (k + 1)).all p = ((l.take k).all p && p l[k]) := by
 rw [List.take_succ_eq_append_getElem h, List.all_append]
 simp
theorem all_no {α : Type} (p : α → Bool) (l : List α) (k : Nat) (h : k < l.length) (hp : p l[k] = false) : l.all p = false := by
 rw [List.all_eq_false]
 exact ⟨l[k], List.getElem_mem h, by simp [hp]⟩
theorem three (a b c : Int) : [a, b, c].all numB = (numB a && numB b && numB c) := by simp [Bool.and_assoc]
theorem two (a b : Int) : [a, b].all numB = (numB a && numB b) := by simp
theorem no_cal {n : NwI} (h : n.cals.all calB = false) : printB n = false := by unfold printB; rw [h]; simp
theorem no_off {n : NwI} (h : n.offs.all (offB n) = false) : printB n = false := by unfold printB; rw [h]; simp
theorem no_lin {n : NwI} (h : n.lins.all (linB n) = false) : printB n = false := by unfold printB; rw [h]; simp
theorem no_cls {n : NwI} (h : n.clss.all clsB = false) : printB n = false := by unfold printB; rw [h]; simp
theorem no_lname {n : NwI} (h : (n.lins.all fun l => isNameB l.name) = false) : printB n = false := by unfold printB namesB; rw [h]; simp
theorem no_cname {n : NwI} (h : (n.clss.all fun l => isNameB l.name) = false) : printB n = false := by unfold printB namesB; rw [h]; simp
set_option maxRecDepth 20000 in
set_option maxHeartbeats 4000000 in
theorem Printable_spec (n : NwI) (sm : SmI n) : Ctr Tryz.prog 11 [netI n] (fun r => r = .bool (printB n)) := by
 have s1 := sm.cals
 have s2 := sm.offs
 have s3 := sm.lins
 have s4 := sm.clss
 refine Ctr.of_body Tryz.func11 rfl tys_ok (by kernel_rfl) ?_
 conv => whnf
 repeat (first | (refine ACode.st tys_ok rfl ?_; conv => whnf))
 refine ACall.of_spec (find1_spec n.names sm.names) rfl fun r hr => ?_
 obtain ⟨a1, rfl, f1⟩ := hr
 conv => whnf
 repeat (first | (refine ACode.st tys_ok rfl ?_; conv => whnf))
 refine ACall.of_spec (find2_spec n.opers sm.opers) rfl fun r hr => ?_
 obtain ⟨a2, rfl, f2⟩ := hr
 conv => whnf
 repeat (first | (refine ACode.st tys_ok rfl ?_; conv => whnf))
 generalize hL : n.offs.map (·.name) = L
 refine ACall.of_spec (find3_spec n.offs L hL.symm (by rw [← hL]; simpa using sm.offs)) rfl fun r hr => ?_
 obtain ⟨a3, rfl, f3⟩ := hr
 have hLo : ∀ x ∈ L, x.length ≤ 8000 := by rw [← hL]; intro x hx; obtain ⟨o, ho, rfl⟩ := List.mem_map.1 hx; exact sm.oft o ho
 have hLl : L.length ≤ 100000 := by rw [← hL]; simpa using sm.offs
 conv => whnf
 repeat (first | (refine ACode.st tys_ok rfl ?_; conv => whnf))
 refine ⟨fun g0 => ?_, fun g0 => ?_⟩
 ·have g0 : n.names.length = n.cals.length := by simp at g0; omega
  conv => whnf
  repeat (first | (refine ACode.st tys_ok rfl ?_; conv => whnf))
  refine ACall.of_spec (good_spec n.names a1 sm.names sm.nmt) rfl fun r hr => ?_
  subst hr
  conv => whnf
  repeat (first | (refine ACode.st tys_ok rfl ?_; conv => whnf))
  refine ⟨fun g1 => ?_, fun g1 => ?_⟩
  ·have g1 : n.names.all isNameB = true := by simpa using g1
   conv => whnf
   repeat (first | (refine ACode.st tys_ok rfl ?_; conv => whnf))
   refine ACall.of_spec (good_spec n.opers a2 sm.opers sm.opt) rfl fun r hr => ?_
   subst hr
   conv => whnf
   repeat (first | (refine ACode.st tys_ok rfl ?_; conv => whnf))
   refine ⟨fun g2 => ?_, fun g2 => ?_⟩
   ·have g2 : n.opers.all isNameB = true := by simpa using g2
    conv => whnf
    repeat (first | (refine ACode.st tys_ok rfl ?_; conv => whnf))
    refine ACall.of_spec (good_spec L a3 hLl hLo) rfl fun r hr => ?_
    subst hr
    conv => whnf
    repeat (first | (refine ACode.st tys_ok rfl ?_; conv => whnf))
    refine ⟨fun g3 => ?_, fun g3 => ?_⟩
    ·have g3 : L.all isNameB = false := by simpa using g3
     conv => whnf
     repeat (first | (refine ACode.st tys_ok rfl ?_; conv => whnf))
     exact congrArg AV.bool (by rw [← hL, List.all_map] at g3; unfold printB namesB; rw [show (n.offs.all fun o => isNameB o.name) = false from g3]; simp)
    ·have g3 : L.all isNameB = true := by simpa using g3
     conv => whnf
     repeat (first | (refine ACode.st tys_ok rfl ?_; conv => whnf))
     refine ACode.loopD (fun k : Nat => mk 158 [(1, .ptr 0 0), (3, .ptr 1 0), (4, .ptr 2 0), (5, .ptr 3 0), (46, .sl 3 (n.cals.map calA)), (47, .int .i64 n.cals.length), (48, .int .i64 k)])
      (fun _ => H4 n L a1 a2 a3) (fun k => k ≤ n.cals.length ∧ (n.cals.take k).all calB = true) (fun k => n.cals.length - k) (fun _ _ => ⟨rfl, rfl, rfl, rfl, rfl, trivial⟩) ⟨0, ?_⟩ (fun _ => rfl) fun k hk => ?_
     ·conv => whnf
      repeat (refine And.intro ?_ ?_; (focus (first | rfl | (simp; done))); conv => whnf)
      rfl
     ·obtain ⟨hk, ha⟩ := hk
      unfold H4
      repeat (first | (refine ACode.st tys_ok rfl ?_; conv => whnf))
      refine ⟨fun h => ?_, fun h => ?_⟩
      ·have h : k < n.cals.length := by simpa using h
       have hw1 : Wr .i64 ((k : Int) + 1) = ((k + 1 : Nat) : Int) := by rw [Wr64 _ (by omega) (by omega)]; rfl
       have hcg : (n.cals.map calA)[k]? = some (calA n.cals[k]) := by rw [List.getElem?_map, List.getElem?_eq_getElem h]; rfl
       conv => whnf
       repeat (first | (refine ACode.st tys_ok rfl ?_; conv => whnf))
       refine ⟨by omega, _, hcg, ?_⟩
       have hm := sm.hol n.cals[k] (List.getElem_mem h)
       generalize hcx : n.cals[k] = c at *
       have hno : calB c = false → printB n = false := fun e => no_cal (all_no calB n.cals k h (by rw [hcx]; exact e))
       conv => whnf
       repeat (first | (refine ACode.st tys_ok rfl ?_; conv => whnf))
       refine ⟨fun w7 => ?_, fun w7 => ?_⟩
       ·have w7 : c.week.length = 7 := by simp at w7; omega
        conv => whnf
        repeat (first | (refine ACode.st tys_ok rfl ?_; conv => whnf))
        refine ACall.of_spec (isInt_spec c.zone) rfl fun r hr => ?_
        subst hr
        conv => whnf
        repeat (first | (refine ACode.st tys_ok rfl ?_; conv => whnf))
        refine ⟨fun z => ?_, fun z => ?_⟩
        ·have z : intB c.zone = false := by simpa using z
         conv => whnf
         repeat (first | (refine ACode.st tys_ok rfl ?_; conv => whnf))
         exact congrArg AV.bool (hno (by unfold calB; rw [z]; simp)).symm
        ·have z : intB c.zone = true := by simpa using z
         conv => whnf
         repeat (first | (refine ACode.st tys_ok rfl ?_; conv => whnf))
         refine ACall.of_spec (containsI_spec c.hols _ [] (fun d => !intB d) hm.1 rfl rfl fun x _ => day_spec x) rfl fun r hr => ?_
         subst hr
         conv => whnf
         repeat (first | (refine ACode.st tys_ok rfl ?_; conv => whnf))
         refine ⟨fun y => ?_, fun y => ?_⟩
         ·have y : c.hols.all intB = false := by rw [← not_any]; simp only [Bool.not_eq_false']; exact y
          conv => whnf
          repeat (first | (refine ACode.st tys_ok rfl ?_; conv => whnf))
          exact congrArg AV.bool (hno (by unfold calB; rw [y]; simp)).symm
         ·have y : c.hols.all intB = true := by rw [← not_any]; simp only [Bool.not_eq_true']; exact y
          conv => whnf
          repeat (first | (refine ACode.st tys_ok rfl ?_; conv => whnf))
          refine ⟨k + 1, ?_⟩
          conv => whnf
          repeat (refine And.intro ?_ ?_; (focus (first | rfl | (simp; done) | (first | exact hw1; done))); conv => whnf)
          exact ⟨⟨by omega, by rw [all_snoc _ _ _ h, ha, hcx]; unfold calB; rw [z, y, decide_eq_true w7]; rfl⟩, by omega⟩
       ·have w7 : c.week.length ≠ 7 := by simp at w7; omega
        conv => whnf
        repeat (first | (refine ACode.st tys_ok rfl ?_; conv => whnf))
        exact congrArg AV.bool (hno (by unfold calB; rw [decide_eq_false w7]; rfl)).symm
      ·have h : k = n.cals.length := by simp at h; omega
       rw [h, List.take_length] at ha
       conv => whnf
       repeat (first | (refine ACode.st tys_ok rfl ?_; conv => whnf))
       refine ACode.loopD (fun k : Nat => mk 158 [(1, .ptr 0 0), (3, .ptr 1 0), (4, .ptr 2 0), (5, .ptr 3 0), (67, .sl 7 (n.offs.map offIA)), (68, .int .i64 n.offs.length), (69, .int .i64 k)])
        (fun _ => H4 n L a1 a2 a3) (fun k => k ≤ n.offs.length ∧ (n.offs.take k).all (offB n) = true) (fun k => n.offs.length - k) (fun _ _ => ⟨rfl, rfl, rfl, rfl, rfl, trivial⟩) ⟨0, ?_⟩ (fun _ => rfl) fun k hk => ?_
       ·conv => whnf
        repeat (refine And.intro ?_ ?_; (focus (first | rfl | (simp; done))); conv => whnf)
        rfl
       ·obtain ⟨hk, hb⟩ := hk
        unfold H4
        repeat (first | (refine ACode.st tys_ok rfl ?_; conv => whnf))
        refine ⟨fun h => ?_, fun h => ?_⟩
        ·have h : k < n.offs.length := by simpa using h
         have hw1 : Wr .i64 ((k : Int) + 1) = ((k + 1 : Nat) : Int) := by rw [Wr64 _ (by omega) (by omega)]; rfl
         have hcg : (n.offs.map offIA)[k]? = some (offIA n.offs[k]) := by rw [List.getElem?_map, List.getElem?_eq_getElem h]; rfl
         conv => whnf
         repeat (first | (refine ACode.st tys_ok rfl ?_; conv => whnf))
         refine ⟨by omega, _, hcg, ?_⟩
         have hm := sm.cod n.offs[k] (List.getElem_mem h)
         generalize hcx : n.offs[k] = o at *
         have hno : offB n o = false → printB n = false := fun e => no_off (all_no (offB n) n.offs k h (by rw [hcx]; exact e))
         conv => whnf
         repeat (first | (refine ACode.st tys_ok rfl ?_; conv => whnf))
         refine ACall.of_spec (has_spec' n.opers a2 o.oper sm.opers f2) rfl fun r hr => ?_
         subst hr
         conv => whnf
         repeat (first | (refine ACode.st tys_ok rfl ?_; conv => whnf))
         refine ⟨fun q1 => ?_, fun q1 => ?_⟩
         ·have q1 : refB n.opers o.oper = true := by simpa using q1
          conv => whnf
          repeat (first | (refine ACode.st tys_ok rfl ?_; conv => whnf))
          refine ACall.of_spec (has_spec' n.names a1 o.cal sm.names f1) rfl fun r hr => ?_
          subst hr
          conv => whnf
          repeat (first | (refine ACode.st tys_ok rfl ?_; conv => whnf))
          refine ⟨fun q2 => ?_, fun q2 => ?_⟩
          ·have q2 : refB n.names o.cal = true := by simpa using q2
           conv => whnf
           repeat (first | (refine ACode.st tys_ok rfl ?_; conv => whnf))
           refine ACall.freeze 5 ?_ (by kernel_rfl)
           conv => whnf
           refine ⟨by simp [closed], ?_⟩
           conv => whnf
           repeat (refine ⟨(by first | rfl | (simp; done) : (_ : Nat) = _), ?_⟩; conv => whnf)
           refine ACall.of_spec (areNumbers_spec [o.pockets, o.passes, o.minutes] (by simp)) rfl fun r hr => ?_
           subst hr
           conv => whnf
           repeat (first | (refine ACode.st tys_ok rfl ?_; conv => whnf))
           refine ⟨fun q3 => ?_, fun q3 => ?_⟩
           ·have q3 : [o.pockets, o.passes, o.minutes].all numB = false := by simp only [Bool.not_eq_true'] at q3; exact q3
            conv => whnf
            repeat (first | (refine ACode.st tys_ok rfl ?_; conv => whnf))
            exact congrArg AV.bool (hno (by unfold offB; rw [q1, q2]; rw [three] at q3; simp only [Bool.true_and]; rw [q3]; rfl)).symm
           ·have q3 : [o.pockets, o.passes, o.minutes].all numB = true := by simp only [Bool.not_eq_false'] at q3; exact q3
            conv => whnf
            repeat (first | (refine ACode.st tys_ok rfl ?_; conv => whnf))
            refine ACall.of_spec (containsS_spec o.codes _ [] (fun d => !isCodeB d) hm.1 rfl rfl fun x hx => code_spec' x (hm.2 x hx)) rfl fun r hr => ?_
            subst hr
            conv => whnf
            repeat (first | (refine ACode.st tys_ok rfl ?_; conv => whnf))
            refine ⟨fun y => ?_, fun y => ?_⟩
            ·have y : o.codes.all isCodeB = false := by rw [← not_any]; simp only [Bool.not_eq_false']; exact y
             conv => whnf
             repeat (first | (refine ACode.st tys_ok rfl ?_; conv => whnf))
             exact congrArg AV.bool (hno (by unfold offB; rw [y]; simp)).symm
            ·have y : o.codes.all isCodeB = true := by rw [← not_any]; simp only [Bool.not_eq_true']; exact y
             conv => whnf
             repeat (first | (refine ACode.st tys_ok rfl ?_; conv => whnf))
             refine ⟨k + 1, ?_⟩
             conv => whnf
             repeat (refine And.intro ?_ ?_; (focus (first | rfl | (simp; done) | (first | exact hw1; done))); conv => whnf)
             exact ⟨⟨by omega, by rw [all_snoc _ _ _ h, hb, hcx]; unfold offB; rw [q1, q2, y]; rw [three] at q3; simp only [Bool.true_and]; rw [q3]; rfl⟩, by omega⟩
          ·have q2 : refB n.names o.cal = false := by simpa using q2
           conv => whnf
           repeat (first | (refine ACode.st tys_ok rfl ?_; conv => whnf))
           exact congrArg AV.bool (hno (by unfold offB; rw [q2]; simp)).symm
         ·have q1 : refB n.opers o.oper = false := by simpa using q1
          conv => whnf
          repeat (first | (refine ACode.st tys_ok rfl ?_; conv => whnf))
          exact congrArg AV.bool (hno (by unfold offB; rw [q1]; simp)).symm
        ·have h : k = n.offs.length := by simp at h; omega
         rw [h, List.take_length] at hb
         conv => whnf
         repeat (first | (refine ACode.st tys_ok rfl ?_; conv => whnf))
         refine ACode.loopD (fun k : Nat => mk 158 [(1, .ptr 0 0), (3, .ptr 1 0), (4, .ptr 2 0), (5, .ptr 3 0), (101, .sl 6 (n.lins.map linIA)), (102, .int .i64 n.lins.length), (103, .int .i64 k)])
          (fun _ => H4 n L a1 a2 a3) (fun k => k ≤ n.lins.length ∧ (n.lins.take k).all (linB n) = true ∧ ((n.lins.take k).all fun l => isNameB l.name) = true) (fun k => n.lins.length - k) (fun _ _ => ⟨rfl, rfl, rfl, rfl, rfl, trivial⟩) ⟨0, ?_⟩ (fun _ => rfl) fun k hk => ?_
         ·conv => whnf
          repeat (refine And.intro ?_ ?_; (focus (first | rfl | (simp; done))); conv => whnf)
          rfl
         ·obtain ⟨hk, hd, he⟩ := hk
          unfold H4
          repeat (first | (refine ACode.st tys_ok rfl ?_; conv => whnf))
          refine ⟨fun h => ?_, fun h => ?_⟩
          ·have h : k < n.lins.length := by simpa using h
           have hw1 : Wr .i64 ((k : Int) + 1) = ((k + 1 : Nat) : Int) := by rw [Wr64 _ (by omega) (by omega)]; rfl
           have hcg : (n.lins.map linIA)[k]? = some (linIA n.lins[k]) := by rw [List.getElem?_map, List.getElem?_eq_getElem h]; rfl
           conv => whnf
           repeat (first | (refine ACode.st tys_ok rfl ?_; conv => whnf))
           refine ⟨by omega, _, hcg, ?_⟩
           have hm := sm.lit n.lins[k] (List.getElem_mem h)
           generalize hcx : n.lins[k] = x at *
           have hno : linB n x = false → printB n = false := fun e => no_lin (all_no (linB n) n.lins k h (by rw [hcx]; exact e))
           have hno2 : isNameB x.name = false → printB n = false := fun e => no_lname (all_no (fun l => isNameB l.name) n.lins k h (by rw [hcx]; exact e))
           have hlb : linB n x = (refB L x.from_ && refB L x.to_ && numB x.at_ && numB x.travel && numB x.load) := by unfold linB; rw [hL]
           conv => whnf
           repeat (first | (refine ACode.st tys_ok rfl ?_; conv => whnf))
           refine ACall.of_spec (pName_spec x.name hm) rfl fun r hr => ?_
           subst hr
           conv => whnf
           repeat (first | (refine ACode.st tys_ok rfl ?_; conv => whnf))
           refine ⟨fun q0 => ?_, fun q0 => ?_⟩
           ·have q0 : isNameB x.name = true := by simpa using q0
            conv => whnf
            repeat (first | (refine ACode.st tys_ok rfl ?_; conv => whnf))
            refine ACall.of_spec (has_spec' L a3 x.from_ hLl f3) rfl fun r hr => ?_
            subst hr
            conv => whnf
            repeat (first | (refine ACode.st tys_ok rfl ?_; conv => whnf))
            refine ⟨fun q1 => ?_, fun q1 => ?_⟩
            ·have q1 : refB L x.from_ = true := by simpa using q1
             conv => whnf
             repeat (first | (refine ACode.st tys_ok rfl ?_; conv => whnf))
             refine ACall.of_spec (has_spec' L a3 x.to_ hLl f3) rfl fun r hr => ?_
             subst hr
             conv => whnf
             repeat (first | (refine ACode.st tys_ok rfl ?_; conv => whnf))
             refine ⟨fun q2 => ?_, fun q2 => ?_⟩
             ·have q2 : refB L x.to_ = true := by simpa using q2
              conv => whnf
              repeat (first | (refine ACode.st tys_ok rfl ?_; conv => whnf))
              refine ACall.freeze 5 ?_ (by kernel_rfl)
              conv => whnf
              refine ⟨by simp [closed], ?_⟩
              conv => whnf
              repeat (refine ⟨(by first | rfl | (simp; done) : (_ : Nat) = _), ?_⟩; conv => whnf)
              refine ACall.of_spec (areNumbers_spec [x.at_, x.travel, x.load] (by simp)) rfl fun r hr => ?_
              subst hr
              conv => whnf
              repeat (first | (refine ACode.st tys_ok rfl ?_; conv => whnf))
              refine ⟨fun q3 => ?_, fun q3 => ?_⟩
              ·have q3 : [x.at_, x.travel, x.load].all numB = false := by simp only [Bool.not_eq_true'] at q3; exact q3
               conv => whnf
               repeat (first | (refine ACode.st tys_ok rfl ?_; conv => whnf))
               exact congrArg AV.bool (hno (by rw [hlb, q1, q2]; rw [three] at q3; simp only [Bool.true_and]; rw [q3])).symm
              ·have q3 : [x.at_, x.travel, x.load].all numB = true := by simp only [Bool.not_eq_false'] at q3; exact q3
               conv => whnf
               repeat (first | (refine ACode.st tys_ok rfl ?_; conv => whnf))
               refine ⟨k + 1, ?_⟩
               conv => whnf
               repeat (refine And.intro ?_ ?_; (focus (first | rfl | (simp; done) | (first | exact hw1; done))); conv => whnf)
               exact ⟨⟨by omega, by rw [all_snoc _ _ _ h, hd, hcx, hlb, q1, q2]; rw [three] at q3; simp only [Bool.true_and]; rw [q3], by rw [all_snoc _ _ _ h, he, hcx, q0]; rfl⟩, by omega⟩
             ·have q2 : refB L x.to_ = false := by simpa using q2
              conv => whnf
              repeat (first | (refine ACode.st tys_ok rfl ?_; conv => whnf))
              exact congrArg AV.bool (hno (by rw [hlb, q2]; simp)).symm
            ·have q1 : refB L x.from_ = false := by simpa using q1
             conv => whnf
             repeat (first | (refine ACode.st tys_ok rfl ?_; conv => whnf))
             exact congrArg AV.bool (hno (by rw [hlb, q1]; simp)).symm
           ·have q0 : isNameB x.name = false := by simpa using q0
            conv => whnf
            repeat (first | (refine ACode.st tys_ok rfl ?_; conv => whnf))
            exact congrArg AV.bool (hno2 q0).symm
          ·have h : k = n.lins.length := by simp at h; omega
           rw [h, List.take_length] at hd he
           conv => whnf
           repeat (first | (refine ACode.st tys_ok rfl ?_; conv => whnf))
           refine ACode.loopD (fun k : Nat => mk 158 [(1, .ptr 0 0), (3, .ptr 1 0), (4, .ptr 2 0), (5, .ptr 3 0), (138, .sl 3 (n.clss.map clsA)), (139, .int .i64 n.clss.length), (140, .int .i64 k)])
            (fun _ => H4 n L a1 a2 a3) (fun k => k ≤ n.clss.length ∧ (n.clss.take k).all clsB = true ∧ ((n.clss.take k).all fun l => isNameB l.name) = true) (fun k => n.clss.length - k) (fun _ _ => ⟨rfl, rfl, rfl, rfl, rfl, trivial⟩) ⟨0, ?_⟩ (fun _ => rfl) fun k hk => ?_
           ·conv => whnf
            repeat (refine And.intro ?_ ?_; (focus (first | rfl | (simp; done))); conv => whnf)
            rfl
           ·obtain ⟨hk, hf, hg⟩ := hk
            unfold H4
            repeat (first | (refine ACode.st tys_ok rfl ?_; conv => whnf))
            refine ⟨fun h => ?_, fun h => ?_⟩
            ·have h : k < n.clss.length := by simpa using h
             have hw1 : Wr .i64 ((k : Int) + 1) = ((k + 1 : Nat) : Int) := by rw [Wr64 _ (by omega) (by omega)]; rfl
             have hcg : (n.clss.map clsA)[k]? = some (clsA n.clss[k]) := by rw [List.getElem?_map, List.getElem?_eq_getElem h]; rfl
             conv => whnf
             repeat (first | (refine ACode.st tys_ok rfl ?_; conv => whnf))
             refine ⟨by omega, _, hcg, ?_⟩
             have hm := sm.clt n.clss[k] (List.getElem_mem h)
             generalize hcx : n.clss[k] = x at *
             have hno : clsB x = false → printB n = false := fun e => no_cls (all_no clsB n.clss k h (by rw [hcx]; exact e))
             have hno2 : isNameB x.name = false → printB n = false := fun e => no_cname (all_no (fun l => isNameB l.name) n.clss k h (by rw [hcx]; exact e))
             conv => whnf
             repeat (first | (refine ACode.st tys_ok rfl ?_; conv => whnf))
             refine ACall.of_spec (pName_spec x.name hm) rfl fun r hr => ?_
             subst hr
             conv => whnf
             repeat (first | (refine ACode.st tys_ok rfl ?_; conv => whnf))
             refine ⟨fun q0 => ?_, fun q0 => ?_⟩
             ·have q0 : isNameB x.name = true := by simpa using q0
              conv => whnf
              repeat (first | (refine ACode.st tys_ok rfl ?_; conv => whnf))
              refine ACall.freeze 5 ?_ (by kernel_rfl)
              conv => whnf
              refine ⟨by simp [closed], ?_⟩
              conv => whnf
              repeat (refine ⟨(by first | rfl | (simp; done) : (_ : Nat) = _), ?_⟩; conv => whnf)
              refine ACall.of_spec (areNumbers_spec [x.cut, x.deliver] (by simp)) rfl fun r hr => ?_
              subst hr
              conv => whnf
              repeat (first | (refine ACode.st tys_ok rfl ?_; conv => whnf))
              refine ⟨fun q3 => ?_, fun q3 => ?_⟩
              ·have q3 : [x.cut, x.deliver].all numB = false := by simp only [Bool.not_eq_true'] at q3; exact q3
               conv => whnf
               repeat (first | (refine ACode.st tys_ok rfl ?_; conv => whnf))
               exact congrArg AV.bool (hno (by rw [two] at q3; exact q3)).symm
              ·have q3 : [x.cut, x.deliver].all numB = true := by simp only [Bool.not_eq_false'] at q3; exact q3
               conv => whnf
               repeat (first | (refine ACode.st tys_ok rfl ?_; conv => whnf))
               refine ⟨k + 1, ?_⟩
               conv => whnf
               repeat (refine And.intro ?_ ?_; (focus (first | rfl | (simp; done) | (first | exact hw1; done))); conv => whnf)
               exact ⟨⟨by omega, by rw [all_snoc _ _ _ h, hf, hcx]; rw [two] at q3; exact q3, by rw [all_snoc _ _ _ h, hg, hcx, q0]; rfl⟩, by omega⟩
             ·have q0 : isNameB x.name = false := by simpa using q0
              conv => whnf
              repeat (first | (refine ACode.st tys_ok rfl ?_; conv => whnf))
              exact congrArg AV.bool (hno2 q0).symm
            ·have h : k = n.clss.length := by simp at h; omega
             rw [h, List.take_length] at hf hg
             conv => whnf
             repeat (first | (refine ACode.st tys_ok rfl ?_; conv => whnf))
             refine congrArg AV.bool ?_
             rw [← hL, List.all_map] at g3
             have g3 : (n.offs.all fun o => isNameB o.name) = true := g3
             unfold printB namesB
             rw [decide_eq_true g0, g1, g2, g3, he, hg, ha, hb, hd, hf]
             rfl
   ·have g2 : n.opers.all isNameB = false := by simpa using g2
    conv => whnf
    repeat (first | (refine ACode.st tys_ok rfl ?_; conv => whnf))
    exact congrArg AV.bool (by unfold printB namesB; rw [g2]; simp)
  ·have g1 : n.names.all isNameB = false := by simpa using g1
   conv => whnf
   repeat (first | (refine ACode.st tys_ok rfl ?_; conv => whnf))
   exact congrArg AV.bool (by unfold printB namesB; rw [g1]; simp)
 ·have g0 : n.names.length ≠ n.cals.length := by simp at g0; omega
  conv => whnf
  repeat (first | (refine ACode.st tys_ok rfl ?_; conv => whnf))
  exact congrArg AV.bool (by unfold printB; rw [decide_eq_false g0]; simp)
end Go.Proofs.YtbedaolpfedacaaGreatDoor
namespace Go.Proofs.YtbedaolpfedacaaGreatDoor
open Go.Av Go.Av.Net Pl
theorem calsT_zip (a : List Bs) (b : List Cal) : calsT a b = (a.zip b).flatMap fun x => calT x.1 x.2 := by
 unfold calsT
 rw [List.flatMap_def]
 congr 1
 induction a generalizing b with
 | nil => simp
 | cons x a ih => cases b with
  | nil => simp
  | cons y b => simp [ih]
theorem fm_le {α : Type} (f : α → Bs) (M : Nat) : ∀ l : List α, (∀ x ∈ l, (f x).length ≤ M) → (l.flatMap f).length ≤ l.length * M
 | [], _ => by simp
 | x :: l, h => by
  have ih := fm_le f M l fun y hy => h y (List.mem_cons_of_mem _ hy)
  have h0 := h x (List.mem_cons_self ..)
  rw [List.flatMap_cons, List.length_append, List.length_cons, Nat.succ_mul]
  omega
theorem name_le {s : Bs} (h : isNameB s = true) : s.length ≤ 16 := by
 rw [isNameB_eq] at h
 simp only [Bool.and_eq_true, decide_eq_true_eq] at h
 exact h.1.1.1.2
theorem code_le {s : Bs} (h : isCodeB s = true) : s.length ≤ 8 := by
 rw [codeB_eq] at h
 simp only [Bool.and_eq_true, decide_eq_true_eq] at h
 omega
theorem fieldT_len (k v : Bs) : (fieldT k v).length = k.length + v.length + 5 := by simp [fieldT]; omega
theorem headT_len (k v : Bs) : (headT k v).length = k.length + v.length + 4 := by simp [headT]; omega
theorem at_mem {l : List Bs} {i : Int} (h : refB l i = true) : nameAt l i ∈ l := List.mem_of_getElem? (ref_get h).2.2
theorem print_len (n : NwI) (sm : SmI n) (h : printB n = true) : (printT n).length ≤ 140737488355328 := by
 unfold printB namesB at h
 simp only [Bool.and_eq_true, List.all_eq_true, decide_eq_true_eq] at h
 obtain ⟨⟨⟨⟨⟨h0, ⟨⟨⟨⟨g1, g2⟩, g3⟩, g4⟩, g5⟩⟩, k1⟩, k2⟩, k3⟩, k4⟩ := h
 have c1 : ∀ x ∈ n.names.zip n.cals, (calT x.1 x.2).length ≤ 2200000 := fun x hx => by
  have m1 := List.of_mem_zip hx
  have e1 := name_le (g1 _ m1.1)
  have e2 := k1 _ m1.2
  unfold calB at e2
  simp only [Bool.and_eq_true, decide_eq_true_eq, List.all_eq_true] at e2
  have e3 := fm_le (fun d => fieldT w_holiday (decT d)) 21 x.2.hols fun d hd => by
   rw [fieldT_len]; have := decT_len (e2.2 d hd); show 7 + _ + 5 ≤ 21; omega
  have e4 := (sm.hol _ m1.2).1
  have e5 := decT_len e2.1.2
  have e6 : (weekT x.2.week).length = 7 := by simp [weekT, e2.1.1]
  simp only [calT, List.length_append, headT_len, fieldT_len, e6]
  have : w_calendar.length = 8 ∧ w_zone.length = 4 ∧ w_week.length = 4 ∧ endT.length = 2 := ⟨rfl, rfl, rfl, rfl⟩
  omega
 have c2 : ∀ x ∈ n.opers, (operT x).length ≤ 30 := fun x hx => by
  have e1 := name_le (g2 _ hx)
  have : w_operator.length = 8 := rfl
  simp [operT]; omega
 have c3 : ∀ x ∈ n.offs, (offT n x).length ≤ 1000000 := fun x hx => by
  have e1 := name_le (g3 _ hx)
  have e2 := k2 _ hx
  unfold offB at e2
  simp only [Bool.and_eq_true, List.all_eq_true] at e2
  obtain ⟨⟨⟨⟨⟨r1, r2⟩, n1⟩, n2⟩, n3⟩, hcs⟩ := e2
  have e3 := decT_len (num_int n1)
  have e4 := decT_len (num_int n2)
  have e5 := decT_len (num_int n3)
  have e6 := name_le (g2 _ (at_mem r1))
  have e7 := name_le (g1 _ (at_mem r2))
  have e8 : (codesT x.codes).length ≤ 900010 := by
   have := (sm.cod _ hx).1
   cases hc : x.codes with
   | nil => simp [codesT]
   | cons y r =>
    have e9 := fm_le (fun z : Bs => 32 :: z) 9 (y :: r) fun z hz => by
     have := code_le (hcs z (by rw [hc]; exact hz)); simp; omega
    rw [hc] at this
    have e10 : (codesT (y :: r)).length = 9 + (List.flatMap (fun z : Bs => 32 :: z) (y :: r)).length := by
     show ([32, 32] ++ w_codes ++ (List.flatMap (fun z : Bs => 32 :: z) (y :: r)) ++ [59, 10] : Bs).length = _
     have : w_codes.length = 5 := rfl
     rw [List.length_append, List.length_append, List.length_append, this]
     simp only [List.length_cons, List.length_nil]
     omega
    rw [e10]
    have e11 : (y :: r).length * 9 ≤ 100000 * 9 := Nat.mul_le_mul_right _ this
    omega
  simp only [offT, List.length_append, headT_len, fieldT_len]
  have : w_office.length = 6 ∧ w_operator.length = 8 ∧ w_calendar.length = 8 ∧ w_pockets.length = 7 ∧ w_passes.length = 6 ∧ w_minutes.length = 7 ∧ endT.length = 2 := ⟨rfl, rfl, rfl, rfl, rfl, rfl, rfl⟩
  omega
 have c4 : ∀ x ∈ n.lins, (linT n x).length ≤ 200 := fun x hx => by
  have e1 := name_le (g4 _ hx)
  have e2 := k3 _ hx
  unfold linB at e2
  simp only [Bool.and_eq_true] at e2
  obtain ⟨⟨⟨⟨r1, r2⟩, n1⟩, n2⟩, n3⟩ := e2
  have e3 := decT_len (num_int n1)
  have e4 := decT_len (num_int n2)
  have e5 := decT_len (num_int n3)
  have q : ∀ y ∈ n.offs.map (·.name), y.length ≤ 16 := fun y hy => by
   obtain ⟨o, ho, rfl⟩ := List.mem_map.1 hy
   exact name_le (g3 _ ho)
  have e6 := q _ (at_mem r1)
  have e7 := q _ (at_mem r2)
  have : w_line.length = 4 ∧ w_at.length = 2 ∧ w_travel.length = 6 ∧ w_load.length = 4 := ⟨rfl, rfl, rfl, rfl⟩
  simp only [linT, List.length_append, List.length_cons, List.length_nil]
  omega
 have c5 : ∀ x ∈ n.clss, (clssT x).length ≤ 200 := fun x hx => by
  have e1 := name_le (g5 _ hx)
  have e2 := k4 _ hx
  unfold clsB at e2
  simp only [Bool.and_eq_true] at e2
  have e3 := decT_len (num_int e2.1)
  have e4 := decT_len (num_int e2.2)
  have : w_class.length = 5 ∧ w_cut.length = 3 ∧ w_deliver.length = 7 ∧ endT.length = 2 := ⟨rfl, rfl, rfl, rfl⟩
  simp only [clssT, List.length_append, headT_len, fieldT_len]
  omega
 have d1 := fm_le _ _ _ c1
 have d2 := fm_le _ _ _ c2
 have d3 := fm_le _ _ _ c3
 have d4 := fm_le _ _ _ c4
 have d5 := fm_le _ _ _ c5
 have z1 : (n.names.zip n.cals).length ≤ 100000 := by rw [List.length_zip]; have := sm.cals; omega
 have s2 := sm.opers; have s3 := sm.offs; have s4 := sm.lins; have s5 := sm.clss
 simp only [printT, calsT_zip, List.length_append]
 have e1 : (n.names.zip n.cals).length * 2200000 ≤ 100000 * 2200000 := Nat.mul_le_mul_right _ z1
 have e2 : n.opers.length * 30 ≤ 100000 * 30 := Nat.mul_le_mul_right _ s2
 have e3 : n.offs.length * 1000000 ≤ 100000 * 1000000 := Nat.mul_le_mul_right _ s3
 have e4 : n.lins.length * 200 ≤ 100000 * 200 := Nat.mul_le_mul_right _ s4
 have e5 : n.clss.length * 200 ≤ 100000 * 200 := Nat.mul_le_mul_right _ s5
 omega
end Go.Proofs.YtbedaolpfedacaaGreatDoor
namespace Go.Proofs.YtbedaolpfedacaaGreatDoor
open Go.Av Go.Av.Net Pl
theorem oper_w (x : Bs) : WCtr Tryz.prog wT wE 45 [.sl 1 (strs [w_operator, x ++ [59]])] (operT x) := by
 rw [show operT x = lineB [w_operator, x ++ [59]] by simp [operT, lineB, Lib.join, List.intercalate]]
 exact line_w _ (by simp)
theorem off_ref {n : NwI} {i : Int} (h : refB (n.offs.map (·.name)) i = true) : 0 ≤ i ∧ i < n.offs.length ∧ ∃ o, (n.offs.map offIA)[i.toNat]? = some (offIA o) ∧ o.name = nameAt (n.offs.map (·.name)) i := by
 obtain ⟨h1, h2, h3⟩ := ref_get h
 rw [List.length_map] at h2
 rw [List.getElem?_map] at h3
 obtain ⟨o, ho, he⟩ := Option.map_eq_some_iff.1 h3
 exact ⟨h1, h2, o, by rw [List.getElem?_map, ho]; rfl, he⟩
theorem lin_w (n : NwI) (x : LinI) : WCtr Tryz.prog wT wE 45 [.sl 1 (strs [w_line, x.name ++ [58], nameAt (n.offs.map (·.name)) x.from_, [45, 62], nameAt (n.offs.map (·.name)) x.to_, w_at, decT x.at_, w_travel, decT x.travel, w_load, decT x.load ++ [59]])] (linT n x) := by
 rw [show linT n x = lineB [w_line, x.name ++ [58], nameAt (n.offs.map (·.name)) x.from_, [45, 62], nameAt (n.offs.map (·.name)) x.to_, w_at, decT x.at_, w_travel, decT x.travel, w_load, decT x.load ++ [59]] by simp [linT, lineB, Lib.join, List.intercalate]]
 exact line_w _ (by simp)
def netH (n : NwI) : HO := .cells [.sl 3 (n.cals.map calA), .sl 1 (strs n.names), .sl 1 (n.opers.map operA), .sl 7 (n.offs.map offIA), .sl 6 (n.lins.map linIA), .sl 3 (n.clss.map clsA)]
set_option maxRecDepth 20000 in
set_option maxHeartbeats 4000000 in
theorem Print_spec (n : NwI) (sm : SmI n) : Ctr Tryz.prog 13 [netI n] (fun r => r = .str (printN n)) := by
 have s1 := sm.cals; have s2 := sm.offs; have s3 := sm.lins; have s4 := sm.clss; have s5 := sm.opers
 refine Ctr.of_body Tryz.func13 rfl tys_ok (by kernel_rfl) ?_
 conv => whnf
 refine ACode.noW0 ?_
 repeat (first | (refine ACode.st tys_ok rfl ?_; conv => whnf))
 refine ACall.of_spec (Printable_spec n sm) rfl fun r hr => ?_
 subst hr
 conv => whnf
 repeat (first | (refine ACode.st tys_ok rfl ?_; conv => whnf))
 refine ⟨fun g => ?_, fun g => ?_⟩
 ·have g : printB n = false := by simpa using g
  conv => whnf
  repeat (first | (refine ACode.st tys_ok rfl ?_; conv => whnf))
  exact congrArg AV.str (by unfold printN; rw [g]; rfl)
 ·have g : printB n = true := by simpa using g
  have hT := print_len n sm g
  have hN : printN n = printT n := by unfold printN; rw [g]; rfl
  rw [hN]
  conv => whnf
  refine ACode.s_skip ?_
  conv => whnf
  refine ACode.seq ?_
  refine ACode.s_regW wT wE 1 tys_ok ?_
  conv => whnf
  refine ⟨rfl, rfl, fun b => ?_⟩
  have gp := g
  unfold printB namesB at gp
  simp only [Bool.and_eq_true, List.all_eq_true, decide_eq_true_eq] at gp
  obtain ⟨⟨⟨⟨⟨p0, ⟨⟨⟨⟨g1, g2⟩, g3⟩, g4⟩, g5⟩⟩, k1⟩, k2⟩, k3⟩, k4⟩ := gp
  have hP : printT n = (n.names.zip n.cals).flatMap (fun x => calT x.1 x.2) ++ n.opers.flatMap operT ++ n.offs.flatMap (offT n) ++ n.lins.flatMap (linT n) ++ n.clss.flatMap clssT := by unfold printT; rw [calsT_zip]
  rw [hP] at hT ⊢
  simp only [List.length_append] at hT
  have hZ : (n.names.zip n.cals).length = n.cals.length := by rw [List.length_zip]; omega
  generalize hZe : n.names.zip n.cals = Z at *
  conv => whnf
  repeat (first | (refine ACode.st tys_ok rfl ?_; conv => whnf))
  refine ACode.loopD (fun k : Nat => mk 132 [(1, .ptr 1 0), (3, .raw (wrP b)), (20, .sl 3 (n.cals.map calA)), (21, .int .i64 n.cals.length), (22, .int .i64 k)])
   (fun k => [.inv (WrI wT wE b ((Z.take k).flatMap fun x => calT x.1 x.2)), netH n]) (fun k => k ≤ n.cals.length) (fun k => n.cals.length - k) (fun _ _ => ⟨rfl, rfl, trivial⟩) ⟨0, ?_⟩ (fun _ => rfl) fun k hk => ?_
  ·conv => whnf
   repeat (refine And.intro ?_ ?_; (focus (first | rfl | (simp; done))); conv => whnf)
   exact Nat.zero_le _
  ·unfold netH
   repeat (first | (refine ACode.st tys_ok rfl ?_; conv => whnf))
   refine ⟨fun h => ?_, fun h => ?_⟩
   ·have h : k < n.cals.length := by simpa using h
    have hw1 : Wr .i64 ((k : Int) + 1) = ((k + 1 : Nat) : Int) := by rw [Wr64 _ (by omega) (by omega)]; rfl
    have hcg : (n.cals.map calA)[k]? = some (calA n.cals[k]) := by rw [List.getElem?_map, List.getElem?_eq_getElem h]; rfl
    have hkn : k < n.names.length := by omega
    have hz : Z[k] = (n.names[k], n.cals[k]) := by subst hZe; exact List.getElem_zip
    have hst : (Z.take (k + 1)).flatMap (fun x : Bs × Cal => calT x.1 x.2) = (Z.take k).flatMap (fun x : Bs × Cal => calT x.1 x.2) ++ calT n.names[k] n.cals[k] := by
     have := fm_step (fun x : Bs × Cal => calT x.1 x.2) Z k (by omega)
     rw [hz] at this
     exact this
    have hle := fm_len (fun x : Bs × Cal => calT x.1 x.2) Z (k + 1)
    rw [hst, List.length_append] at hle
    conv => whnf
    repeat (first | (refine ACode.st tys_ok rfl ?_; conv => whnf))
    refine ⟨by omega, _, hcg, ?_⟩
    conv => whnf
    repeat (first | (refine ACode.st tys_ok rfl ?_; conv => whnf))
    refine ACode.draw [7] tys_ok (by kernel_rfl) (by kernel_rfl) ?_
    conv => whnf
    refine ⟨by omega, _, strs_get n.names k hkn, ?_⟩
    conv => whnf
    refine ACall.of_w rfl (calendar_w n.names[k] n.cals[k] (sm.nmt _ (List.getElem_mem hkn)) (k1 _ (List.getElem_mem h)) (sm.hol _ (List.getElem_mem h)).1) rfl (by omega) ?_
    conv => whnf
    repeat (first | (refine ACode.st tys_ok rfl ?_; conv => whnf))
    refine ⟨k + 1, ?_⟩
    conv => whnf
    repeat (refine And.intro ?_ ?_; (focus (first | rfl | (simp; done) | (first | exact hw1 | exact congrArg (fun x => HO.inv (WrI wT wE b x)) hst.symm; done))); conv => whnf)
    omega
   ·have h : k = n.cals.length := by simp at h; omega
    rw [show Z.take k = Z from List.take_of_length_le (by omega)]
    generalize hA : Z.flatMap (fun x : Bs × Cal => calT x.1 x.2) = A at *
    conv => whnf
    repeat (first | (refine ACode.st tys_ok rfl ?_; conv => whnf))
    refine ACode.loopD (fun k : Nat => mk 132 [(1, .ptr 1 0), (3, .raw (wrP b)), (37, .sl 1 (n.opers.map operA)), (38, .int .i64 n.opers.length), (39, .int .i64 k)])
     (fun k => [.inv (WrI wT wE b (A ++ (n.opers.take k).flatMap operT)), netH n]) (fun k => k ≤ n.opers.length) (fun k => n.opers.length - k) (fun _ _ => ⟨rfl, rfl, trivial⟩) ⟨0, ?_⟩ (fun _ => rfl) fun k hk => ?_
    ·conv => whnf
     repeat (refine And.intro ?_ ?_; (focus (first | rfl | (simp; done))); conv => whnf)
     exact ⟨by simp [netH], Nat.zero_le _⟩
    ·unfold netH
     repeat (first | (refine ACode.st tys_ok rfl ?_; conv => whnf))
     refine ⟨fun h => ?_, fun h => ?_⟩
     ·have h : k < n.opers.length := by simpa using h
      have hw1 : Wr .i64 ((k : Int) + 1) = ((k + 1 : Nat) : Int) := by rw [Wr64 _ (by omega) (by omega)]; rfl
      have hst := fm_step operT n.opers k h
      have hle := fm_len operT n.opers (k + 1)
      rw [hst, List.length_append] at hle
      conv => whnf
      repeat (first | (refine ACode.st tys_ok rfl ?_; conv => whnf))
      refine ⟨by omega, _, oper_get n.opers k h, ?_⟩
      have hnl := name_le (g2 _ (List.getElem_mem h))
      conv => whnf
      repeat (first | (refine ACode.st tys_ok rfl ?_; conv => whnf))
      refine ⟨by simp; omega, ?_⟩
      conv => whnf
      repeat (first | (refine ACode.st tys_ok rfl ?_; conv => whnf))
      refine ACall.freeze 3 ?_ (by kernel_rfl)
      conv => whnf
      refine ⟨by simp [closed], ?_⟩
      conv => whnf
      repeat (refine ⟨(by first | rfl | (simp; done) : (_ : Nat) = _), ?_⟩; conv => whnf)
      refine ACall.of_w rfl (oper_w n.opers[k]) rfl (by rw [List.length_append]; omega) ?_
      conv => whnf
      repeat (first | (refine ACode.st tys_ok rfl ?_; conv => whnf))
      refine ⟨k + 1, ?_⟩
      conv => whnf
      repeat (refine And.intro ?_ ?_; (focus (first | rfl | (simp; done) | (first | exact hw1 | exact congrArg (fun x => HO.inv (WrI wT wE b x)) (by rw [hst]; simp); done))); conv => whnf)
      omega
     ·have h : k = n.opers.length := by simp at h; omega
      rw [h, List.take_length]
      have hB : (A ++ n.opers.flatMap operT).length = A.length + (n.opers.flatMap operT).length := List.length_append
      generalize A ++ n.opers.flatMap operT = B at *
      conv => whnf
      repeat (first | (refine ACode.st tys_ok rfl ?_; conv => whnf))
      refine ACode.loopD (fun k : Nat => mk 132 [(1, .ptr 1 0), (3, .raw (wrP b)), (51, .sl 7 (n.offs.map offIA)), (52, .int .i64 n.offs.length), (53, .int .i64 k)])
       (fun k => [.inv (WrI wT wE b (B ++ (n.offs.take k).flatMap (offT n))), netH n]) (fun k => k ≤ n.offs.length) (fun k => n.offs.length - k) (fun _ _ => ⟨rfl, rfl, trivial⟩) ⟨0, ?_⟩ (fun _ => rfl) fun k hk => ?_
      ·conv => whnf
       repeat (refine And.intro ?_ ?_; (focus (first | rfl | (simp; done))); conv => whnf)
       exact ⟨by simp [netH], Nat.zero_le _⟩
      ·unfold netH
       repeat (first | (refine ACode.st tys_ok rfl ?_; conv => whnf))
       refine ⟨fun h => ?_, fun h => ?_⟩
       ·have h : k < n.offs.length := by simpa using h
        have hw1 : Wr .i64 ((k : Int) + 1) = ((k + 1 : Nat) : Int) := by rw [Wr64 _ (by omega) (by omega)]; rfl
        have hst := fm_step (offT n) n.offs k h
        have hle := fm_len (offT n) n.offs (k + 1)
        rw [hst, List.length_append] at hle
        have hcg : (n.offs.map offIA)[k]? = some (offIA n.offs[k]) := by rw [List.getElem?_map, List.getElem?_eq_getElem h]; rfl
        conv => whnf
        repeat (first | (refine ACode.st tys_ok rfl ?_; conv => whnf))
        refine ⟨by omega, _, hcg, ?_⟩
        conv => whnf
        repeat (first | (refine ACode.st tys_ok rfl ?_; conv => whnf))
        refine ACall.of_w rfl (office_w n n.offs[k] (k2 _ (List.getElem_mem h)) (sm.cod _ (List.getElem_mem h)).1 s5 sm.names) rfl (by rw [List.length_append]; omega) ?_
        conv => whnf
        repeat (first | (refine ACode.st tys_ok rfl ?_; conv => whnf))
        refine ⟨k + 1, ?_⟩
        conv => whnf
        repeat (refine And.intro ?_ ?_; (focus (first | rfl | (simp; done) | (first | exact hw1 | exact congrArg (fun x => HO.inv (WrI wT wE b x)) (by rw [hst]; simp); done))); conv => whnf)
        omega
       ·have h : k = n.offs.length := by simp at h; omega
        rw [h, List.take_length]
        have hC : (B ++ n.offs.flatMap (offT n)).length = B.length + (n.offs.flatMap (offT n)).length := List.length_append
        generalize B ++ n.offs.flatMap (offT n) = D at *
        conv => whnf
        repeat (first | (refine ACode.st tys_ok rfl ?_; conv => whnf))
        refine ACode.loopD (fun k : Nat => mk 132 [(1, .ptr 1 0), (3, .raw (wrP b)), (63, .sl 6 (n.lins.map linIA)), (64, .int .i64 n.lins.length), (65, .int .i64 k)])
         (fun k => [.inv (WrI wT wE b (D ++ (n.lins.take k).flatMap (linT n))), netH n]) (fun k => k ≤ n.lins.length) (fun k => n.lins.length - k) (fun _ _ => ⟨rfl, rfl, trivial⟩) ⟨0, ?_⟩ (fun _ => rfl) fun k hk => ?_
        ·conv => whnf
         repeat (refine And.intro ?_ ?_; (focus (first | rfl | (simp; done))); conv => whnf)
         exact ⟨by simp [netH], Nat.zero_le _⟩
        ·unfold netH
         repeat (first | (refine ACode.st tys_ok rfl ?_; conv => whnf))
         refine ⟨fun h => ?_, fun h => ?_⟩
         ·have h : k < n.lins.length := by simpa using h
          have hw1 : Wr .i64 ((k : Int) + 1) = ((k + 1 : Nat) : Int) := by rw [Wr64 _ (by omega) (by omega)]; rfl
          have hst := fm_step (linT n) n.lins k h
          have hle := fm_len (linT n) n.lins (k + 1)
          rw [hst, List.length_append] at hle
          have hcg : (n.lins.map linIA)[k]? = some (linIA n.lins[k]) := by rw [List.getElem?_map, List.getElem?_eq_getElem h]; rfl
          conv => whnf
          repeat (first | (refine ACode.st tys_ok rfl ?_; conv => whnf))
          refine ⟨by omega, _, hcg, ?_⟩
          conv => whnf
          repeat (first | (refine ACode.st tys_ok rfl ?_; conv => whnf))
          have hnl := name_le (g4 _ (List.getElem_mem h))
          have hlb := k3 _ (List.getElem_mem h)
          generalize hcx : n.lins[k] = x at *
          unfold linB at hlb
          simp only [Bool.and_eq_true] at hlb
          obtain ⟨⟨⟨⟨r1, r2⟩, n1⟩, n2⟩, n3⟩ := hlb
          obtain ⟨u1, u2, o1, u3, u4⟩ := off_ref r1
          obtain ⟨v1, v2, o2, v3, v4⟩ := off_ref r2
          have dl := decT_len (num_int n3)
          refine ACode.drawI [28] [29] tys_ok (by kernel_rfl) (by kernel_rfl) ?_
          conv => whnf
          refine ⟨by simp; omega, ?_⟩
          conv => whnf
          refine ⟨by omega, _, u3, ?_⟩
          conv => whnf
          refine ⟨by omega, _, v3, ?_⟩
          conv => whnf
          refine ⟨_, ⟨dec_spec (num_int n1), rfl⟩, ?_⟩
          conv => whnf
          refine ⟨_, ⟨dec_spec (num_int n2), rfl⟩, ?_⟩
          conv => whnf
          refine ⟨_, ⟨dec_spec (num_int n3), rfl⟩, ?_⟩
          conv => whnf
          refine ⟨by simp; omega, ?_⟩
          conv => whnf
          rw [u4, v4]
          refine ACall.of_w rfl (lin_w n x) rfl (by rw [List.length_append]; omega) ?_
          conv => whnf
          repeat (first | (refine ACode.st tys_ok rfl ?_; conv => whnf))
          refine ⟨k + 1, ?_⟩
          conv => whnf
          repeat (refine And.intro ?_ ?_; (focus (first | rfl | (simp; done) | (first | exact hw1 | exact congrArg (fun x => HO.inv (WrI wT wE b x)) (by rw [hst]; simp); done))); conv => whnf)
          omega
         ·have h : k = n.lins.length := by simp at h; omega
          rw [h, List.take_length]
          have hD : (D ++ n.lins.flatMap (linT n)).length = D.length + (n.lins.flatMap (linT n)).length := List.length_append
          generalize D ++ n.lins.flatMap (linT n) = F at *
          conv => whnf
          repeat (first | (refine ACode.st tys_ok rfl ?_; conv => whnf))
          refine ACode.loopD (fun k : Nat => mk 132 [(1, .ptr 1 0), (3, .raw (wrP b)), (101, .sl 3 (n.clss.map clsA)), (102, .int .i64 n.clss.length), (103, .int .i64 k)])
           (fun k => [.inv (WrI wT wE b (F ++ (n.clss.take k).flatMap clssT)), netH n]) (fun k => k ≤ n.clss.length) (fun k => n.clss.length - k) (fun _ _ => ⟨rfl, rfl, trivial⟩) ⟨0, ?_⟩ (fun _ => rfl) fun k hk => ?_
          ·conv => whnf
           repeat (refine And.intro ?_ ?_; (focus (first | rfl | (simp; done))); conv => whnf)
           exact ⟨by simp [netH], Nat.zero_le _⟩
          ·unfold netH
           repeat (first | (refine ACode.st tys_ok rfl ?_; conv => whnf))
           refine ⟨fun h => ?_, fun h => ?_⟩
           ·have h : k < n.clss.length := by simpa using h
            have hw1 : Wr .i64 ((k : Int) + 1) = ((k + 1 : Nat) : Int) := by rw [Wr64 _ (by omega) (by omega)]; rfl
            have hst := fm_step clssT n.clss k h
            have hle := fm_len clssT n.clss (k + 1)
            rw [hst, List.length_append] at hle
            have hcg : (n.clss.map clsA)[k]? = some (clsA n.clss[k]) := by rw [List.getElem?_map, List.getElem?_eq_getElem h]; rfl
            have hlb := k4 _ (List.getElem_mem h)
            have hcl : (clssT n.clss[k]).length = (headT w_class n.clss[k].name).length + (fieldT w_cut (decT n.clss[k].cut)).length + (fieldT w_deliver (decT n.clss[k].deliver)).length + endT.length := by
             unfold clssT; simp only [List.length_append]
            have hcq : clssT n.clss[k] = headT w_class n.clss[k].name ++ fieldT w_cut (decT n.clss[k].cut) ++ fieldT w_deliver (decT n.clss[k].deliver) ++ endT := rfl
            generalize hcx : n.clss[k] = x at *
            unfold clsB at hlb
            simp only [Bool.and_eq_true] at hlb
            obtain ⟨n1, n2⟩ := hlb
            conv => whnf
            repeat (first | (refine ACode.st tys_ok rfl ?_; conv => whnf))
            refine ⟨by omega, _, hcg, ?_⟩
            conv => whnf
            repeat (first | (refine ACode.st tys_ok rfl ?_; conv => whnf))
            refine ACall.freeze 3 ?_ (by kernel_rfl)
            conv => whnf
            refine ⟨by simp [closed], ?_⟩
            conv => whnf
            repeat (refine ⟨(by first | rfl | (simp; done) : (_ : Nat) = _), ?_⟩; conv => whnf)
            refine ACall.of_w rfl (head_w w_class x.name) rfl (by simp only [List.length_append]; omega) ?_
            conv => whnf
            repeat (first | (refine ACode.st tys_ok rfl ?_; conv => whnf))
            refine ACall.of_spec (dec_spec (num_int n1)) rfl fun r hr => ?_
            subst hr
            conv => whnf
            repeat (first | (refine ACode.st tys_ok rfl ?_; conv => whnf))
            refine ACall.freeze 4 ?_ (by kernel_rfl)
            conv => whnf
            refine ⟨by simp [closed], ?_⟩
            conv => whnf
            repeat (refine ⟨(by first | rfl | (simp; done) : (_ : Nat) = _), ?_⟩; conv => whnf)
            refine ACall.of_w rfl (fld_w w_cut (decT x.cut)) rfl (by simp only [List.length_append]; omega) ?_
            conv => whnf
            repeat (first | (refine ACode.st tys_ok rfl ?_; conv => whnf))
            refine ACall.of_spec (dec_spec (num_int n2)) rfl fun r hr => ?_
            subst hr
            conv => whnf
            repeat (first | (refine ACode.st tys_ok rfl ?_; conv => whnf))
            refine ACall.freeze 5 ?_ (by kernel_rfl)
            conv => whnf
            refine ⟨by simp [closed], ?_⟩
            conv => whnf
            repeat (refine ⟨(by first | rfl | (simp; done) : (_ : Nat) = _), ?_⟩; conv => whnf)
            refine ACall.of_w rfl (fld_w w_deliver (decT x.deliver)) rfl (by simp only [List.length_append]; omega) ?_
            conv => whnf
            repeat (first | (refine ACode.st tys_ok rfl ?_; conv => whnf))
            refine ACall.freeze 6 ?_ (by kernel_rfl)
            conv => whnf
            refine ⟨by simp [closed], ?_⟩
            conv => whnf
            repeat (refine ⟨(by first | rfl | (simp; done) : (_ : Nat) = _), ?_⟩; conv => whnf)
            refine ACall.of_w rfl end_w rfl (by simp only [List.length_append]; omega) ?_
            conv => whnf
            repeat (first | (refine ACode.st tys_ok rfl ?_; conv => whnf))
            refine ⟨k + 1, ?_⟩
            conv => whnf
            repeat (refine And.intro ?_ ?_; (focus (first | rfl | (simp; done) | (first | exact hw1 | exact congrArg (fun x => HO.inv (WrI wT wE b x)) (by rw [hst, hcq]; simp); done))); conv => whnf)
            omega
           ·have h : k = n.clss.length := by simp at h; omega
            rw [h, List.take_length]
            conv => whnf
            repeat (first | (refine ACode.st tys_ok rfl ?_; conv => whnf))
            refine ACall.of_wend rfl wString (by rw [List.length_append]; omega) ?_
            conv => whnf
            repeat (first | (refine ACode.st tys_ok rfl ?_; conv => whnf))
end Go.Proofs.YtbedaolpfedacaaGreatDoor
namespace Go.Proofs.YtbedaolpfedacaaGreatDoor
open Go.Av Go.Av.Net Pl
def s40 (s : Bs) : Bool := decide (s.length ≤ 40)
def namesL (n : NwI) : List Bs := n.names ++ n.opers ++ n.offs.map (·.name) ++ n.lins.map (·.name) ++ n.clss.map (·.name)
def smallB (n : NwI) : Bool :=
 decide (n.cals.length ≤ 8) && decide (n.names.length ≤ 8) && decide (n.opers.length ≤ 8) && decide (n.offs.length ≤ 15) && decide (n.lins.length ≤ 45) && decide (n.clss.length ≤ 6) && (namesL n).all s40 &&
  (n.cals.all fun c => decide (c.hols.length ≤ 50) && decide (c.week.length ≤ 20)) && n.offs.all fun o => o.codes.all s40 && decide (o.codes.length ≤ 12)
set_option maxRecDepth 20000 in
theorem rstrings_spec (l : List Bs) (m : Int) (hl : l.length ≤ 9223372036854775807) : Ctr Tryz.prog 19 [.sl 1 (strs l), .int .i64 m] (fun r => r = .bool (l.all s40 && decide ((l.length : Int) ≤ m))) := by
 have hsl : (strs l).length = l.length := strs_length l
 refine Ctr.of_body Tryz.func19 rfl tys_ok (by kernel_rfl) ?_
 conv => whnf
 repeat (first | (refine ACode.st tys_ok rfl ?_; conv => whnf))
 refine ACode.loopD (fun k : Nat => mk 22 [(0, .sl 1 (strs l)), (1, .int .i64 m), (4, .lit false), (5, .int .i64 k)]) (fun _ => []) (fun k => k ≤ l.length ∧ (l.take k).all s40 = true) (fun k => l.length - k) (fun _ _ => ⟨rfl, trivial⟩) ⟨0, ?_⟩ (fun _ => rfl) fun k hk => ?_
 ·conv => whnf
  repeat (refine And.intro ?_ ?_; (focus (first | rfl | (simp; done))); conv => whnf)
  rfl
 ·obtain ⟨hk, ha⟩ := hk
  repeat (first | (refine ACode.st tys_ok rfl ?_; conv => whnf))
  refine ⟨fun h => ?_, fun h => ?_⟩
  ·have h : k < l.length := by simpa using h
   have hw1 : Wr .i64 ((k : Int) + 1) = ((k + 1 : Nat) : Int) := by rw [Wr64 _ (by omega) (by omega)]; rfl
   conv => whnf
   repeat (first | (refine ACode.st tys_ok rfl ?_; conv => whnf))
   refine ⟨by omega, _, strs_get l k h, ?_⟩
   conv => whnf
   repeat (first | (refine ACode.st tys_ok rfl ?_; conv => whnf))
   refine ⟨fun q => ?_, fun q => ?_⟩
   ·have q : s40 l[k] = false := by simp at q; simp [s40]; omega
    conv => whnf
    repeat (first | (refine ACode.st tys_ok rfl ?_; conv => whnf))
    exact congrArg AV.bool (by rw [all_no s40 l k h q]; rfl)
   ·have q : s40 l[k] = true := by simp at q; simp [s40]; omega
    conv => whnf
    repeat (first | (refine ACode.st tys_ok rfl ?_; conv => whnf))
    refine ⟨k + 1, ?_⟩
    conv => whnf
    repeat (refine And.intro ?_ ?_; (focus (first | rfl | (simp; done) | (first | exact hw1; done))); conv => whnf)
    exact ⟨⟨by omega, by rw [all_snoc _ _ _ h, ha, q]; rfl⟩, by omega⟩
  ·have h : k = l.length := by simp at h; omega
   rw [h, List.take_length] at ha
   conv => whnf
   repeat (first | (refine ACode.st tys_ok rfl ?_; conv => whnf))
   exact congrArg AV.bool (by rw [ha, hsl]; rfl)
set_option maxRecDepth 20000 in
set_option maxHeartbeats 4000000 in
theorem rnames_spec (n : NwI) (h1 : n.names.length ≤ 1000) (h2 : n.opers.length ≤ 1000) (h3 : n.offs.length ≤ 1000) (h4 : n.lins.length ≤ 1000) (h5 : n.clss.length ≤ 1000) :
  Ctr Tryz.prog 20 [netI n] (fun r => r = .sl 1 (strs (namesL n))) := by
 refine Ctr.of_body Tryz.func20 rfl tys_ok (by kernel_rfl) ?_
 conv => whnf
 repeat (first | (refine ACode.st tys_ok rfl ?_; conv => whnf))
 refine ⟨⟨rfl, by simp; omega⟩, ?_⟩
 conv => whnf
 repeat (first | (refine ACode.st tys_ok rfl ?_; conv => whnf))
 have hAl4 : (n.names : List Bs).length ≤ 1000 := by first | omega | (simp only [List.length_append, List.length_map]; omega)
 refine ACode.loopD (fun k : Nat => mk 77 [(1, .ptr 0 0), (3, .own 1 1 0 ((n.names : List Bs).length + k)), (4, .int .i64 k)])
  (fun k => [netH n, .arr 9 1 (strs ((n.names) ++ (n.opers.take k).map (fun x : Bs => x)))]) (fun k => k ≤ n.opers.length) (fun k => n.opers.length - k) (fun _ _ => ⟨rfl, rfl, closed_strs _, trivial⟩) ⟨0, ?_⟩ (fun _ => rfl) fun k hk => ?_
 ·conv => whnf
  repeat (refine And.intro ?_ ?_; (focus (first | rfl | (simp; done) | (first | exact congrArg (AV.own 1 1 0) (by simp <;> omega); done))); conv => whnf)
  exact ⟨by simp [netH, strs], Nat.zero_le _⟩
 ·unfold netH
  repeat (first | (refine ACode.st tys_ok rfl ?_; conv => whnf))
  refine ⟨fun h => ?_, fun h => ?_⟩
  ·have h : k < n.opers.length := by simpa using h
   have hw1 : Wr .i64 ((k : Int) + 1) = ((k + 1 : Nat) : Int) := by rw [Wr64 _ (by omega) (by omega)]; rfl
   have hcg : (n.opers.map operA)[k]? = some (operA n.opers[k]) := by rw [List.getElem?_map, List.getElem?_eq_getElem h]; rfl
   have hst : strs ((n.names) ++ (n.opers.take (k + 1)).map (fun x : Bs => x)) = strs ((n.names) ++ (n.opers.take k).map (fun x : Bs => x)) ++ [.str ((fun x : Bs => x) n.opers[k])] := by
    rw [List.take_succ_eq_append_getElem h, List.map_append, ← List.append_assoc]; unfold strs; rw [List.map_append]; rfl
   conv => whnf
   repeat (first | (refine ACode.st tys_ok rfl ?_; conv => whnf))
   refine ⟨by omega, _, hcg, ?_⟩
   conv => whnf
   repeat (first | (refine ACode.st tys_ok rfl ?_; conv => whnf))
   refine ⟨rfl, ?_⟩
   conv => whnf
   refine ⟨⟨by simp; omega, by simp; omega⟩, ?_⟩
   conv => whnf
   repeat (first | (refine ACode.st tys_ok rfl ?_; conv => whnf))
   refine ⟨k + 1, ?_⟩
   conv => whnf
   repeat (refine And.intro ?_ ?_; (focus (first | rfl | (simp; done) | (first | exact hw1 | exact congrArg (AV.own 1 1 0) (by simp; omega) | exact congrArg (HO.arr 9 1) hst.symm; done))); conv => whnf)
   omega
  ·have h : k = n.opers.length := by simp at h; omega
   rw [h, List.take_length]
   conv => whnf
   repeat (first | (refine ACode.st tys_ok rfl ?_; conv => whnf))
   have hAl5 : (n.names ++ n.opers : List Bs).length ≤ 2000 := by first | omega | (simp only [List.length_append, List.length_map]; omega)
   refine ACode.loopD (fun k : Nat => mk 77 [(1, .ptr 0 0), (3, .own 1 1 0 ((n.names ++ n.opers : List Bs).length + k)), (5, .int .i64 k)])
    (fun k => [netH n, .arr 9 1 (strs ((n.names ++ n.opers) ++ (n.offs.take k).map (fun x : OffI => x.name)))]) (fun k => k ≤ n.offs.length) (fun k => n.offs.length - k) (fun _ _ => ⟨rfl, rfl, closed_strs _, trivial⟩) ⟨0, ?_⟩ (fun _ => rfl) fun k hk => ?_
   ·conv => whnf
    repeat (refine And.intro ?_ ?_; (focus (first | rfl | (simp; done) | (first | exact congrArg (AV.own 1 1 0) (by simp <;> omega); done))); conv => whnf)
    exact ⟨by simp [netH, strs], Nat.zero_le _⟩
   ·unfold netH
    repeat (first | (refine ACode.st tys_ok rfl ?_; conv => whnf))
    refine ⟨fun h => ?_, fun h => ?_⟩
    ·have h : k < n.offs.length := by simpa using h
     have hw1 : Wr .i64 ((k : Int) + 1) = ((k + 1 : Nat) : Int) := by rw [Wr64 _ (by omega) (by omega)]; rfl
     have hcg : (n.offs.map offIA)[k]? = some (offIA n.offs[k]) := by rw [List.getElem?_map, List.getElem?_eq_getElem h]; rfl
     have hst : strs ((n.names ++ n.opers) ++ (n.offs.take (k + 1)).map (fun x : OffI => x.name)) = strs ((n.names ++ n.opers) ++ (n.offs.take k).map (fun x : OffI => x.name)) ++ [.str ((fun x : OffI => x.name) n.offs[k])] := by
      rw [List.take_succ_eq_append_getElem h, List.map_append, ← List.append_assoc]; unfold strs; rw [List.map_append]; rfl
     conv => whnf
     repeat (first | (refine ACode.st tys_ok rfl ?_; conv => whnf))
     refine ⟨by omega, _, hcg, ?_⟩
     conv => whnf
     repeat (first | (refine ACode.st tys_ok rfl ?_; conv => whnf))
     refine ⟨rfl, ?_⟩
     conv => whnf
     refine ⟨⟨by simp; omega, by simp; omega⟩, ?_⟩
     conv => whnf
     repeat (first | (refine ACode.st tys_ok rfl ?_; conv => whnf))
     refine ⟨k + 1, ?_⟩
     conv => whnf
     repeat (refine And.intro ?_ ?_; (focus (first | rfl | (simp; done) | (first | exact hw1 | exact congrArg (AV.own 1 1 0) (by simp; omega) | exact congrArg (HO.arr 9 1) hst.symm; done))); conv => whnf)
     omega
    ·have h : k = n.offs.length := by simp at h; omega
     rw [h, List.take_length]
     conv => whnf
     repeat (first | (refine ACode.st tys_ok rfl ?_; conv => whnf))
     have hAl6 : (n.names ++ n.opers ++ n.offs.map (·.name) : List Bs).length ≤ 3000 := by first | omega | (simp only [List.length_append, List.length_map]; omega)
     refine ACode.loopD (fun k : Nat => mk 77 [(1, .ptr 0 0), (3, .own 1 1 0 ((n.names ++ n.opers ++ n.offs.map (·.name) : List Bs).length + k)), (6, .int .i64 k)])
      (fun k => [netH n, .arr 9 1 (strs ((n.names ++ n.opers ++ n.offs.map (·.name)) ++ (n.lins.take k).map (fun x : LinI => x.name)))]) (fun k => k ≤ n.lins.length) (fun k => n.lins.length - k) (fun _ _ => ⟨rfl, rfl, closed_strs _, trivial⟩) ⟨0, ?_⟩ (fun _ => rfl) fun k hk => ?_
     ·conv => whnf
      repeat (refine And.intro ?_ ?_; (focus (first | rfl | (simp; done) | (first | exact congrArg (AV.own 1 1 0) (by simp <;> omega); done))); conv => whnf)
      exact ⟨by simp [netH, strs], Nat.zero_le _⟩
     ·unfold netH
      repeat (first | (refine ACode.st tys_ok rfl ?_; conv => whnf))
      refine ⟨fun h => ?_, fun h => ?_⟩
      ·have h : k < n.lins.length := by simpa using h
       have hw1 : Wr .i64 ((k : Int) + 1) = ((k + 1 : Nat) : Int) := by rw [Wr64 _ (by omega) (by omega)]; rfl
       have hcg : (n.lins.map linIA)[k]? = some (linIA n.lins[k]) := by rw [List.getElem?_map, List.getElem?_eq_getElem h]; rfl
       have hst : strs ((n.names ++ n.opers ++ n.offs.map (·.name)) ++ (n.lins.take (k + 1)).map (fun x : LinI => x.name)) = strs ((n.names ++ n.opers ++ n.offs.map (·.name)) ++ (n.lins.take k).map (fun x : LinI => x.name)) ++ [.str ((fun x : LinI => x.name) n.lins[k])] := by
        rw [List.take_succ_eq_append_getElem h, List.map_append, ← List.append_assoc]; unfold strs; rw [List.map_append]; rfl
       conv => whnf
       repeat (first | (refine ACode.st tys_ok rfl ?_; conv => whnf))
       refine ⟨by omega, _, hcg, ?_⟩
       conv => whnf
       repeat (first | (refine ACode.st tys_ok rfl ?_; conv => whnf))
       refine ⟨rfl, ?_⟩
       conv => whnf
       refine ⟨⟨by simp; omega, by simp; omega⟩, ?_⟩
       conv => whnf
       repeat (first | (refine ACode.st tys_ok rfl ?_; conv => whnf))
       refine ⟨k + 1, ?_⟩
       conv => whnf
       repeat (refine And.intro ?_ ?_; (focus (first | rfl | (simp; done) | (first | exact hw1 | exact congrArg (AV.own 1 1 0) (by simp; omega) | exact congrArg (HO.arr 9 1) hst.symm; done))); conv => whnf)
       omega
      ·have h : k = n.lins.length := by simp at h; omega
       rw [h, List.take_length]
       conv => whnf
       repeat (first | (refine ACode.st tys_ok rfl ?_; conv => whnf))
       have hAl7 : (n.names ++ n.opers ++ n.offs.map (·.name) ++ n.lins.map (·.name) : List Bs).length ≤ 4000 := by first | omega | (simp only [List.length_append, List.length_map]; omega)
       refine ACode.loopD (fun k : Nat => mk 77 [(1, .ptr 0 0), (3, .own 1 1 0 ((n.names ++ n.opers ++ n.offs.map (·.name) ++ n.lins.map (·.name) : List Bs).length + k)), (7, .int .i64 k)])
        (fun k => [netH n, .arr 9 1 (strs ((n.names ++ n.opers ++ n.offs.map (·.name) ++ n.lins.map (·.name)) ++ (n.clss.take k).map (fun x : Cls => x.name)))]) (fun k => k ≤ n.clss.length) (fun k => n.clss.length - k) (fun _ _ => ⟨rfl, rfl, closed_strs _, trivial⟩) ⟨0, ?_⟩ (fun _ => rfl) fun k hk => ?_
       ·conv => whnf
        repeat (refine And.intro ?_ ?_; (focus (first | rfl | (simp; done) | (first | exact congrArg (AV.own 1 1 0) (by simp <;> omega); done))); conv => whnf)
        exact ⟨by simp [netH, strs], Nat.zero_le _⟩
       ·unfold netH
        repeat (first | (refine ACode.st tys_ok rfl ?_; conv => whnf))
        refine ⟨fun h => ?_, fun h => ?_⟩
        ·have h : k < n.clss.length := by simpa using h
         have hw1 : Wr .i64 ((k : Int) + 1) = ((k + 1 : Nat) : Int) := by rw [Wr64 _ (by omega) (by omega)]; rfl
         have hcg : (n.clss.map clsA)[k]? = some (clsA n.clss[k]) := by rw [List.getElem?_map, List.getElem?_eq_getElem h]; rfl
         have hst : strs ((n.names ++ n.opers ++ n.offs.map (·.name) ++ n.lins.map (·.name)) ++ (n.clss.take (k + 1)).map (fun x : Cls => x.name)) = strs ((n.names ++ n.opers ++ n.offs.map (·.name) ++ n.lins.map (·.name)) ++ (n.clss.take k).map (fun x : Cls => x.name)) ++ [.str ((fun x : Cls => x.name) n.clss[k])] := by
          rw [List.take_succ_eq_append_getElem h, List.map_append, ← List.append_assoc]; unfold strs; rw [List.map_append]; rfl
         conv => whnf
         repeat (first | (refine ACode.st tys_ok rfl ?_; conv => whnf))
         refine ⟨by omega, _, hcg, ?_⟩
         conv => whnf
         repeat (first | (refine ACode.st tys_ok rfl ?_; conv => whnf))
         refine ⟨rfl, ?_⟩
         conv => whnf
         refine ⟨⟨by simp; omega, by simp; omega⟩, ?_⟩
         conv => whnf
         repeat (first | (refine ACode.st tys_ok rfl ?_; conv => whnf))
         refine ⟨k + 1, ?_⟩
         conv => whnf
         repeat (refine And.intro ?_ ?_; (focus (first | rfl | (simp; done) | (first | exact hw1 | exact congrArg (AV.own 1 1 0) (by simp; omega) | exact congrArg (HO.arr 9 1) hst.symm; done))); conv => whnf)
         omega
        ·have h : k = n.clss.length := by simp at h; omega
         rw [h, List.take_length]
         conv => whnf
         repeat (first | (refine ACode.st tys_ok rfl ?_; conv => whnf))
         refine ⟨⟨by simp; omega, closed_strs _⟩, ?_⟩
         conv => whnf
         rfl
end Go.Proofs.YtbedaolpfedacaaGreatDoor
namespace Go.Proofs.YtbedaolpfedacaaGreatDoor
open Go.Av Go.Av.Net Pl
theorem sm_cal {n : NwI} (h : (n.cals.all fun c => decide (c.hols.length ≤ 50) && decide (c.week.length ≤ 20)) = false) : smallB n = false := by unfold smallB; rw [h]; simp
theorem sm_off {n : NwI} (h : (n.offs.all fun o => o.codes.all s40 && decide (o.codes.length ≤ 12)) = false) : smallB n = false := by unfold smallB; rw [h]; simp
set_option maxRecDepth 20000 in
set_option maxHeartbeats 4000000 in
theorem Small_spec (n : NwI) (hcl : ∀ o ∈ n.offs, o.codes.length ≤ 9223372036854775807) : Ctr Tryz.prog 10 [netI n] (fun r => r = .bool (smallB n)) := by
 refine Ctr.of_body Tryz.func10 rfl tys_ok (by kernel_rfl) ?_
 conv => whnf
 repeat (first | (refine ACode.st tys_ok rfl ?_; conv => whnf))
 refine ⟨fun q0 => ?_, fun q0 => ?_⟩
 ·have q0 : n.cals.length ≤ 8 := by simp at q0; omega
  conv => whnf
  repeat (first | (refine ACode.st tys_ok rfl ?_; conv => whnf))
  refine ⟨fun q1 => ?_, fun q1 => ?_⟩
  ·have q1 : n.names.length ≤ 8 := by simp at q1; omega
   conv => whnf
   repeat (first | (refine ACode.st tys_ok rfl ?_; conv => whnf))
   refine ⟨fun q2 => ?_, fun q2 => ?_⟩
   ·have q2 : n.opers.length ≤ 8 := by simp at q2; omega
    conv => whnf
    repeat (first | (refine ACode.st tys_ok rfl ?_; conv => whnf))
    refine ⟨fun q3 => ?_, fun q3 => ?_⟩
    ·have q3 : n.offs.length ≤ 15 := by simp at q3; omega
     conv => whnf
     repeat (first | (refine ACode.st tys_ok rfl ?_; conv => whnf))
     refine ⟨fun q4 => ?_, fun q4 => ?_⟩
     ·have q4 : n.lins.length ≤ 45 := by simp at q4; omega
      conv => whnf
      repeat (first | (refine ACode.st tys_ok rfl ?_; conv => whnf))
      refine ⟨fun q5 => ?_, fun q5 => ?_⟩
      ·have q5 : n.clss.length ≤ 6 := by simp at q5; omega
       conv => whnf
       repeat (first | (refine ACode.st tys_ok rfl ?_; conv => whnf))
       refine ACall.of_spec (rnames_spec n (by omega) (by omega) (by omega) (by omega) (by omega)) rfl fun r hr => ?_
       subst hr
       conv => whnf
       repeat (first | (refine ACode.st tys_ok rfl ?_; conv => whnf))
       have hnl : (namesL n).length ≤ 100 := by simp [namesL]; omega
       refine ACall.of_spec (rstrings_spec (namesL n) 100 (by omega)) rfl fun r hr => ?_
       subst hr
       conv => whnf
       repeat (first | (refine ACode.st tys_ok rfl ?_; conv => whnf))
       rw [decide_eq_true (show ((namesL n).length : Int) ≤ 100 by omega), Bool.and_true]
       refine ⟨fun q6 => ?_, fun q6 => ?_⟩
       ·have q6 : (namesL n).all s40 = false := by simp only [Bool.not_eq_true'] at q6; exact q6
        conv => whnf
        repeat (first | (refine ACode.st tys_ok rfl ?_; conv => whnf))
        exact congrArg AV.bool (by unfold smallB; rw [q6]; simp)
       ·have q6 : (namesL n).all s40 = true := by simp only [Bool.not_eq_false'] at q6; exact q6
        conv => whnf
        repeat (first | (refine ACode.st tys_ok rfl ?_; conv => whnf))
        refine ACode.loopD (fun k : Nat => mk 85 [(1, .ptr 0 0), (2, .lit false), (3, .int .i64 k)]) (fun _ => [netH n]) (fun k => k ≤ n.cals.length ∧ ((n.cals.take k).all fun c => decide (c.hols.length ≤ 50) && decide (c.week.length ≤ 20)) = true) (fun k => n.cals.length - k) (fun _ _ => ⟨rfl, rfl, trivial⟩) ⟨0, ?_⟩ (fun _ => rfl) fun k hk => ?_
        ·conv => whnf
         repeat (refine And.intro ?_ ?_; (focus (first | rfl | (simp; done))); conv => whnf)
         rfl
        ·obtain ⟨hk, ha⟩ := hk
         unfold netH
         repeat (first | (refine ACode.st tys_ok rfl ?_; conv => whnf))
         refine ⟨fun h => ?_, fun h => ?_⟩
         ·have h : k < n.cals.length := by simpa using h
          have hw1 : Wr .i64 ((k : Int) + 1) = ((k + 1 : Nat) : Int) := by rw [Wr64 _ (by omega) (by omega)]; rfl
          have hcg : (n.cals.map calA)[k]? = some (calA n.cals[k]) := by rw [List.getElem?_map, List.getElem?_eq_getElem h]; rfl
          have hno := fun e => sm_cal (all_no (fun c : Cal => decide (c.hols.length ≤ 50) && decide (c.week.length ≤ 20)) n.cals k h e)
          have hst := all_snoc (fun c : Cal => decide (c.hols.length ≤ 50) && decide (c.week.length ≤ 20)) n.cals k h
          generalize hcx : n.cals[k] = c at *
          conv => whnf
          repeat (first | (refine ACode.st tys_ok rfl ?_; conv => whnf))
          refine ⟨by omega, _, hcg, ?_⟩
          conv => whnf
          repeat (first | (refine ACode.st tys_ok rfl ?_; conv => whnf))
          refine ⟨fun z => ?_, fun z => ?_⟩
          ·have z : c.hols.length ≤ 50 := by simp at z; omega
           conv => whnf
           repeat (first | (refine ACode.st tys_ok rfl ?_; conv => whnf))
           refine ⟨by omega, _, hcg, ?_⟩
           conv => whnf
           repeat (first | (refine ACode.st tys_ok rfl ?_; conv => whnf))
           refine ⟨fun y => ?_, fun y => ?_⟩
           ·have y : ¬ c.week.length ≤ 20 := by simp at y; omega
            conv => whnf
            repeat (first | (refine ACode.st tys_ok rfl ?_; conv => whnf))
            exact congrArg AV.bool (hno (by rw [decide_eq_false y]; simp)).symm
           ·have y : c.week.length ≤ 20 := by simp at y; omega
            conv => whnf
            repeat (first | (refine ACode.st tys_ok rfl ?_; conv => whnf))
            refine ⟨k + 1, ?_⟩
            conv => whnf
            repeat (refine And.intro ?_ ?_; (focus (first | rfl | (simp; done) | (first | exact hw1; done))); conv => whnf)
            exact ⟨⟨by omega, by rw [hst, ha, decide_eq_true z, decide_eq_true y]; rfl⟩, by omega⟩
          ·have z : ¬ c.hols.length ≤ 50 := by simp at z; omega
           conv => whnf
           repeat (first | (refine ACode.st tys_ok rfl ?_; conv => whnf))
           exact congrArg AV.bool (hno (by rw [decide_eq_false z]; simp)).symm
         ·have h : k = n.cals.length := by simp at h; omega
          rw [h, List.take_length] at ha
          conv => whnf
          repeat (first | (refine ACode.st tys_ok rfl ?_; conv => whnf))
          refine ACode.loopD (fun k : Nat => mk 85 [(1, .ptr 0 0), (2, .lit false), (4, .int .i64 k)]) (fun _ => [netH n]) (fun k => k ≤ n.offs.length ∧ ((n.offs.take k).all fun o => o.codes.all s40 && decide (o.codes.length ≤ 12)) = true) (fun k => n.offs.length - k) (fun _ _ => ⟨rfl, rfl, trivial⟩) ⟨0, ?_⟩ (fun _ => rfl) fun k hk => ?_
          ·conv => whnf
           repeat (refine And.intro ?_ ?_; (focus (first | rfl | (simp; done))); conv => whnf)
           rfl
          ·obtain ⟨hk, hb⟩ := hk
           unfold netH
           repeat (first | (refine ACode.st tys_ok rfl ?_; conv => whnf))
           refine ⟨fun h => ?_, fun h => ?_⟩
           ·have h : k < n.offs.length := by simpa using h
            have hw1 : Wr .i64 ((k : Int) + 1) = ((k + 1 : Nat) : Int) := by rw [Wr64 _ (by omega) (by omega)]; rfl
            have hcg : (n.offs.map offIA)[k]? = some (offIA n.offs[k]) := by rw [List.getElem?_map, List.getElem?_eq_getElem h]; rfl
            have hno := fun e => sm_off (all_no (fun o : OffI => o.codes.all s40 && decide (o.codes.length ≤ 12)) n.offs k h e)
            have hst := all_snoc (fun o : OffI => o.codes.all s40 && decide (o.codes.length ≤ 12)) n.offs k h
            have hcm := hcl _ (List.getElem_mem h)
            generalize hcx : n.offs[k] = o at *
            conv => whnf
            repeat (first | (refine ACode.st tys_ok rfl ?_; conv => whnf))
            refine ⟨by omega, _, hcg, ?_⟩
            conv => whnf
            repeat (first | (refine ACode.st tys_ok rfl ?_; conv => whnf))
            refine ACall.of_spec (rstrings_spec o.codes 12 hcm) rfl fun r hr => ?_
            subst hr
            conv => whnf
            repeat (first | (refine ACode.st tys_ok rfl ?_; conv => whnf))
            have he : decide ((o.codes.length : Int) ≤ 12) = decide (o.codes.length ≤ 12) := by rw [decide_eq_decide]; omega
            rw [he]
            refine ⟨fun z => ?_, fun z => ?_⟩
            ·have z : (o.codes.all s40 && decide (o.codes.length ≤ 12)) = false := by simp only [Bool.not_eq_true'] at z; exact z
             conv => whnf
             repeat (first | (refine ACode.st tys_ok rfl ?_; conv => whnf))
             exact congrArg AV.bool (hno z).symm
            ·have z : (o.codes.all s40 && decide (o.codes.length ≤ 12)) = true := by simp only [Bool.not_eq_false'] at z; exact z
             conv => whnf
             repeat (first | (refine ACode.st tys_ok rfl ?_; conv => whnf))
             refine ⟨k + 1, ?_⟩
             conv => whnf
             repeat (refine And.intro ?_ ?_; (focus (first | rfl | (simp; done) | (first | exact hw1; done))); conv => whnf)
             exact ⟨⟨by omega, by rw [hst, hb, z]; rfl⟩, by omega⟩
           ·have h : k = n.offs.length := by simp at h; omega
            rw [h, List.take_length] at hb
            conv => whnf
            repeat (first | (refine ACode.st tys_ok rfl ?_; conv => whnf))
            refine congrArg AV.bool ?_
            unfold smallB
            rw [decide_eq_true q0, decide_eq_true q1, decide_eq_true q2, decide_eq_true q3, decide_eq_true q4, decide_eq_true q5, q6, ha, hb]
            rfl
      ·have q5 : ¬ n.clss.length ≤ 6 := by simp at q5; omega
       conv => whnf
       repeat (first | (refine ACode.st tys_ok rfl ?_; conv => whnf))
       exact congrArg AV.bool (by unfold smallB; rw [decide_eq_false q5]; simp)
     ·have q4 : ¬ n.lins.length ≤ 45 := by simp at q4; omega
      conv => whnf
      repeat (first | (refine ACode.st tys_ok rfl ?_; conv => whnf))
      exact congrArg AV.bool (by unfold smallB; rw [decide_eq_false q4]; simp)
    ·have q3 : ¬ n.offs.length ≤ 15 := by simp at q3; omega
     conv => whnf
     repeat (first | (refine ACode.st tys_ok rfl ?_; conv => whnf))
     exact congrArg AV.bool (by unfold smallB; rw [decide_eq_false q3]; simp)
   ·have q2 : ¬ n.opers.length ≤ 8 := by simp at q2; omega
    conv => whnf
    repeat (first | (refine ACode.st tys_ok rfl ?_; conv => whnf))
    exact congrArg AV.bool (by unfold smallB; rw [decide_eq_false q2]; simp)
  ·have q1 : ¬ n.names.length ≤ 8 := by simp at q1; omega
   conv => whnf
   repeat (first | (refine ACode.st tys_ok rfl ?_; conv => whnf))
   exact congrArg AV.bool (by unfold smallB; rw [decide_eq_false q1]; simp)
 ·have q0 : ¬ n.cals.length ≤ 8 := by simp at q0; omega
  conv => whnf
  repeat (first | (refine ACode.st tys_ok rfl ?_; conv => whnf))
  exact congrArg AV.bool (by unfold smallB; rw [decide_eq_false q0]; simp)
end Go.Proofs.YtbedaolpfedacaaGreatDoor
namespace Go.Proofs.YtbedaolpfedacaaGreatDoor
open Go.Av Go.Av.Net Pl
theorem small_sm {n : NwI} (h : smallB n = true) : SmI n := by
 unfold smallB at h
 simp only [Bool.and_eq_true, decide_eq_true_eq, List.all_eq_true] at h
 obtain ⟨⟨⟨⟨⟨⟨⟨⟨h1, h2⟩, h3⟩, h4⟩, h5⟩, h6⟩, h7⟩, h8⟩, h9⟩ := h
 have q : ∀ x ∈ namesL n, x.length ≤ 8000 := fun x hx => by have := h7 x hx; simp [s40] at this; omega
 unfold namesL at q
 simp only [List.mem_append, List.mem_map] at q
 refine ⟨by omega, by omega, by omega, by omega, by omega, by omega, fun x hx => q x (by simp [hx]), fun x hx => q x (by simp [hx]), fun x hx => q x.name (.inl (.inl (.inr ⟨x, hx, rfl⟩))), fun x hx => q x.name (.inl (.inr ⟨x, hx, rfl⟩)), fun x hx => q x.name (.inr ⟨x, hx, rfl⟩),
  fun c hc => ?_, fun o ho => ?_⟩
 ·have := h8 c hc; omega
 ·have := h9 o ho
  exact ⟨by omega, fun x hx => by have := this.1 x hx; simp [s40] at this; omega⟩
def exN : NwI := ⟨[⟨-60, [true, true, true, true, true, false, false], [5]⟩], [[99]], [[112]], [⟨[97], 0, 0, 8, 2, 10, [[49, 48, 48, 48], [66, 50]]⟩, ⟨[98], 0, 0, 2, 1, 5, []⟩], [⟨[108], 0, 1, 480, 120, 3⟩], [⟨[107], 1020, 720⟩]⟩
end Go.Proofs.YtbedaolpfedacaaGreatDoor
namespace Go.Proofs.YtbedaolpfedacaaGreatDoor
open Go.Av Go.Av.Net Pl
def exT : Bs := [99, 97, 108, 101, 110, 100, 97, 114, 32, 99, 32, 123, 10, 32, 32, 122, 111, 110, 101, 32, 45, 54, 48, 59, 10, 32, 32, 119, 101, 101, 107, 32, 49, 49, 49, 49, 49, 48, 48, 59, 10, 32, 32, 104, 111, 108, 105, 100, 97, 121, 32, 53, 59, 10, 125, 10, 111, 112, 101, 114, 97, 116, 111, 114, 32, 112, 59, 10, 111, 102, 102, 105, 99, 101, 32, 97, 32, 123, 10, 32, 32, 111, 112, 101, 114, 97, 116, 111, 114, 32, 112, 59, 10, 32, 32, 99, 97, 108, 101, 110, 100, 97, 114, 32, 99, 59, 10, 32, 32, 112, 111, 99, 107, 101, 116, 115, 32, 56, 59, 10, 32, 32, 112, 97, 115, 115, 101, 115, 32, 50, 59, 10, 32, 32, 109, 105, 110, 117, 116, 101, 115, 32, 49, 48, 59, 10, 32, 32, 99, 111, 100, 101, 115, 32, 49, 48, 48, 48, 32, 66, 50, 59, 10, 125, 10, 111, 102, 102, 105, 99, 101, 32, 98, 32, 123, 10, 32, 32, 111, 112, 101, 114, 97, 116, 111, 114, 32, 112, 59, 10, 32, 32, 99, 97, 108, 101, 110, 100, 97, 114, 32, 99, 59, 10, 32, 32, 112, 111, 99, 107, 101, 116, 115, 32, 50, 59, 10, 32, 32, 112, 97, 115, 115, 101, 115, 32, 49, 59, 10, 32, 32, 109, 105, 110, 117, 116, 101, 115, 32, 53, 59, 10, 125, 10, 108, 105, 110, 101, 32, 108, 58, 32, 97, 32, 45, 62, 32, 98, 32, 97, 116, 32, 52, 56, 48, 32, 116, 114, 97, 118, 101, 108, 32, 49, 50, 48, 32, 108, 111, 97, 100, 32, 51, 59, 10, 99, 108, 97, 115, 115, 32, 107, 32, 123, 10, 32, 32, 99, 117, 116, 32, 49, 48, 50, 48, 59, 10, 32, 32, 100, 101, 108, 105, 118, 101, 114, 32, 55, 50, 48, 59, 10, 125, 10]
theorem allZ_refl {α : Type} {f : α → α → Bool} (h : ∀ x, f x x = true) (l : List α) : allZ f l l = true := allZ_iff.2 ⟨rfl, fun k _ _ => h _⟩
theorem sameNw_refl (n : Nw) : sameNwB n n = true := by
 refine sameNw_iff.2 ⟨rfl, allZ_refl (fun x => ?_) _, allZ_refl (fun x => ?_) _, allZ_refl (fun x => ?_) _, allZ_refl (fun x => ?_) _, allZ_refl (fun x => ?_) _⟩
 ·simp [sameCalB]
 ·simp
 ·simp [sameOffB]
 ·simp [sameLinB]
 ·simp [sameClsB]
theorem same_true {n : Nw} (h : Sml n) : Ctr Tryz.prog 17 [netA n, netA n] (fun r => r = .bool true) := by
 have := same_spec n n h h
 rwa [sameNw_refl n] at this
theorem sml_toN {n : NwI} (h : SmI n) : Sml (toN n) := by
 refine ⟨h.cals, h.names, h.opers, by simpa [toN] using h.offs, by simpa [toN] using h.lins, h.clss, fun c hc => (h.hol c hc).symm, fun o ho => ?_⟩
 obtain ⟨x, hx, rfl⟩ := List.mem_map.1 ho
 exact (h.cod x hx).1
theorem parse_at {s : Bs} (hs : s.length ≤ 9223372036854775807) {x : Res} (h : parseP s = x) : Ctr Tryz.prog 16 [.str s] (fun r => r = resP0 x) := by
 have := Parse_spec0 s hs; rwa [h] at this
end Go.Proofs.YtbedaolpfedacaaGreatDoor
namespace Go.Proofs.YtbedaolpfedacaaGreatDoor
open Go.Av Go.Av.Net Pl
set_option maxRecDepth 100000
theorem print_ex : printN exN = exT := by kernel_rfl
theorem printB_ex : printB exN = true := by kernel_rfl
theorem parse_ex : parseP exT = .ok (toN exN) := by kernel_rfl
theorem small_ex : SmI exN := small_sm (by kernel_rfl)
def exA : AV := .agg [.sl 3 [.agg [.int .i64 (-60), .sl 1 [.lit true, .lit true, .lit true, .lit true, .lit true, .lit false, .lit false], .sl 1 [.int .i64 5]]], .sl 1 [.str [99]], .sl 1 [.agg [.str [112]]],
 .sl 7 [.agg [.str [97], .int .i64 0, .int .i64 0, .int .i64 8, .int .i64 2, .int .i64 10, .sl 1 [.str [49, 48, 48, 48], .str [66, 50]]], .agg [.str [98], .int .i64 0, .int .i64 0, .int .i64 2, .int .i64 1, .int .i64 5, .raw (.slice none 0 0)]],
 .sl 6 [.agg [.str [108], .int .i64 0, .int .i64 1, .int .i64 480, .int .i64 120, .int .i64 3]], .sl 3 [.agg [.str [107], .int .i64 1020, .int .i64 720]]]
theorem example_spec0 : Ctr Tryz.prog 18 [] (fun r => r = .tuple [exA, .str exT]) := by
 refine Ctr.of_body Tryz.func18 rfl tys_ok (by kernel_rfl) ?_
 conv => whnf
 repeat (first | (refine ACode.st tys_ok rfl ?_; conv => whnf))
 repeat (first | (refine And.intro ?_ ?_; (focus (simp [closed]; done)); conv => whnf) | (refine And.intro ?_ ?_; (focus (decide; done)); conv => whnf) | (refine ACode.st tys_ok rfl ?_; conv => whnf))
 kernel_rfl
theorem ex_le : Le (.tuple [exA, .str exT]) (.tuple [netI exN, .str exT]) := by
 refine Le.tuple (.cons (Le.agg ?_) (Les.refl _))
 repeat' (first | exact Les.nil | exact Ler.nil | exact Le.lit _ | exact Le.nil _ | exact Le.refl _ | refine Les.cons ?_ ?_ | refine Ler.cons ?_ ?_ | refine Le.sl ?_ | refine Le.agg ?_)
theorem example_spec : Ctr Tryz.prog 18 [] (fun r => r = .tuple [netI exN, .str exT]) := example_spec0.le ex_le
def badN : NwI := { exN with lins := [⟨[108], 0, 2, 0, 0, 0⟩] }
def keyN : NwI := { exN with clss := [⟨w_cut, 0, 0⟩] }
def nwI0 : NwI := ⟨[], [], [], [], [], []⟩
theorem print_at {n : NwI} (h : smallB n = true) {x : Bs} (hx : printN n = x) : Ctr Tryz.prog 13 [netI n] (fun r => r = .str x) := by
 have := Print_spec n (small_sm h); rwa [hx] at this
theorem printable_at {n : NwI} (h : smallB n = true) {b : Bool} (hb : printB n = b) : Ctr Tryz.prog 11 [netI n] (fun r => r = .bool b) := by
 have := Printable_spec n (small_sm h); rwa [hb] at this
theorem nil_le : Les [.agg [.raw (.slice none 0 0), .raw (.slice none 0 0), .raw (.slice none 0 0), .raw (.slice none 0 0), .raw (.slice none 0 0), .raw (.slice none 0 0)]] [netI nwI0] := by
 refine .cons (Le.agg ?_) .nil
 repeat' (first | exact Les.nil | exact Le.nil _ | refine Les.cons ?_ ?_)
set_option maxHeartbeats 4000000 in
theorem head_spec : Ctr Tryz.prog 9 [] (fun r => r = .bool true) := by
 refine Ctr.lits ?_
 refine Ctr.of_body Tryz.func9 rfl tys_ok (by kernel_rfl) ?_
 conv => whnf
 repeat (first | (refine ACode.st tys_ok rfl ?_; conv => whnf))
 refine ACall.of_spec (example_spec) rfl fun r hr => ?_
 subst hr
 conv => whnf
 repeat (first | (refine ACode.st tys_ok rfl ?_; conv => whnf))
 refine ACall.of_spec (parse_at (by decide) parse_ex) rfl fun r hr => ?_
 subst hr
 conv => whnf
 repeat (first | (refine ACode.st tys_ok rfl ?_; conv => whnf))
 refine ACall.of_spec (print_at (n := exN) rfl print_ex) rfl fun r hr => ?_
 subst hr
 conv => whnf
 repeat (first | (refine ACode.st tys_ok rfl ?_; conv => whnf))
 repeat (first | ((first | refine ⟨fun _ => ?_, fun h => absurd h (by decide +kernel)⟩ | refine ⟨fun h => absurd h (by decide +kernel), fun _ => ?_⟩ | refine ⟨by decide, _, rfl, ?_⟩); conv => whnf) | (refine ACode.st tys_ok rfl ?_; conv => whnf))
 refine ACall.of_spec (printable_at (n := exN) rfl printB_ex) rfl fun r hr => ?_
 subst hr
 conv => whnf
 repeat (first | (refine ACode.st tys_ok rfl ?_; conv => whnf))
 repeat (first | ((first | refine ⟨fun _ => ?_, fun h => absurd h (by decide +kernel)⟩ | refine ⟨fun h => absurd h (by decide +kernel), fun _ => ?_⟩ | refine ⟨by decide, _, rfl, ?_⟩); conv => whnf) | (refine ACode.st tys_ok rfl ?_; conv => whnf))
 refine ACall.of_spec (same_true (sml_toN small_ex)) rfl fun r hr => ?_
 subst hr
 conv => whnf
 repeat (first | (refine ACode.st tys_ok rfl ?_; conv => whnf))
 repeat (first | ((first | refine ⟨fun _ => ?_, fun h => absurd h (by decide +kernel)⟩ | refine ⟨fun h => absurd h (by decide +kernel), fun _ => ?_⟩ | refine ⟨by decide, _, rfl, ?_⟩); conv => whnf) | (refine ACode.st tys_ok rfl ?_; conv => whnf))
 refine ACall.freeze 3 ?_ (by kernel_rfl)
 conv => whnf
 refine ⟨by simp [closed, closeds], ?_⟩
 conv => whnf
 repeat (refine ⟨(by first | rfl | (simp; done) : (_ : Nat) = _), ?_⟩; conv => whnf)
 refine ACall.of_spec (printable_at (n := badN) rfl (by kernel_rfl : printB badN = false)) rfl fun r hr => ?_
 subst hr
 conv => whnf
 repeat (first | (refine ACode.st tys_ok rfl ?_; conv => whnf))
 repeat (first | ((first | refine ⟨fun _ => ?_, fun h => absurd h (by decide +kernel)⟩ | refine ⟨fun h => absurd h (by decide +kernel), fun _ => ?_⟩ | refine ⟨by decide, _, rfl, ?_⟩); conv => whnf) | (refine ACode.st tys_ok rfl ?_; conv => whnf))
 refine ACall.of_spec (print_at (n := badN) rfl (by kernel_rfl : printN badN = [])) rfl fun r hr => ?_
 subst hr
 conv => whnf
 repeat (first | (refine ACode.st tys_ok rfl ?_; conv => whnf))
 repeat (first | ((first | refine ⟨fun _ => ?_, fun h => absurd h (by decide +kernel)⟩ | refine ⟨fun h => absurd h (by decide +kernel), fun _ => ?_⟩ | refine ⟨by decide, _, rfl, ?_⟩); conv => whnf) | (refine ACode.st tys_ok rfl ?_; conv => whnf))
 refine ACall.freeze 5 ?_ (by kernel_rfl)
 conv => whnf
 refine ⟨by simp [closed, closeds], ?_⟩
 conv => whnf
 repeat (refine ⟨(by first | rfl | (simp; done) : (_ : Nat) = _), ?_⟩; conv => whnf)
 refine ACall.of_spec (printable_at (n := keyN) rfl (by kernel_rfl : printB keyN = false)) rfl fun r hr => ?_
 subst hr
 conv => whnf
 repeat (first | (refine ACode.st tys_ok rfl ?_; conv => whnf))
 repeat (first | ((first | refine ⟨fun _ => ?_, fun h => absurd h (by decide +kernel)⟩ | refine ⟨fun h => absurd h (by decide +kernel), fun _ => ?_⟩ | refine ⟨by decide, _, rfl, ?_⟩); conv => whnf) | (refine ACode.st tys_ok rfl ?_; conv => whnf))
 refine ACall.le nil_le ?_
 refine ACall.of_spec (printable_at (n := nwI0) rfl (by kernel_rfl : printB nwI0 = true)) rfl fun r hr => ?_
 subst hr
 conv => whnf
 repeat (first | (refine ACode.st tys_ok rfl ?_; conv => whnf))
 repeat (first | ((first | refine ⟨fun _ => ?_, fun h => absurd h (by decide +kernel)⟩ | refine ⟨fun h => absurd h (by decide +kernel), fun _ => ?_⟩ | refine ⟨by decide, _, rfl, ?_⟩); conv => whnf) | (refine ACode.st tys_ok rfl ?_; conv => whnf))
 refine ACall.le nil_le ?_
 refine ACall.of_spec (print_at (n := nwI0) rfl (by kernel_rfl : printN nwI0 = [])) rfl fun r hr => ?_
 subst hr
 conv => whnf
 repeat (first | (refine ACode.st tys_ok rfl ?_; conv => whnf))
 repeat (first | ((first | refine ⟨fun _ => ?_, fun h => absurd h (by decide +kernel)⟩ | refine ⟨fun h => absurd h (by decide +kernel), fun _ => ?_⟩ | refine ⟨by decide, _, rfl, ?_⟩); conv => whnf) | (refine ACode.st tys_ok rfl ?_; conv => whnf))
 first | exact .inl rfl | exact .inr rfl
end Go.Proofs.YtbedaolpfedacaaGreatDoor
namespace Go.Proofs.YtbedaolpfedacaaGreatDoor
open Go.Av Go.Av.Net Pl
set_option maxRecDepth 20000
theorem printN_of {n : NwI} (h : printB n = true) : printN n = printT n := by unfold printN; rw [h]; rfl
theorem printN_no {n : NwI} (h : printB n = false) : printN n = [] := by unfold printN; rw [h]; rfl
theorem print_y {n : NwI} (sm : SmI n) (h : printB n = true) : Ctr Tryz.prog 13 [netI n] (fun r => r = .str (printT n)) := by
 have := Print_spec n sm; rwa [printN_of h] at this
theorem print_n {n : NwI} (sm : SmI n) (h : printB n = false) : Ctr Tryz.prog 13 [netI n] (fun r => r = .str []) := by
 have := Print_spec n sm; rwa [printN_no h] at this
theorem printable_y {n : NwI} (sm : SmI n) {b : Bool} (h : printB n = b) : Ctr Tryz.prog 11 [netI n] (fun r => r = .bool b) := by
 have := Printable_spec n sm; rwa [h] at this
theorem small_at {n : NwI} (hcl : ∀ o ∈ n.offs, o.codes.length ≤ 9223372036854775807) {b : Bool} (h : smallB n = b) : Ctr Tryz.prog 10 [netI n] (fun r => r = .bool b) := by
 have := Small_spec n hcl; rwa [h] at this
end Go.Proofs.YtbedaolpfedacaaGreatDoor
