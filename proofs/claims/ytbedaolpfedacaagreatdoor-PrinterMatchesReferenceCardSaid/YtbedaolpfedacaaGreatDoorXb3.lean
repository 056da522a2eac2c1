/-
  The reference's Print.
-/
import Derived.Test.YtbedaolpfedacaaGreatDoorXa3
import Derived.Test.YtbedaolpfedacaaGreatDoorWb3
set_option linter.unusedVariables false
set_option linter.unusedSimpArgs false
namespace Go.Proofs.YtbedaolpfedacaaGreatDoor
open Go.Av Go.Av.Net Pl
theorem rprintable_at {n : NwI} (h : smallB n = true) {b : Bool} (hb : printB n = b) : Ctr Tryz.prog 12 [netI n] (fun r => r = .bool b) := by
 have sm := small_sm h
 unfold smallB at h
 simp only [Bool.and_eq_true, decide_eq_true_eq, List.all_eq_true] at h
 obtain ⟨⟨⟨⟨⟨⟨⟨⟨h1, h2⟩, h3⟩, h4⟩, h5⟩, h6⟩, h7⟩, h8⟩, h9⟩ := h
 have := rPrintable_spec n sm (by omega) (by omega) (by omega) (by omega) (by omega)
 rwa [hb] at this
def calH (c : Cal) : HO := .cells [.int .i64 c.zone, .sl 1 (c.week.map .bool), .sl 1 (c.hols.map (.int .i64))]
def calB1 (nm : Bs) (z : Int) : Bs := headT w_calendar nm ++ fieldT w_zone (decT z) ++ ([32, 32] ++ (w_week ++ [32]))
def calB2 (nm : Bs) (c : Cal) : Bs := calB1 nm c.zone ++ weekT c.week ++ [59, 10]
def holT (d : Int) : Bs := fieldT w_holiday (decT d)
theorem calT_parts (nm : Bs) (c : Cal) : calT nm c = calB2 nm c ++ c.hols.flatMap holT ++ endT := by
 simp [calT, calB2, calB1, fieldT]; rfl
theorem calB1_len (nm : Bs) (z : Int) : (calB1 nm z).length = nm.length + (decT z).length + 28 := by
 have : w_calendar.length = 8 ∧ w_zone.length = 4 ∧ w_week.length = 4 := ⟨rfl, rfl, rfl⟩
 simp [calB1, headT_len, fieldT_len]; omega
theorem calB2_len (nm : Bs) (c : Cal) : (calB2 nm c).length = (calB1 nm c.zone).length + (weekT c.week).length + 2 := by
 simp only [calB2, List.length_append, List.length_cons, List.length_nil]
theorem calT_len (nm : Bs) (c : Cal) : (calT nm c).length = (calB1 nm c.zone).length + (weekT c.week).length + (c.hols.flatMap holT).length + 4 := by
 rw [calT_parts]
 have : endT.length = 2 := rfl
 simp only [calB2, List.length_append, this, List.length_cons, List.length_nil]; omega
def offB1 (n : NwI) (o : OffI) : Bs := headT w_office o.name ++ fieldT w_operator (nameAt n.opers o.oper) ++ fieldT w_calendar (nameAt n.names o.cal) ++ fieldT w_pockets (decT o.pockets) ++ fieldT w_passes (decT o.passes) ++ fieldT w_minutes (decT o.minutes)
def codT (x : Bs) : Bs := 32 :: x
theorem offT_parts (n : NwI) (o : OffI) : offT n o = offB1 n o ++ codesT o.codes ++ endT := rfl
theorem codesT_ne {l : List Bs} (h : l ≠ []) : codesT l = [32, 32] ++ w_codes ++ l.flatMap codT ++ [59, 10] := by
 cases l with
 | nil => exact absurd rfl h
 | cons x y => rfl
theorem offB1_len (n : NwI) (o : OffI) (h1 : (nameAt n.opers o.oper).length ≤ 16) (h2 : (nameAt n.names o.cal).length ≤ 16) (h3 : o.name.length ≤ 16) (h4 : (decT o.pockets).length ≤ 9) (h5 : (decT o.passes).length ≤ 9) (h6 : (decT o.minutes).length ≤ 9) : (offB1 n o).length ≤ 200 := by
 have : w_office.length = 6 ∧ w_operator.length = 8 ∧ w_calendar.length = 8 ∧ w_pockets.length = 7 ∧ w_passes.length = 6 ∧ w_minutes.length = 7 := ⟨rfl, rfl, rfl, rfl, rfl, rfl⟩
 simp only [offB1, List.length_append, headT_len, fieldT_len]; omega
theorem offT_len (n : NwI) (o : OffI) : (offT n o).length = (offB1 n o).length + (codesT o.codes).length + 2 := by
 rw [offT_parts]; have : endT.length = 2 := rfl
 simp only [List.length_append, this]
set_option maxRecDepth 20000 in
set_option maxHeartbeats 8000000 in
theorem rPrint_spec (n : NwI) (hS : smallB n = true) : Ctr Tryz.prog 14 [netI n] (fun r => r = .str (printN n)) := by
 have sm := small_sm hS
 have s1 := sm.cals; have s2 := sm.offs; have s3 := sm.lins; have s4 := sm.clss; have s5 := sm.opers
 cases g : printB n with
 | false =>
  refine Ctr.of_body Tryz.func14 rfl tys_ok (by kernel_rfl) ?_
  conv => whnf
  repeat (first | (refine ACode.st tys_ok rfl ?_; conv => whnf))
  refine ACall.of_spec (rprintable_at hS g) rfl fun r hr => ?_
  subst hr
  conv => whnf
  repeat (first | (refine ACode.st tys_ok rfl ?_; conv => whnf))
  repeat (first | ((first | refine ⟨fun _ => ?_, fun h => absurd h (by decide +kernel)⟩ | refine ⟨fun h => absurd h (by decide +kernel), fun _ => ?_⟩ | refine ⟨by decide, _, rfl, ?_⟩); conv => whnf) | (refine ACode.st tys_ok rfl ?_; conv => whnf))
  exact congrArg AV.str (by unfold printN; rw [g]; rfl)
 | true =>
  have hT := print_len n sm g
  have hN : printN n = printT n := by unfold printN; rw [g]; rfl
  rw [hN]
  have gp := g
  unfold printB namesB at gp
  simp only [Bool.and_eq_true, List.all_eq_true, decide_eq_true_eq] at gp
  obtain ⟨⟨⟨⟨⟨p0, ⟨⟨⟨⟨g1, g2⟩, g3⟩, g4⟩, g5⟩⟩, k1⟩, k2⟩, k3⟩, k4⟩ := gp
  have hP : printT n = (n.names.zip n.cals).flatMap (fun x => calT x.1 x.2) ++ n.opers.flatMap operT ++ n.offs.flatMap (offT n) ++ n.lins.flatMap (linT n) ++ n.clss.flatMap clssT := by unfold printT; rw [calsT_zip]
  rw [hP] at hT ⊢
  simp only [List.length_append] at hT
  have hZ : (n.names.zip n.cals).length = n.cals.length := by rw [List.length_zip]; omega
  generalize hZe : n.names.zip n.cals = Z at *
  refine Ctr.of_body Tryz.func14 rfl tys_ok (by kernel_rfl) ?_
  conv => whnf
  repeat (first | (refine ACode.st tys_ok rfl ?_; conv => whnf))
  refine ACall.of_spec (rprintable_at hS g) rfl fun r hr => ?_
  subst hr
  conv => whnf
  repeat (first | (refine ACode.st tys_ok rfl ?_; conv => whnf))
  repeat (first | ((first | refine ⟨fun _ => ?_, fun h => absurd h (by decide +kernel)⟩ | refine ⟨fun h => absurd h (by decide +kernel), fun _ => ?_⟩ | refine ⟨by decide, _, rfl, ?_⟩); conv => whnf) | (refine ACode.st tys_ok rfl ?_; conv => whnf))
  refine ACode.loopD (fun k : Nat => mk 251 [(1, .ptr 0 0), (3, .str ((Z.take k).flatMap fun x => calT x.1 x.2)), (4, .int .i64 k)]) (fun _ => [netH n]) (fun k => k ≤ n.cals.length) (fun k => n.cals.length - k) (fun _ _ => ⟨rfl, rfl, trivial⟩) ⟨0, ?_⟩ (fun _ => rfl) fun k hkk => ?_
  ·conv => whnf
   repeat (refine And.intro ?_ ?_; (focus (first | rfl | (simp; done))); conv => whnf)
   exact Nat.zero_le _
  ·unfold netH
   repeat (first | (refine ACode.st tys_ok rfl ?_; conv => whnf))
   refine ⟨fun h => ?_, fun h => ?_⟩
   ·have h : k < n.cals.length := by simpa using h
    have hw1 : Wr .i64 ((k : Int) + 1) = ((k + 1 : Nat) : Int) := by rw [Wr64 _ (by omega) (by omega)]; rfl
    have hcg : (n.cals.map calA)[k]? = some (calA n.cals[k]) := by rw [List.getElem?_map, List.getElem?_eq_getElem h]; rfl
    have hkn : k < n.names.length := by omega
    have hng := strs_get n.names k hkn
    have hz : Z[k] = (n.names[k], n.cals[k]) := by subst hZe; exact List.getElem_zip
    have hst : (Z.take (k + 1)).flatMap (fun x : Bs × Cal => calT x.1 x.2) = (Z.take k).flatMap (fun x : Bs × Cal => calT x.1 x.2) ++ calT n.names[k] n.cals[k] := by
     have := fm_step (fun x : Bs × Cal => calT x.1 x.2) Z k (by omega)
     rw [hz] at this
     exact this
    have hle := fm_len (fun x : Bs × Cal => calT x.1 x.2) Z (k + 1)
    have hnl := name_le (g1 _ (List.getElem_mem hkn))
    have hcb := k1 _ (List.getElem_mem h)
    have hhl := (sm.hol _ (List.getElem_mem h)).1
    rw [hst, List.length_append] at hle
    generalize n.cals[k] = c at *
    generalize n.names[k] = nm at *
    generalize (Z.take k).flatMap (fun x : Bs × Cal => calT x.1 x.2) = A at *
    unfold calB at hcb
    simp only [Bool.and_eq_true, decide_eq_true_eq, List.all_eq_true] at hcb
    obtain ⟨⟨c1, c2⟩, c3⟩ := hcb
    have hdl := decT_len c2
    have hcz := rdecimal_spec c2
    have hcl := calT_len nm c
    have hb1 := calB1_len nm c.zone
    have hb2 := calB2_len nm c
    conv => whnf
    repeat (first | (refine ACode.st tys_ok rfl ?_; conv => whnf))
    refine ⟨by omega, _, hcg, ?_⟩
    conv => whnf
    repeat (first | (refine ACode.st tys_ok rfl ?_; conv => whnf))
    repeat (first | (refine ACode.draw [] tys_ok (by kernel_rfl) (by kernel_rfl) ?_; conv => whnf) | (refine ⟨_, ⟨hcz, rfl⟩, ?_⟩; conv => whnf) | (refine ⟨by omega, _, (by exact hng), ?_⟩; conv => whnf) | (refine And.intro ?_ ?_; (focus (simp only [List.length_append, List.length_cons, List.length_nil, Array.length_toList, List.size_toArray]; omega; done)); conv => whnf) | (refine ACode.st tys_ok rfl ?_; conv => whnf))
    refine ACode.loopD (fun q : Nat => mk 251 [(1, .ptr 0 0), (3, .str (A ++ calB1 nm c.zone ++ weekT (c.week.take q))), (4, .int .i64 k), (5, .ptr 1 0), (6, .int .i64 q)]) (fun _ => [netH n, calH c] ++ List.replicate 15 .dead) (fun q => q ≤ 7) (fun q => 7 - q) (fun _ _ => by simp [objsOK, netH, calH, List.replicate]; first | done | rfl | trivial) ⟨0, ?_⟩ (fun _ => rfl) fun q hkq => ?_
    ·conv => whnf
     repeat (refine And.intro ?_ ?_; (focus (first | rfl | (simp; done) | (exact congrArg AV.str (by simp [calB1, headT, fieldT, w_calendar, w_zone, w_week, weekT]); done))); conv => whnf)
     exact Nat.zero_le _
    ·unfold netH calH
     repeat (first | (refine ACode.st tys_ok rfl ?_; conv => whnf))
     refine ⟨fun h => ?_, fun h => ?_⟩
     ·have h : q < 7 := by simp at h; omega
      have hqw : q < c.week.length := by omega
      have hw2 : Wr .i64 ((q : Int) + 1) = ((q + 1 : Nat) : Int) := by rw [Wr64 _ (by omega) (by omega)]; rfl
      have hwq : (c.week.map AV.bool)[q]? = some (.bool c.week[q]) := by rw [List.getElem?_map, List.getElem?_eq_getElem hqw]; rfl
      have hws : weekT (c.week.take (q + 1)) = weekT (c.week.take q) ++ [if c.week[q] then 49 else 48] := by
       unfold weekT; rw [List.take_succ_eq_append_getElem hqw, List.map_append]; rfl
      have hwl : (weekT (c.week.take q)).length ≤ 7 := by unfold weekT; rw [List.length_map, List.length_take]; omega
      generalize c.week[q] = b at *
      conv => whnf
      repeat (first | (refine ACode.st tys_ok rfl ?_; conv => whnf))
      refine ⟨by omega, _, hwq, ?_⟩
      conv => whnf
      repeat (first | (refine ACode.st tys_ok rfl ?_; conv => whnf))
      cases b with
      | true =>
       repeat (first | ((first | refine ⟨fun _ => ?_, fun h => absurd h (by decide +kernel)⟩ | refine ⟨fun h => absurd h (by decide +kernel), fun _ => ?_⟩ | refine ⟨by decide, _, rfl, ?_⟩); conv => whnf))
       conv => whnf
       repeat (first | (refine ACode.st tys_ok rfl ?_; conv => whnf))
       refine ⟨by simp only [List.length_append, List.length_cons, List.length_nil, Array.length_toList, List.size_toArray]; omega, ?_⟩
       conv => whnf
       repeat (first | (refine ACode.st tys_ok rfl ?_; conv => whnf))
       refine ⟨q + 1, ?_⟩
       conv => whnf
       repeat (refine And.intro ?_ ?_; (focus (first | rfl | (simp; done) | (first | exact hw2 | exact congrArg AV.str (by rw [hws]; simp); done))); conv => whnf)
       omega
      | false =>
       repeat (first | ((first | refine ⟨fun _ => ?_, fun h => absurd h (by decide +kernel)⟩ | refine ⟨fun h => absurd h (by decide +kernel), fun _ => ?_⟩ | refine ⟨by decide, _, rfl, ?_⟩); conv => whnf))
       conv => whnf
       repeat (first | (refine ACode.st tys_ok rfl ?_; conv => whnf))
       refine ⟨by simp only [List.length_append, List.length_cons, List.length_nil, Array.length_toList, List.size_toArray]; omega, ?_⟩
       conv => whnf
       repeat (first | (refine ACode.st tys_ok rfl ?_; conv => whnf))
       refine ⟨q + 1, ?_⟩
       conv => whnf
       repeat (refine And.intro ?_ ?_; (focus (first | rfl | (simp; done) | (first | exact hw2 | exact congrArg AV.str (by rw [hws]; simp); done))); conv => whnf)
       omega
     ·have h : q = 7 := by simp at h; omega
      rw [show c.week.take q = c.week from List.take_of_length_le (by omega)]
      have hwl : (weekT c.week).length = 7 := by unfold weekT; rw [List.length_map]; omega
      conv => whnf
      repeat (first | (refine ACode.st tys_ok rfl ?_; conv => whnf))
      refine ⟨by simp only [List.length_append, List.length_cons, List.length_nil, Array.length_toList, List.size_toArray]; omega, ?_⟩
      conv => whnf
      repeat (first | (refine ACode.st tys_ok rfl ?_; conv => whnf))
      refine ACode.loopD (fun q : Nat => mk 251 [(1, .ptr 0 0), (3, .str (A ++ calB2 nm c ++ (c.hols.take q).flatMap holT)), (4, .int .i64 k), (5, .ptr 1 0), (7, .int .i64 q)]) (fun _ => [netH n, calH c] ++ List.replicate 15 .dead) (fun q => q ≤ c.hols.length) (fun q => c.hols.length - q) (fun _ _ => by simp [objsOK, netH, calH, List.replicate]; first | done | rfl | trivial) ⟨0, ?_⟩ (fun _ => rfl) fun q hkq => ?_
      ·conv => whnf
       repeat (refine And.intro ?_ ?_; (focus (first | rfl | (simp; done) | (exact congrArg AV.str (by simp [calB2]); done))); conv => whnf)
       exact Nat.zero_le _
      ·unfold netH calH
       repeat (first | (refine ACode.st tys_ok rfl ?_; conv => whnf))
       refine ⟨fun h => ?_, fun h => ?_⟩
       ·have h : q < c.hols.length := by simpa using h
        have hw2 : Wr .i64 ((q : Int) + 1) = ((q + 1 : Nat) : Int) := by rw [Wr64 _ (by omega) (by omega)]; rfl
        have hdq : (c.hols.map (AV.int .i64))[q]? = some (.int .i64 c.hols[q]) := by rw [List.getElem?_map, List.getElem?_eq_getElem h]; rfl
        have hds := fm_step holT c.hols q h
        have hl1 := fm_len holT c.hols q
        have hdd := decT_len (c3 _ (List.getElem_mem h))
        have hcd := rdecimal_spec (c3 _ (List.getElem_mem h))
        generalize c.hols[q] = d at *
        conv => whnf
        repeat (first | (refine ACode.st tys_ok rfl ?_; conv => whnf))
        repeat (first | (refine ⟨by omega, _, (by exact hdq), ?_⟩; conv => whnf) | (refine ACall.of_spec (hcd) rfl fun r hr => ?_; subst hr; conv => whnf) | (refine And.intro ?_ ?_; (focus (simp only [List.length_append, List.length_cons, List.length_nil, Array.length_toList, List.size_toArray]; omega; done)); conv => whnf) | (refine ACode.st tys_ok rfl ?_; conv => whnf))
        refine ⟨q + 1, ?_⟩
        conv => whnf
        repeat (refine And.intro ?_ ?_; (focus (first | rfl | (simp; done) | (first | exact hw2 | exact congrArg AV.str (by rw [hds]; simp [holT, fieldT, w_holiday]); done))); conv => whnf)
        omega
       ·have h : q = c.hols.length := by simp at h; omega
        rw [h, List.take_length]
        conv => whnf
        repeat (first | (refine ACode.st tys_ok rfl ?_; conv => whnf))
        refine ⟨by simp only [List.length_append, List.length_cons, List.length_nil, Array.length_toList, List.size_toArray]; omega, ?_⟩
        conv => whnf
        repeat (first | (refine ACode.st tys_ok rfl ?_; conv => whnf))
        refine ⟨k + 1, ?_⟩
        conv => whnf
        repeat (refine And.intro ?_ ?_; (focus (first | rfl | (simp; done) | (first | exact hw1 | exact congrArg AV.str (by rw [hst, calT_parts]; simp [endT]); done))); conv => whnf)
        omega
   ·have h : k = n.cals.length := by simp at h; omega
    subst h
    rw [show Z.take n.cals.length = Z from List.take_of_length_le (by omega)]
    generalize hA : Z.flatMap (fun x : Bs × Cal => calT x.1 x.2) = A at *
    conv => whnf
    repeat (first | (refine ACode.st tys_ok rfl ?_; conv => whnf))
    refine ACode.loopD (fun k : Nat => mk 251 [(1, .ptr 0 0), (3, .str (A ++ (n.opers.take k).flatMap operT)), (8, .int .i64 k)]) (fun _ => [netH n]) (fun k => k ≤ n.opers.length) (fun k => n.opers.length - k) (fun _ _ => ⟨rfl, rfl, trivial⟩) ⟨0, ?_⟩ (fun _ => rfl) fun k hkk => ?_
    ·conv => whnf
     repeat (refine And.intro ?_ ?_; (focus (first | rfl | (simp; done) | (exact congrArg AV.str (by simp); done))); conv => whnf)
     exact Nat.zero_le _
    ·unfold netH
     repeat (first | (refine ACode.st tys_ok rfl ?_; conv => whnf))
     refine ⟨fun h => ?_, fun h => ?_⟩
     ·have h : k < n.opers.length := by simpa using h
      have hw1 : Wr .i64 ((k : Int) + 1) = ((k + 1 : Nat) : Int) := by rw [Wr64 _ (by omega) (by omega)]; rfl
      have hcg : (n.opers.map operA)[k]? = some (operA n.opers[k]) := by rw [List.getElem?_map, List.getElem?_eq_getElem h]; rfl
      have hst := fm_step operT n.opers k h
      have hle := fm_len operT n.opers (k + 1)
      rw [hst, List.length_append] at hle
      have hnl := name_le (g2 _ (List.getElem_mem h))
      have hlk := fm_len operT n.opers k
      generalize n.opers[k] = x at *
      conv => whnf
      repeat (first | (refine ACode.st tys_ok rfl ?_; conv => whnf))
      repeat (first | (refine ⟨by omega, _, (by exact hcg), ?_⟩; conv => whnf) | (refine And.intro ?_ ?_; (focus (simp only [List.length_append, List.length_cons, List.length_nil, Array.length_toList, List.size_toArray]; omega; done)); conv => whnf) | (refine ACode.st tys_ok rfl ?_; conv => whnf))
      refine ⟨k + 1, ?_⟩
      conv => whnf
      repeat (refine And.intro ?_ ?_; (focus (first | rfl | (simp; done) | (first | exact hw1 | exact congrArg AV.str (by rw [hst]; simp [operT, w_operator]); done))); conv => whnf)
      omega
     ·have h : k = n.opers.length := by simp at h; omega
      rw [h, List.take_length]
      have hB : (A ++ n.opers.flatMap operT).length = A.length + (n.opers.flatMap operT).length := List.length_append
      generalize A ++ n.opers.flatMap operT = B at *
      conv => whnf
      repeat (first | (refine ACode.st tys_ok rfl ?_; conv => whnf))
      refine ACode.loopD (fun k : Nat => mk 251 [(1, .ptr 0 0), (3, .str (B ++ (n.offs.take k).flatMap (offT n))), (9, .int .i64 k)]) (fun _ => [netH n]) (fun k => k ≤ n.offs.length) (fun k => n.offs.length - k) (fun _ _ => ⟨rfl, rfl, trivial⟩) ⟨0, ?_⟩ (fun _ => rfl) fun k hkk => ?_
      ·conv => whnf
       repeat (refine And.intro ?_ ?_; (focus (first | rfl | (simp; done) | (exact congrArg AV.str (by simp); done))); conv => whnf)
       exact Nat.zero_le _
      ·unfold netH
       repeat (first | (refine ACode.st tys_ok rfl ?_; conv => whnf))
       refine ⟨fun h => ?_, fun h => ?_⟩
       ·have h : k < n.offs.length := by simpa using h
        have hw1 : Wr .i64 ((k : Int) + 1) = ((k + 1 : Nat) : Int) := by rw [Wr64 _ (by omega) (by omega)]; rfl
        have hcg : (n.offs.map offIA)[k]? = some (offIA n.offs[k]) := by rw [List.getElem?_map, List.getElem?_eq_getElem h]; rfl
        have hst := fm_step (offT n) n.offs k h
        have hle := fm_len (offT n) n.offs (k + 1)
        rw [hst, List.length_append] at hle
        have hob := k2 _ (List.getElem_mem h)
        have hnl := name_le (g3 _ (List.getElem_mem h))
        have hcc := sm.cod _ (List.getElem_mem h)
        generalize n.offs[k] = o at *
        unfold offB at hob
        simp only [Bool.and_eq_true, List.all_eq_true] at hob
        obtain ⟨⟨⟨⟨⟨f1, f2⟩, n1⟩, n2⟩, n3⟩, hcs⟩ := hob
        obtain ⟨u1, u2, u3⟩ := ref_get f1
        obtain ⟨v1, v2, v3⟩ := ref_get f2
        have m1 := name_le (g2 _ (at_mem f1))
        have m2 := name_le (g1 _ (at_mem f2))
        have u3' : (n.opers.map operA)[o.oper.toNat]? = some (operA (nameAt n.opers o.oper)) := by rw [List.getElem?_map, u3]; rfl
        have v3' : (strs n.names)[o.cal.toNat]? = some (.str (nameAt n.names o.cal)) := by unfold strs; rw [List.getElem?_map, v3]; rfl
        have l1 := decT_len (num_int n1)
        have l2 := decT_len (num_int n2)
        have l3 := decT_len (num_int n3)
        have r1 := rdecimal_spec (num_int n1)
        have r2 := rdecimal_spec (num_int n2)
        have r3 := rdecimal_spec (num_int n3)
        have hlk := fm_len (offT n) n.offs k
        have hb1 := offB1_len n o m1 m2 hnl l1 l2 l3
        have hol := offT_len n o
        generalize (n.offs.take k).flatMap (offT n) = A0 at *
        conv => whnf
        repeat (first | (refine ACode.st tys_ok rfl ?_; conv => whnf))
        refine ⟨by omega, _, hcg, ?_⟩
        conv => whnf
        repeat (first | (refine ACode.st tys_ok rfl ?_; conv => whnf))
        repeat (first | (refine ACode.draw [] tys_ok (by kernel_rfl) (by kernel_rfl) ?_; conv => whnf) | (refine ⟨_, ⟨r1, rfl⟩, ?_⟩; conv => whnf) | (refine ⟨_, ⟨r2, rfl⟩, ?_⟩; conv => whnf) | (refine ⟨_, ⟨r3, rfl⟩, ?_⟩; conv => whnf) | (refine ⟨by omega, _, (by exact u3'), ?_⟩; conv => whnf) | (refine ⟨by omega, _, (by exact v3'), ?_⟩; conv => whnf) | (refine And.intro ?_ ?_; (focus (simp only [List.length_append, List.length_cons, List.length_nil, Array.length_toList, List.size_toArray]; omega; done)); conv => whnf) | (refine ACode.st tys_ok rfl ?_; conv => whnf))
        refine ⟨fun z => ?_, fun z => ?_⟩
        ·have z : o.codes ≠ [] := by intro e; rw [e] at z; simp [strs] at z
         have hct := codesT_ne z
         have hwc : w_codes.length = 5 := rfl
         have hcq : (codesT o.codes).length = (o.codes.flatMap codT).length + 9 := by rw [hct]; simp only [List.length_append, List.length_cons, List.length_nil, hwc]; omega
         conv => whnf
         repeat (first | (refine ACode.st tys_ok rfl ?_; conv => whnf))
         refine ⟨by simp only [List.length_append, List.length_cons, List.length_nil, Array.length_toList, List.size_toArray]; omega, ?_⟩
         conv => whnf
         repeat (first | (refine ACode.st tys_ok rfl ?_; conv => whnf))
         refine ACode.loopD (fun q : Nat => mk 251 [(1, .ptr 0 0), (3, .str (B ++ A0 ++ offB1 n o ++ ([32, 32] ++ w_codes) ++ (o.codes.take q).flatMap codT)), (9, .int .i64 k), (10, .ptr 1 0), (11, .int .i64 q)]) (fun _ => [netH n, offH o] ++ List.replicate 39 .dead) (fun q => q ≤ o.codes.length) (fun q => o.codes.length - q) (fun _ _ => by simp [objsOK, netH, offH, List.replicate]; first | done | rfl | trivial) ⟨0, ?_⟩ (fun _ => rfl) fun q hkq => ?_
         ·conv => whnf
          repeat (refine And.intro ?_ ?_; (focus (first | rfl | (simp; done) | (exact congrArg AV.str (by simp [offB1, headT, fieldT, w_office, w_operator, w_calendar, w_pockets, w_passes, w_minutes, w_codes]); done))); conv => whnf)
          exact Nat.zero_le _
         ·unfold netH offH
          repeat (first | (refine ACode.st tys_ok rfl ?_; conv => whnf))
          refine ⟨fun h => ?_, fun h => ?_⟩
          ·have h : q < o.codes.length := by simpa [strs] using h
           have hw2 : Wr .i64 ((q : Int) + 1) = ((q + 1 : Nat) : Int) := by rw [Wr64 _ (by omega) (by omega)]; rfl
           have hds := fm_step codT o.codes q h
           have hl1 := fm_len codT o.codes q
           have hcl := code_le (hcs _ (List.getElem_mem h))
           have hdq := strs_get o.codes q h
           generalize o.codes[q] = d at *
           conv => whnf
           repeat (first | (refine ACode.st tys_ok rfl ?_; conv => whnf))
           repeat (first | (refine ⟨by omega, _, (by exact hdq), ?_⟩; conv => whnf) | (refine And.intro ?_ ?_; (focus (simp only [List.length_append, List.length_cons, List.length_nil, Array.length_toList, List.size_toArray]; omega; done)); conv => whnf) | (refine ACode.st tys_ok rfl ?_; conv => whnf))
           refine ⟨q + 1, ?_⟩
           conv => whnf
           repeat (refine And.intro ?_ ?_; (focus (first | rfl | (simp; done) | (first | exact hw2 | exact congrArg AV.str (by rw [hds]; simp [codT]); done))); conv => whnf)
           omega
          ·have h : q = o.codes.length := by simp [strs] at h; omega
           rw [h, List.take_length]
           conv => whnf
           repeat (first | (refine ACode.st tys_ok rfl ?_; conv => whnf))
           repeat (first | (refine And.intro ?_ ?_; (focus (simp only [List.length_append, List.length_cons, List.length_nil, Array.length_toList, List.size_toArray]; omega; done)); conv => whnf) | (refine ACode.st tys_ok rfl ?_; conv => whnf))
           refine ⟨k + 1, ?_⟩
           conv => whnf
           repeat (refine And.intro ?_ ?_; (focus (first | rfl | (simp; done) | (first | exact hw1 | exact congrArg AV.str (by rw [hst, offT_parts, hct]; simp [endT]); done))); conv => whnf)
           omega
        ·have z : o.codes = [] := by
          cases hc : o.codes with
          | nil => rfl
          | cons x y => rw [hc] at z; simp [strs] at z
         conv => whnf
         repeat (first | (refine ACode.st tys_ok rfl ?_; conv => whnf))
         repeat (first | (refine And.intro ?_ ?_; (focus (simp only [List.length_append, List.length_cons, List.length_nil, Array.length_toList, List.size_toArray]; omega; done)); conv => whnf) | (refine ACode.st tys_ok rfl ?_; conv => whnf))
         refine ⟨k + 1, ?_⟩
         conv => whnf
         repeat (refine And.intro ?_ ?_; (focus (first | rfl | (simp; done) | (first | exact hw1 | exact congrArg AV.str (by rw [hst, offT_parts, z]; simp [codesT, endT, offB1, headT, fieldT, w_office, w_operator, w_calendar, w_pockets, w_passes, w_minutes]); done))); conv => whnf)
         omega
       ·have h : k = n.offs.length := by simp at h; omega
        rw [h, List.take_length]
        have hC : (B ++ n.offs.flatMap (offT n)).length = B.length + (n.offs.flatMap (offT n)).length := List.length_append
        generalize B ++ n.offs.flatMap (offT n) = D at *
        conv => whnf
        repeat (first | (refine ACode.st tys_ok rfl ?_; conv => whnf))
        refine ACode.loopD (fun k : Nat => mk 251 [(1, .ptr 0 0), (3, .str (D ++ (n.lins.take k).flatMap (linT n))), (12, .int .i64 k)]) (fun _ => [netH n]) (fun k => k ≤ n.lins.length) (fun k => n.lins.length - k) (fun _ _ => ⟨rfl, rfl, trivial⟩) ⟨0, ?_⟩ (fun _ => rfl) fun k hkk => ?_
        ·conv => whnf
         repeat (refine And.intro ?_ ?_; (focus (first | rfl | (simp; done) | (exact congrArg AV.str (by simp); done))); conv => whnf)
         exact Nat.zero_le _
        ·unfold netH
         repeat (first | (refine ACode.st tys_ok rfl ?_; conv => whnf))
         refine ⟨fun h => ?_, fun h => ?_⟩
         ·have h : k < n.lins.length := by simpa using h
          have hw1 : Wr .i64 ((k : Int) + 1) = ((k + 1 : Nat) : Int) := by rw [Wr64 _ (by omega) (by omega)]; rfl
          have hcg : (n.lins.map linIA)[k]? = some (linIA n.lins[k]) := by rw [List.getElem?_map, List.getElem?_eq_getElem h]; rfl
          have hst := fm_step (linT n) n.lins k h
          have hle := fm_len (linT n) n.lins (k + 1)
          rw [hst, List.length_append] at hle
          have hlb := k3 _ (List.getElem_mem h)
          have hnl := name_le (g4 _ (List.getElem_mem h))
          generalize n.lins[k] = x at *
          unfold linB at hlb
          simp only [Bool.and_eq_true] at hlb
          obtain ⟨⟨⟨⟨f1, f2⟩, n1⟩, n2⟩, n3⟩ := hlb
          obtain ⟨u1, u2, o1, u3, u4⟩ := off_ref f1
          obtain ⟨v1, v2, o2, v3, v4⟩ := off_ref f2
          have m1 : o1.name.length ≤ 16 := by
           rw [u4]; obtain ⟨o, ho, he⟩ := List.mem_map.1 (at_mem f1); rw [← he]; exact name_le (g3 _ ho)
          have m2 : o2.name.length ≤ 16 := by
           rw [v4]; obtain ⟨o, ho, he⟩ := List.mem_map.1 (at_mem f2); rw [← he]; exact name_le (g3 _ ho)
          have l1 := decT_len (num_int n1)
          have l2 := decT_len (num_int n2)
          have l3 := decT_len (num_int n3)
          have r1 := rdecimal_spec (num_int n1)
          have r2 := rdecimal_spec (num_int n2)
          have r3 := rdecimal_spec (num_int n3)
          have hlk := fm_len (linT n) n.lins k
          conv => whnf
          repeat (first | (refine ACode.st tys_ok rfl ?_; conv => whnf))
          refine ⟨by omega, _, hcg, ?_⟩
          conv => whnf
          repeat (first | (refine ACode.st tys_ok rfl ?_; conv => whnf))
          repeat (first | (refine ACode.draw [] tys_ok (by kernel_rfl) (by kernel_rfl) ?_; conv => whnf) | (refine ⟨_, ⟨r1, rfl⟩, ?_⟩; conv => whnf) | (refine ⟨_, ⟨r2, rfl⟩, ?_⟩; conv => whnf) | (refine ⟨_, ⟨r3, rfl⟩, ?_⟩; conv => whnf) | (refine ⟨by omega, _, (by exact u3), ?_⟩; conv => whnf) | (refine ⟨by omega, _, (by exact v3), ?_⟩; conv => whnf) | (refine And.intro ?_ ?_; (focus (simp only [List.length_append, List.length_cons, List.length_nil, Array.length_toList, List.size_toArray]; omega; done)); conv => whnf) | (refine ACode.st tys_ok rfl ?_; conv => whnf))
          refine ⟨k + 1, ?_⟩
          conv => whnf
          repeat (refine And.intro ?_ ?_; (focus (first | rfl | (simp; done) | (first | exact hw1 | exact congrArg AV.str (by rw [hst, u4, v4]; simp [linT, w_line, w_at, w_travel, w_load]); done))); conv => whnf)
          omega
         ·have h : k = n.lins.length := by simp at h; omega
          rw [h, List.take_length]
          have hD : (D ++ n.lins.flatMap (linT n)).length = D.length + (n.lins.flatMap (linT n)).length := List.length_append
          generalize D ++ n.lins.flatMap (linT n) = F at *
          conv => whnf
          repeat (first | (refine ACode.st tys_ok rfl ?_; conv => whnf))
          refine ACode.loopD (fun k : Nat => mk 251 [(1, .ptr 0 0), (3, .str (F ++ (n.clss.take k).flatMap clssT)), (14, .int .i64 k)]) (fun _ => [netH n]) (fun k => k ≤ n.clss.length) (fun k => n.clss.length - k) (fun _ _ => ⟨rfl, rfl, trivial⟩) ⟨0, ?_⟩ (fun _ => rfl) fun k hkk => ?_
          ·conv => whnf
           repeat (refine And.intro ?_ ?_; (focus (first | rfl | (simp; done) | (exact congrArg AV.str (by simp); done))); conv => whnf)
           exact Nat.zero_le _
          ·unfold netH
           repeat (first | (refine ACode.st tys_ok rfl ?_; conv => whnf))
           refine ⟨fun h => ?_, fun h => ?_⟩
           ·have h : k < n.clss.length := by simpa using h
            have hw1 : Wr .i64 ((k : Int) + 1) = ((k + 1 : Nat) : Int) := by rw [Wr64 _ (by omega) (by omega)]; rfl
            have hcg : (n.clss.map clsA)[k]? = some (clsA n.clss[k]) := by rw [List.getElem?_map, List.getElem?_eq_getElem h]; rfl
            have hst := fm_step clssT n.clss k h
            have hle := fm_len clssT n.clss (k + 1)
            rw [hst, List.length_append] at hle
            have hlb := k4 _ (List.getElem_mem h)
            have hnl := name_le (g5 _ (List.getElem_mem h))
            generalize n.clss[k] = x at *
            unfold clsB at hlb
            simp only [Bool.and_eq_true] at hlb
            obtain ⟨n1, n2⟩ := hlb
            have l1 := decT_len (num_int n1)
            have l2 := decT_len (num_int n2)
            have r1 := rdecimal_spec (num_int n1)
            have r2 := rdecimal_spec (num_int n2)
            have hlk := fm_len clssT n.clss k
            conv => whnf
            repeat (first | (refine ACode.st tys_ok rfl ?_; conv => whnf))
            refine ⟨by omega, _, hcg, ?_⟩
            conv => whnf
            repeat (first | (refine ACode.st tys_ok rfl ?_; conv => whnf))
            repeat (first | (refine ACode.draw [] tys_ok (by kernel_rfl) (by kernel_rfl) ?_; conv => whnf) | (refine ⟨_, ⟨r1, rfl⟩, ?_⟩; conv => whnf) | (refine ⟨_, ⟨r2, rfl⟩, ?_⟩; conv => whnf) | (refine And.intro ?_ ?_; (focus (simp only [List.length_append, List.length_cons, List.length_nil, Array.length_toList, List.size_toArray]; omega; done)); conv => whnf) | (refine ACode.st tys_ok rfl ?_; conv => whnf))
            refine ⟨k + 1, ?_⟩
            conv => whnf
            repeat (refine And.intro ?_ ?_; (focus (first | rfl | (simp; done) | (first | exact hw1 | exact congrArg AV.str (by rw [hst]; simp [clssT, headT, fieldT, endT, w_class, w_cut, w_deliver]); done))); conv => whnf)
            omega
           ·have h : k = n.clss.length := by simp at h; omega
            rw [h, List.take_length]
            conv => whnf
            repeat (first | (refine ACode.st tys_ok rfl ?_; conv => whnf))
end Go.Proofs.YtbedaolpfedacaaGreatDoor
namespace Go.Proofs.YtbedaolpfedacaaGreatDoor
open Go.Av Go.Av.Net Pl
set_option maxRecDepth 20000
set_option maxHeartbeats 4000000 in
theorem matches_law (n : NwI) (hcl : ∀ o ∈ n.offs, o.codes.length ≤ 9223372036854775807) : Ctr Tryz.prog 3 [netI n] (fun r => r = .bool true) := by
 refine Ctr.lits ?_
 refine Ctr.of_body Tryz.func3 rfl tys_ok (by kernel_rfl) ?_
 conv => whnf
 repeat (first | (refine ACode.st tys_ok rfl ?_; conv => whnf))
 refine ACall.of_spec (head_spec) rfl fun r hr => ?_
 subst hr
 conv => whnf
 repeat (first | (refine ACode.st tys_ok rfl ?_; conv => whnf))
 cases hS : smallB n with
 | false =>
  refine ACall.of_spec (small_at hcl hS) rfl fun r hr => ?_
  subst hr
  conv => whnf
  repeat (first | (refine ACode.st tys_ok rfl ?_; conv => whnf))
  repeat (first | ((first | refine ⟨fun _ => ?_, fun h => absurd h (by decide +kernel)⟩ | refine ⟨fun h => absurd h (by decide +kernel), fun _ => ?_⟩ | refine ⟨by decide, _, rfl, ?_⟩); conv => whnf) | (refine ACode.st tys_ok rfl ?_; conv => whnf))
  first | exact .inl rfl | exact .inr rfl
 | true =>
  have sm := small_sm hS
  have cP := rPrint_spec n hS
  refine ACall.of_spec (small_at hcl hS) rfl fun r hr => ?_
  subst hr
  conv => whnf
  repeat (first | (refine ACode.st tys_ok rfl ?_; conv => whnf))
  repeat (first | ((first | refine ⟨fun _ => ?_, fun h => absurd h (by decide +kernel)⟩ | refine ⟨fun h => absurd h (by decide +kernel), fun _ => ?_⟩ | refine ⟨by decide, _, rfl, ?_⟩); conv => whnf) | (refine ACode.st tys_ok rfl ?_; conv => whnf))
  cases hP : printB n with
  | false =>
   have c1 := printable_y sm hP
   have c2 := rprintable_at hS hP
   have c3 := print_n sm hP
   rw [printN_no hP] at cP
   repeat (first | (refine ACode.draw [] tys_ok (by kernel_rfl) (by kernel_rfl) ?_; conv => whnf) | (refine ⟨_, ⟨c1, rfl⟩, ?_⟩; conv => whnf) | (refine ⟨_, ⟨c2, rfl⟩, ?_⟩; conv => whnf) | (refine ⟨_, ⟨c3, rfl⟩, ?_⟩; conv => whnf) | (refine ⟨_, ⟨cP, rfl⟩, ?_⟩; conv => whnf) | (refine ACall.of_spec (c1) rfl fun r hr => ?_; subst hr; conv => whnf) | (refine ACall.of_spec (c2) rfl fun r hr => ?_; subst hr; conv => whnf) | (refine ACall.of_spec (c3) rfl fun r hr => ?_; subst hr; conv => whnf) | (refine ACall.of_spec (cP) rfl fun r hr => ?_; subst hr; conv => whnf) | (refine no_br ?_ (fun _ => ?_); (focus (simp; done)); conv => whnf) | (refine yes_br ?_ (fun _ => ?_); (focus (simp; done)); conv => whnf) | (refine ACode.st tys_ok rfl ?_; conv => whnf))
   first | exact .inl rfl | exact .inr rfl
  | true =>
   have c1 := printable_y sm hP
   have c2 := rprintable_at hS hP
   have c3 := print_y sm hP
   rw [printN_of hP] at cP
   repeat (first | (refine ACode.draw [] tys_ok (by kernel_rfl) (by kernel_rfl) ?_; conv => whnf) | (refine ⟨_, ⟨c1, rfl⟩, ?_⟩; conv => whnf) | (refine ⟨_, ⟨c2, rfl⟩, ?_⟩; conv => whnf) | (refine ⟨_, ⟨c3, rfl⟩, ?_⟩; conv => whnf) | (refine ⟨_, ⟨cP, rfl⟩, ?_⟩; conv => whnf) | (refine ACall.of_spec (c1) rfl fun r hr => ?_; subst hr; conv => whnf) | (refine ACall.of_spec (c2) rfl fun r hr => ?_; subst hr; conv => whnf) | (refine ACall.of_spec (c3) rfl fun r hr => ?_; subst hr; conv => whnf) | (refine ACall.of_spec (cP) rfl fun r hr => ?_; subst hr; conv => whnf) | (refine no_br ?_ (fun _ => ?_); (focus (simp; done)); conv => whnf) | (refine yes_br ?_ (fun _ => ?_); (focus (simp; done)); conv => whnf) | (refine ACode.st tys_ok rfl ?_; conv => whnf))
   first | exact .inl rfl | exact .inr rfl | exact .inr (by simp)
end Go.Proofs.YtbedaolpfedacaaGreatDoor
