import Derived.Test.YtmhlneeboefkgaaGreatDoorPa
set_option linter.unusedVariables false
set_option linter.unusedSimpArgs false
namespace Go.Proofs.YtmhlneeboefkgaaGreatDoor.Pl
open Go.Av Go.Av.Net
/-! ### The reference's parser: a state with a first error -/
structure Rs where
 at_ : Nat
 err : Int
 place : Int
abbrev RM (α : Type) := Rs → α × Rs
def RM.bind {α β : Type} (m : RM α) (g : α → RM β) : RM β := fun r => g (m r).1 (m r).2
def RM.ret {α : Type} (a : α) : RM α := fun r => (a, r)
section
variable (ts : List Tok)
def posI (k : Nat) : Int := match ts[k]? with | some t => t.pos | none => 0
def failR (r : Rs) : Rs := bif decide (r.err = 0) then (match ts[r.at_]? with | none => ⟨r.at_, 91, r.place⟩ | some t => ⟨r.at_, 90, t.pos⟩) else r
def seesR (k : Int) (x : Bs) (r : Rs) : Bool := decide (r.err = 0) && seesP (kts ts) k x r.at_
def Rs.on (r : Rs) : Rs := ⟨r.at_ + 1, r.err, r.place⟩
def expR (k : Int) (x : Bs) : RM Unit := fun r => bif seesR ts k x r then ((), r.on) else ((), failR ts r)
/-- An item: what the token at a place decides. -/
def itemR {α : Type} (z : α) (g : Tok → Option α) : RM α := fun r => match (bif decide (r.err = 0) then ts[r.at_]? else none) with
 | none => (z, failR ts r)
 | some t => (match g t with | some a => (a, r.on) | none => (z, failR ts r))
def nameR : RM Bs := itemR ts [] fun t => bif decide (t.kind = 1) && isNameB t.text then some t.text else none
def numberR : RM Int := itemR ts 0 fun t => bif decide (t.kind = 2) then some (decV t.text) else none
def weekR : RM (List Bool) := itemR ts [] fun t => bif decide (t.kind = 2) && isWeekB t.text then some (t.text.map fun b => decide (b.toNat = 49)) else none
def codeR : RM (List Bs) := itemR ts [] fun t => bif (decide (t.kind = 1) || decide (t.kind = 2)) && isCodeB t.text then some [t.text] else none
def signedR : RM Int := fun r => bif seesR ts 3 s_minus r then (-(numberR ts r.on).1, (numberR ts r.on).2) else numberR ts r
def afterR (w : Bs) : RM Int := (expR ts 1 w).bind fun _ => (numberR ts).bind fun n => (expR ts 3 s_semi).bind fun _ => RM.ret n
def refR (names : List Bs) : RM Nat := fun r => bif decide ((nameR ts r).2.err = 0) then (match idxOf (nameR ts r).1 names with | some i => (i, (nameR ts r).2) | none => (0, ⟨(nameR ts r).2.at_, 110, posI ts r.at_⟩)) else (0, (nameR ts r).2)
def holsR : Nat → List Int → RM (List Int)
 | 0, l => RM.ret l
 | f + 1, l => fun r => bif seesR ts 1 w_holiday r then (((signedR ts).bind fun n => (expR ts 3 s_semi).bind fun _ => holsR f (l ++ [n])) r.on) else (l, r)
def calR : RM (Bs × Cal) :=
 (expR ts 1 w_calendar).bind fun _ => (nameR ts).bind fun name => (expR ts 3 s_lb).bind fun _ => (expR ts 1 w_zone).bind fun _ => (signedR ts).bind fun zone => (expR ts 3 s_semi).bind fun _ =>
 (expR ts 1 w_week).bind fun _ => (weekR ts).bind fun week => (expR ts 3 s_semi).bind fun _ => (holsR ts ts.length []).bind fun hols => (expR ts 3 s_rb).bind fun _ => RM.ret (name, ⟨zone, week, hols⟩)
def codesR : Nat → List Bs → RM (List Bs)
 | 0, l => RM.ret l
 | f + 1, l => fun r => bif decide (r.err = 0) && !seesR ts 3 s_semi r then ((codeR ts).bind fun c => codesR f (l ++ c)) r else (l, r)
def codesAllR : RM (List Bs) := fun r => bif seesR ts 1 w_codes r then ((codeR ts).bind fun c => (codesR ts (ts.length + 1) c).bind fun l => (expR ts 3 s_semi).bind fun _ => RM.ret l) r.on else ([], r)
def offR (n : Nw) : RM Off :=
 (expR ts 1 w_office).bind fun _ => (nameR ts).bind fun name => (expR ts 3 s_lb).bind fun _ => (expR ts 1 w_operator).bind fun _ => (refR ts n.opers).bind fun oper => (expR ts 3 s_semi).bind fun _ =>
 (expR ts 1 w_calendar).bind fun _ => (refR ts n.names).bind fun cal => (expR ts 3 s_semi).bind fun _ => (afterR ts w_pockets).bind fun a => (afterR ts w_passes).bind fun b => (afterR ts w_minutes).bind fun c =>
 (codesAllR ts).bind fun codes => (expR ts 3 s_rb).bind fun _ => RM.ret ⟨name, oper, cal, a, b, c, codes⟩
def linR (n : Nw) : RM Lin :=
 (expR ts 1 w_line).bind fun _ => (nameR ts).bind fun name => (expR ts 3 s_colon).bind fun _ => (refR ts (n.offs.map (·.name))).bind fun a => (expR ts 3 s_arrow).bind fun _ => (refR ts (n.offs.map (·.name))).bind fun b =>
 (expR ts 1 w_at).bind fun _ => (numberR ts).bind fun c => (expR ts 1 w_travel).bind fun _ => (numberR ts).bind fun d => (expR ts 1 w_load).bind fun _ => (numberR ts).bind fun e => (expR ts 3 s_semi).bind fun _ => RM.ret ⟨name, a, b, c, d, e⟩
def clsR : RM Cls :=
 (expR ts 1 w_class).bind fun _ => (nameR ts).bind fun name => (expR ts 3 s_lb).bind fun _ => (afterR ts w_cut).bind fun a => (afterR ts w_deliver).bind fun b => (expR ts 3 s_rb).bind fun _ => RM.ret ⟨name, a, b⟩
def operR : RM Bs := fun r => ((nameR ts).bind fun name => (expR ts 3 s_semi).bind fun _ => RM.ret name) r.on
/-- What a parser yields, the reader yields: before an error; afterwards the error stays. -/
def Sm {α : Type} (p : Nat → PR α) (m : RM α) : Prop := ∀ r : Rs, (r.err ≠ 0 → (m r).2.err = r.err ∧ (m r).2.place = r.place) ∧
 (r.err = 0 → match p r.at_ with | .ok a j => m r = (a, ⟨j, 0, r.place⟩) | .fail e k => (m r).2.err = e ∧ e ≠ 0 ∧ (e ≠ 91 → (m r).2.place = posI ts k))
end
section
variable {ts : List Tok}
theorem Sm.bind {α β : Type} {p : Nat → PR α} {m : RM α} {f : α → Nat → PR β} {g : α → RM β} (h : Sm ts p m) (hf : ∀ a, Sm ts (f a) (g a)) : Sm ts (fun i => (p i).bind f) (m.bind g) := by
 intro r
 obtain ⟨h1, h2⟩ := h r
 refine ⟨fun he => ?_, fun he => ?_⟩
 ·obtain ⟨q1, q2⟩ := h1 he
  obtain ⟨q3, q4⟩ := (hf (m r).1 (m r).2).1 (by rw [q1]; exact he)
  exact ⟨by unfold RM.bind; rw [q3, q1], by unfold RM.bind; rw [q4, q2]⟩
 ·have h2 := h2 he
  cases hp : p r.at_ with
  | ok a j =>
   rw [hp] at h2
   have h3 := (hf a ⟨j, 0, r.place⟩).2 rfl
   simp only at h2 h3 ⊢
   unfold RM.bind
   rw [h2, hp]
   exact h3
  | fail e k =>
   rw [hp] at h2
   obtain ⟨q1, q2, q3⟩ := h2
   simp only
   rw [hp]
   obtain ⟨q4, q5⟩ := (hf (m r).1 (m r).2).1 (by rw [q1]; exact q2)
   exact ⟨by unfold RM.bind; rw [q4, q1], q2, fun hn => by unfold RM.bind; rw [q5, q3 hn]⟩
theorem Sm.ret {α : Type} (a : α) : Sm ts (fun i => .ok a i) (RM.ret a) := by
 intro r
 refine ⟨fun _ => ⟨rfl, rfl⟩, fun he => ?_⟩
 simp only [RM.ret]
 cases r; simp only at he; subst he; rfl
theorem fail_stay {r : Rs} (h : r.err ≠ 0) : failR ts r = r := by unfold failR; rw [decide_eq_false h]; rfl
theorem get_kts (i : Nat) : (kts ts)[i]? = (ts[i]?).map fun t => (t.kind, t.text) := by simp [kts]
theorem Sm.item {α : Type} {z : α} {g : Tok → Option α} {p : Nat → PR α} (hp : ∀ i, p i = match ts[i]? with | none => .fail 91 i | some t => (match g t with | some a => .ok a (i + 1) | none => .fail 90 i)) : Sm ts p (itemR ts z g) := by
 intro r
 refine ⟨fun he => ?_, fun he => ?_⟩
 ·unfold itemR
  rw [decide_eq_false he]
  simp only [cond_false]
  rw [fail_stay he]
  exact ⟨rfl, rfl⟩
 ·rw [hp]
  unfold itemR failR posI
  rw [decide_eq_true he]
  simp only [cond_true]
  cases h : ts[r.at_]? with
  | none => exact ⟨rfl, by decide, fun q => absurd rfl q⟩
  | some t =>
   simp only
   cases g t with
   | some a => simp only [Rs.on, he]
   | none => simp [h]
theorem sees_kts (k : Int) (x : Bs) (i : Nat) : seesP (kts ts) k x i = match ts[i]? with | none => false | some t => decide (t.kind = k) && decide (t.text = x) := by
 unfold seesP; rw [get_kts]; cases ts[i]? <;> rfl
theorem sm_exp (k : Int) (x : Bs) : Sm ts (fun i => expectP (kts ts) k x i) (expR ts k x) := by
 have h : Sm ts (fun i => expectP (kts ts) k x i) (itemR ts () fun t => bif decide (t.kind = k) && decide (t.text = x) then some () else none) := by
  refine Sm.item fun i => ?_
  unfold expectP wrongP
  rw [sees_kts, get_kts]
  cases ts[i]? with
  | none => rfl
  | some t => simp only [Option.map_some]; cases (decide (t.kind = k) && decide (t.text = x)) <;> rfl
 have e : expR ts k x = itemR ts () fun t => bif decide (t.kind = k) && decide (t.text = x) then some () else none := by
  funext r
  unfold expR itemR seesR
  rw [sees_kts]
  cases decide (r.err = 0) with
  | false => rfl
  | true =>
   simp only [Bool.true_and, cond_true]
   cases ts[r.at_]? with
   | none => rfl
   | some t => simp only; cases (decide (t.kind = k) && decide (t.text = x)) <;> rfl
 rw [e]; exact h
theorem sm_name : Sm ts (nameP (kts ts)) (nameR ts) := by
 refine Sm.item fun i => ?_
 unfold nameP
 rw [get_kts]
 cases ts[i]? with
 | none => rfl
 | some t => simp only [Option.map_some]; cases (decide (t.kind = 1) && isNameB t.text) <;> rfl
theorem sm_number : Sm ts (numberP (kts ts)) (numberR ts) := by
 refine Sm.item fun i => ?_
 unfold numberP
 rw [get_kts]
 cases ts[i]? with
 | none => rfl
 | some t => simp only [Option.map_some]; cases decide (t.kind = 2) <;> rfl
theorem sm_week : Sm ts (weekP (kts ts)) (weekR ts) := by
 refine Sm.item fun i => ?_
 unfold weekP
 rw [get_kts]
 cases ts[i]? with
 | none => rfl
 | some t => simp only [Option.map_some]; cases (decide (t.kind = 2) && isWeekB t.text) <;> rfl
theorem sm_code : Sm ts (fun i => (codeP (kts ts) i).bind fun c i => .ok [c] i) (codeR ts) := by
 refine Sm.item fun i => ?_
 unfold codeP
 rw [get_kts]
 cases ts[i]? with
 | none => rfl
 | some t => simp only [Option.map_some]; cases ((decide (t.kind = 1) || decide (t.kind = 2)) && isCodeB t.text) <;> rfl
theorem seesR_on {k : Int} {x : Bs} {r : Rs} (h : seesR ts k x r = true) : r.err = 0 ∧ seesP (kts ts) k x r.at_ = true := by
 unfold seesR at h
 simpa using h
/-- A test of the next token, which is then passed over. -/
theorem Sm.cond {α : Type} {k : Int} {x : Bs} {A B : Nat → PR α} {a b : RM α} (hA : Sm ts A a) (hB : Sm ts B b) : Sm ts (fun i => bif seesP (kts ts) k x i then A (i + 1) else B i) (fun r => bif seesR ts k x r then a r.on else b r) := by
 intro r
 refine ⟨fun he => ?_, fun he => ?_⟩
 ·have : seesR ts k x r = false := by unfold seesR; rw [decide_eq_false he]; rfl
  simp only [this, cond_false]
  exact (hB r).1 he
 ·have : seesR ts k x r = seesP (kts ts) k x r.at_ := by unfold seesR; rw [decide_eq_true he]; rfl
  simp only [this]
  cases seesP (kts ts) k x r.at_ with
  | true => exact (hA r.on).2 he
  | false => exact (hB r).2 he
theorem sm_signed : Sm ts (intP (kts ts)) (signedR ts) := by
 have h := Sm.cond (k := 3) (x := s_minus) (sm_number.bind fun n => Sm.ret (ts := ts) (-n)) (sm_number (ts := ts))
 exact h
theorem sm_after (w : Bs) : Sm ts (fun i => fieldP (kts ts) w i) (afterR ts w) := (sm_exp 1 w).bind fun _ => sm_number.bind fun n => (sm_exp 3 s_semi).bind fun _ => Sm.ret n
theorem sm_ref (names : List Bs) : Sm ts (fun i => refP (kts ts) names i) (refR ts names) := by
 intro r
 obtain ⟨h1, h2⟩ := sm_name (ts := ts) r
 refine ⟨fun he => ?_, fun he => ?_⟩
 ·obtain ⟨q1, q2⟩ := h1 he
  unfold refR
  rw [decide_eq_false (by rw [q1]; exact he)]
  exact ⟨q1, q2⟩
 ·have h2 := h2 he
  have e : refP (kts ts) names r.at_ = (nameP (kts ts) r.at_).bind fun x i' => match idxOf x names with | some k => .ok k i' | none => .fail 110 (i' - 1) := rfl
  unfold refR
  simp only [e]
  cases hq : nameP (kts ts) r.at_ with
  | ok x j =>
   rw [hq] at h2
   simp only at h2
   have hj : j = r.at_ + 1 := by
    unfold nameP at hq
    split at hq
    ·cases hq
    ·rename_i t _
     cases q : (decide (t.1 = 1) && isNameB t.2) <;> rw [q] at hq <;> cases hq
     rfl
   rw [h2]
   simp only [PR.bind, decide_true, cond_true]
   cases idxOf x names with
   | some i => rfl
   | none => exact ⟨rfl, by decide, fun _ => by rw [hj]; rfl⟩
  | fail e k =>
   rw [hq] at h2
   obtain ⟨q1, q2, q3⟩ := h2
   rw [decide_eq_false (by rw [q1]; exact q2)]
   exact ⟨q1, q2, q3⟩
theorem exp_true {k : Int} {x : Bs} {i : Nat} (h : seesP (kts ts) k x i = true) : expectP (kts ts) k x i = .ok () (i + 1) := by unfold expectP; rw [h]; rfl
theorem sm_hols : ∀ (f : Nat) (l : List Int), Sm ts (fun i => (holsP (kts ts) f i).bind fun r i => .ok (l ++ r) i) (holsR ts f l)
 | 0, l => by
  have : (fun i => (holsP (kts ts) 0 i).bind fun r i => PR.ok (l ++ r) i) = fun i => PR.ok l i := by funext i; simp [holsP, PR.bind]
  rw [this]; exact Sm.ret l
 | f + 1, l => by
  have h := Sm.cond (ts := ts) (k := 1) (x := w_holiday) (sm_signed.bind fun n => (sm_exp 3 s_semi).bind fun _ => sm_hols f (l ++ [n])) (Sm.ret l)
  have e : (fun i => (holsP (kts ts) (f + 1) i).bind fun r i => PR.ok (l ++ r) i) = fun i => bif seesP (kts ts) 1 w_holiday i then ((intP (kts ts) (i + 1)).bind fun n i => (expectP (kts ts) 3 s_semi i).bind fun _ i => (holsP (kts ts) f i).bind fun r i => .ok ((l ++ [n]) ++ r) i) else .ok l i := by
   funext i
   rw [show holsP (kts ts) (f + 1) i = bif seesP (kts ts) 1 w_holiday i then (expectP (kts ts) 1 w_holiday i).bind fun _ i => (intP (kts ts) i).bind fun n i => (expectP (kts ts) 3 s_semi i).bind fun _ i => (holsP (kts ts) f i).bind fun l i => .ok (n :: l) i else .ok [] i from rfl]
   cases hs : seesP (kts ts) 1 w_holiday i with
   | false => simp [PR.bind]
   | true =>
    simp only [cond_true]
    rw [exp_true hs]
    show ((((intP (kts ts) (i + 1)).bind fun n i => (expectP (kts ts) 3 s_semi i).bind fun _ i => (holsP (kts ts) f i).bind fun l i => .ok (n :: l) i)).bind fun r i => PR.ok (l ++ r) i) = _
    rw [PR.asso]
    refine PR.bind_congr fun n i _ => ?_
    rw [PR.asso]
    refine PR.bind_congr fun _ i _ => ?_
    rw [PR.asso]
    refine PR.bind_congr fun r i _ => ?_
    simp [PR.bind]
  rw [e]
  exact h
theorem klen : (kts ts).length = ts.length := by simp [kts]
theorem sm_holsAll : Sm ts (fun i => holsP (kts ts) (kts ts).length i) (holsR ts ts.length []) := by
 have h := sm_hols (ts := ts) ts.length []
 have e : (fun i => (holsP (kts ts) ts.length i).bind fun r i => PR.ok ([] ++ r) i) = fun i => holsP (kts ts) (kts ts).length i := by
  funext i; rw [klen]; simp [PR.bind_id]
 rw [e] at h; exact h
theorem sm_codes : ∀ (f : Nat) (l : List Bs), Sm ts (fun i => (codesP (kts ts) f i).bind fun r i => .ok (l ++ r) i) (codesR ts f l)
 | 0, l => by
  have : (fun i => (codesP (kts ts) 0 i).bind fun r i => PR.ok (l ++ r) i) = fun i => PR.ok l i := by funext i; simp [codesP, PR.bind]
  rw [this]; exact Sm.ret l
 | f + 1, l => by
  have h := (sm_code (ts := ts)).bind fun c => sm_codes f (l ++ c)
  intro r
  refine ⟨fun he => ?_, fun he => ?_⟩
  ·unfold codesR
   rw [decide_eq_false he]
   exact ⟨rfl, rfl⟩
  ·have hs : seesR ts 3 s_semi r = seesP (kts ts) 3 s_semi r.at_ := by unfold seesR; rw [decide_eq_true he]; rfl
   have e : (codesP (kts ts) (f + 1) r.at_).bind (fun r i => PR.ok (l ++ r) i) = bif seesP (kts ts) 3 s_semi r.at_ then .ok l r.at_ else ((codeP (kts ts) r.at_).bind fun c i => .ok [c] i).bind fun c i => (codesP (kts ts) f i).bind fun r i => .ok ((l ++ c) ++ r) i := by
    rw [show codesP (kts ts) (f + 1) r.at_ = bif seesP (kts ts) 3 s_semi r.at_ then .ok [] r.at_ else (codeP (kts ts) r.at_).bind fun c i => (codesP (kts ts) f i).bind fun l i => .ok (c :: l) i from rfl]
    cases seesP (kts ts) 3 s_semi r.at_ with
    | true => simp [PR.bind]
    | false =>
     simp only [cond_false]
     rw [PR.asso, PR.asso]
     refine PR.bind_congr fun c i _ => ?_
     rw [PR.asso]
     simp only [PR.bind]
     refine PR.bind_congr fun r i _ => ?_
     simp
   simp only [e]
   unfold codesR
   rw [decide_eq_true he, hs]
   cases seesP (kts ts) 3 s_semi r.at_ with
   | true => exact (Sm.ret (ts := ts) l r).2 he
   | false => exact (h r).2 he
theorem sm_codesAll : Sm ts (codesAllP (kts ts)) (codesAllR ts) := by
 have h := Sm.cond (ts := ts) (k := 1) (x := w_codes) ((sm_code (ts := ts)).bind fun c => (sm_codes (ts.length + 1) c).bind fun l => (sm_exp 3 s_semi).bind fun _ => Sm.ret l) (Sm.ret [])
 have e : codesAllP (kts ts) = fun i => bif seesP (kts ts) 1 w_codes i then (((codeP (kts ts) (i + 1)).bind fun c i => .ok [c] i).bind fun c i => ((codesP (kts ts) (ts.length + 1) i).bind fun r i => .ok (c ++ r) i).bind fun l i => (expectP (kts ts) 3 s_semi i).bind fun _ i => .ok l i) else .ok [] i := by
  funext i
  unfold codesAllP
  cases hs : seesP (kts ts) 1 w_codes i with
  | false => rfl
  | true =>
   simp only [cond_true]
   rw [exp_true hs, klen]
   show ((codeP (kts ts) (i + 1)).bind fun c i => (codesP (kts ts) (ts.length + 1) i).bind fun l i => (expectP (kts ts) 3 s_semi i).bind fun _ i => .ok (c :: l) i) = _
   rw [PR.asso]
   refine PR.bind_congr fun c i _ => ?_
   simp only [PR.bind]
   cases codesP (kts ts) (ts.length + 1) i <;> rfl
 rw [e]; exact h
theorem sm_cal : Sm ts (calP (kts ts)) (calR ts) :=
 (sm_exp 1 w_calendar).bind fun _ => sm_name.bind fun name => (sm_exp 3 s_lb).bind fun _ => (sm_exp 1 w_zone).bind fun _ => sm_signed.bind fun zone => (sm_exp 3 s_semi).bind fun _ =>
  (sm_exp 1 w_week).bind fun _ => sm_week.bind fun week => (sm_exp 3 s_semi).bind fun _ => sm_holsAll.bind fun hols => (sm_exp 3 s_rb).bind fun _ => Sm.ret _
theorem sm_off (n : Nw) : Sm ts (fun i => offP (kts ts) n i) (offR ts n) :=
 (sm_exp 1 w_office).bind fun _ => sm_name.bind fun name => (sm_exp 3 s_lb).bind fun _ => (sm_exp 1 w_operator).bind fun _ => (sm_ref n.opers).bind fun oper => (sm_exp 3 s_semi).bind fun _ =>
  (sm_exp 1 w_calendar).bind fun _ => (sm_ref n.names).bind fun cal => (sm_exp 3 s_semi).bind fun _ => (sm_after w_pockets).bind fun a => (sm_after w_passes).bind fun b => (sm_after w_minutes).bind fun c =>
  sm_codesAll.bind fun codes => (sm_exp 3 s_rb).bind fun _ => Sm.ret _
theorem sm_lin (n : Nw) : Sm ts (fun i => linP (kts ts) n i) (linR ts n) :=
 (sm_exp 1 w_line).bind fun _ => sm_name.bind fun name => (sm_exp 3 s_colon).bind fun _ => (sm_ref _).bind fun a => (sm_exp 3 s_arrow).bind fun _ => (sm_ref _).bind fun b =>
  (sm_exp 1 w_at).bind fun _ => sm_number.bind fun c => (sm_exp 1 w_travel).bind fun _ => sm_number.bind fun d => (sm_exp 1 w_load).bind fun _ => sm_number.bind fun e => (sm_exp 3 s_semi).bind fun _ => Sm.ret _
theorem sm_cls : Sm ts (clsP (kts ts)) (clsR ts) :=
 (sm_exp 1 w_class).bind fun _ => sm_name.bind fun name => (sm_exp 3 s_lb).bind fun _ => (sm_after w_cut).bind fun a => (sm_after w_deliver).bind fun b => (sm_exp 3 s_rb).bind fun _ => Sm.ret _
theorem Sm.cond0 {α : Type} {k : Int} {x : Bs} {A B : Nat → PR α} {a b : RM α} (hA : Sm ts A a) (hB : Sm ts B b) : Sm ts (fun i => bif seesP (kts ts) k x i then A i else B i) (fun r => bif seesR ts k x r then a r else b r) := by
 intro r
 refine ⟨fun he => ?_, fun he => ?_⟩
 ·have : seesR ts k x r = false := by unfold seesR; rw [decide_eq_false he]; rfl
  simp only [this, cond_false]
  exact (hB r).1 he
 ·have : seesR ts k x r = seesP (kts ts) k x r.at_ := by unfold seesR; rw [decide_eq_true he]; rfl
  simp only [this]
  cases seesP (kts ts) k x r.at_ with
  | true => exact (hA r).2 he
  | false => exact (hB r).2 he
end
section
variable (ts : List Tok)
def secR (key : Bs) (step : Nw → RM Nw) : Nat → Nw → RM Nw
 | 0, n => RM.ret n
 | f + 1, n => fun r => bif seesR ts 1 key r then ((step n).bind fun n => secR key step f n) r else (n, r)
def calW (n : Nw) : RM Nw := (calR ts).bind fun c => RM.ret { n with cals := n.cals ++ [c.2], names := n.names ++ [c.1] }
def operW (n : Nw) : RM Nw := (operR ts).bind fun c => RM.ret { n with opers := n.opers ++ [c] }
def offW (n : Nw) : RM Nw := (offR ts n).bind fun c => RM.ret { n with offs := n.offs ++ [c] }
def linW (n : Nw) : RM Nw := (linR ts n).bind fun c => RM.ret { n with lins := n.lins ++ [c] }
def clsW (n : Nw) : RM Nw := (clsR ts).bind fun c => RM.ret { n with clss := n.clss ++ [c] }
def finR (n : Nw) : RM Nw := fun r => (n, bif decide (r.at_ < ts.length) then failR ts r else r)
def netR : RM Nw :=
 (secR ts w_calendar (calW ts) ts.length nw0).bind fun n => (secR ts w_operator (operW ts) ts.length n).bind fun n => (secR ts w_office (offW ts) ts.length n).bind fun n => (secR ts w_line (linW ts) ts.length n).bind fun n => (secR ts w_class (clsW ts) ts.length n).bind fun n => finR ts n
end
section
variable {ts : List Tok}
theorem sm_cals : ∀ (f : Nat) (n : Nw), Sm ts (fun i => calsP (kts ts) f n i) (secR ts w_calendar (calW ts) f n)
 | 0, n => Sm.ret n
 | f + 1, n => by
  have h := Sm.cond0 (ts := ts) (k := 1) (x := w_calendar) ((sm_cal (ts := ts)).bind fun c => sm_cals f { n with cals := n.cals ++ [c.2], names := n.names ++ [c.1] }) (Sm.ret n)
  exact h
theorem sm_opers : ∀ (f : Nat) (n : Nw), Sm ts (fun i => opersP (kts ts) f n i) (secR ts w_operator (operW ts) f n)
 | 0, n => Sm.ret n
 | f + 1, n => by
  have h := Sm.cond (ts := ts) (k := 1) (x := w_operator) ((sm_name (ts := ts)).bind fun x => (sm_exp 3 s_semi).bind fun _ => sm_opers f { n with opers := n.opers ++ [x] }) (Sm.ret n)
  have e : (fun i => opersP (kts ts) (f + 1) n i) = fun i => bif seesP (kts ts) 1 w_operator i then ((nameP (kts ts) (i + 1)).bind fun x i => (expectP (kts ts) 3 s_semi i).bind fun _ i => opersP (kts ts) f { n with opers := n.opers ++ [x] } i) else .ok n i := by
   funext i
   rw [show opersP (kts ts) (f + 1) n i = bif seesP (kts ts) 1 w_operator i then (operP (kts ts) i).bind fun c i => opersP (kts ts) f { n with opers := n.opers ++ [c] } i else .ok n i from rfl]
   cases hs : seesP (kts ts) 1 w_operator i with
   | false => rfl
   | true =>
    simp only [cond_true]
    unfold operP
    rw [exp_true hs]
    show (((nameP (kts ts) (i + 1)).bind fun name i => (expectP (kts ts) 3 s_semi i).bind fun _ i => PR.ok name i).bind fun c i => opersP (kts ts) f { n with opers := n.opers ++ [c] } i) = _
    rw [PR.asso]
    refine PR.bind_congr fun x i _ => ?_
    rw [PR.asso]
    rfl
  rw [e]; exact h
theorem sm_offs : ∀ (f : Nat) (n : Nw), Sm ts (fun i => offsP (kts ts) f n i) (secR ts w_office (offW ts) f n)
 | 0, n => Sm.ret n
 | f + 1, n => Sm.cond0 (ts := ts) (k := 1) (x := w_office) ((sm_off (ts := ts) n).bind fun c => sm_offs f { n with offs := n.offs ++ [c] }) (Sm.ret n)
theorem sm_lins : ∀ (f : Nat) (n : Nw), Sm ts (fun i => linsP (kts ts) f n i) (secR ts w_line (linW ts) f n)
 | 0, n => Sm.ret n
 | f + 1, n => Sm.cond0 (ts := ts) (k := 1) (x := w_line) ((sm_lin (ts := ts) n).bind fun c => sm_lins f { n with lins := n.lins ++ [c] }) (Sm.ret n)
theorem sm_clss : ∀ (f : Nat) (n : Nw), Sm ts (fun i => clssP (kts ts) f n i) (secR ts w_class (clsW ts) f n)
 | 0, n => Sm.ret n
 | f + 1, n => Sm.cond0 (ts := ts) (k := 1) (x := w_class) ((sm_cls (ts := ts)).bind fun c => sm_clss f { n with clss := n.clss ++ [c] }) (Sm.ret n)
theorem sm_fin (n : Nw) : Sm ts (fun i => bif decide (i < (kts ts).length) then PR.fail 90 i else .ok n i) (finR ts n) := by
 intro r
 refine ⟨fun he => ?_, fun he => ?_⟩
 ·unfold finR
  rw [fail_stay he]
  cases decide (r.at_ < ts.length) <;> exact ⟨rfl, rfl⟩
 ·unfold finR
  simp only [klen]
  by_cases c : r.at_ < ts.length
  ·rw [decide_eq_true c]
   simp only [cond_true, failR, decide_eq_true he, List.getElem?_eq_getElem c]
   simp [posI, List.getElem?_eq_getElem c]
  ·rw [decide_eq_false c]
   cases r; simp only at he; subst he; rfl
theorem sm_net : Sm ts (fun i => (calsP (kts ts) (kts ts).length nw0 i).bind fun n i => (opersP (kts ts) (kts ts).length n i).bind fun n i => (offsP (kts ts) (kts ts).length n i).bind fun n i => (linsP (kts ts) (kts ts).length n i).bind fun n i => (clssP (kts ts) (kts ts).length n i).bind fun n i =>
  bif decide (i < (kts ts).length) then .fail 90 i else .ok n i) (netR ts) := by
 have h := (sm_cals (ts := ts) (kts ts).length nw0).bind fun n => (sm_opers (kts ts).length n).bind fun n => (sm_offs (kts ts).length n).bind fun n => (sm_lins (kts ts).length n).bind fun n => (sm_clss (kts ts).length n).bind fun n => sm_fin n
 unfold netR
 rw [klen] at h ⊢
 exact h
/-- The result of the reference's parser. -/
theorem parse_R {s : Bs} (hl : lexP s = .ok ts) : parseP s = bif decide ((netR ts ⟨0, 0, 0⟩).2.err = 0) then .ok (netR ts ⟨0, 0, 0⟩).1 else .err (netR ts ⟨0, 0, 0⟩).2.err (bif decide ((netR ts ⟨0, 0, 0⟩).2.err = 91) then s.length else ((netR ts ⟨0, 0, 0⟩).2.place).toNat) := by
 have h := (sm_net (ts := ts) ⟨0, 0, 0⟩).2 rfl
 have e : netP (kts ts) = (fun i => (calsP (kts ts) (kts ts).length nw0 i).bind fun n i => (opersP (kts ts) (kts ts).length n i).bind fun n i => (offsP (kts ts) (kts ts).length n i).bind fun n i => (linsP (kts ts) (kts ts).length n i).bind fun n i => (clssP (kts ts) (kts ts).length n i).bind fun n i =>
  bif decide (i < (kts ts).length) then .fail 90 i else .ok n i) 0 := rfl
 rw [← e] at h
 unfold parseP
 rw [hl]
 simp only
 cases hq : netP (kts ts) with
 | ok n j =>
  rw [hq] at h
  simp only at h ⊢
  rw [h]
  rfl
 | fail er k =>
  rw [hq] at h
  obtain ⟨h1, h2, h3⟩ := h
  simp only
  rw [h1, decide_eq_false h2]
  simp only [cond_false]
  rcases net_first hq with ⟨h4, h5⟩ | ⟨h4, h5, _⟩
  ·subst h4
   rw [klen] at h5
   unfold offs
   rw [h5, List.getElem?_eq_none (Nat.le_refl _)]
   rfl
  ·rw [decide_eq_false h5, h3 h5]
   rw [klen] at h4
   unfold offs posI
   rw [List.getElem?_eq_getElem h4]
   simp
theorem parse_Rplace {s : Bs} (hl : lexP s = .ok ts) (h : (netR ts ⟨0, 0, 0⟩).2.err ≠ 0) (h9 : (netR ts ⟨0, 0, 0⟩).2.err ≠ 91) : 0 ≤ (netR ts ⟨0, 0, 0⟩).2.place := by
 have hs := (sm_net (ts := ts) ⟨0, 0, 0⟩).2 rfl
 revert hs
 generalize ((fun i => (calsP (kts ts) (kts ts).length nw0 i).bind fun n i => (opersP (kts ts) (kts ts).length n i).bind fun n i => (offsP (kts ts) (kts ts).length n i).bind fun n i => (linsP (kts ts) (kts ts).length n i).bind fun n i => (clssP (kts ts) (kts ts).length n i).bind fun n i =>
  bif decide (i < (kts ts).length) then PR.fail 90 i else .ok n i) (⟨0, 0, 0⟩ : Rs).at_) = q
 intro hs
 cases q with
 | ok n j => simp only at hs; rw [hs] at h; exact absurd rfl h
 | fail e k =>
  obtain ⟨h1, h2, h3⟩ := hs
  rw [h3 (by rw [← h1]; exact h9)]
  unfold posI
  cases ts[k]? with
  | none => exact Int.le_refl _
  | some t => exact Int.natCast_nonneg _
end
end Go.Proofs.YtmhlneeboefkgaaGreatDoor.Pl
