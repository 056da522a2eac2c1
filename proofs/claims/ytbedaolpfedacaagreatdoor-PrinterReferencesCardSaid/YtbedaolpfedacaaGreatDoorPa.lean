/- A part of the proof. -/
import Derived.Test.YtbedaolpfedacaaGreatDoorNa
set_option linter.unusedVariables false
set_option linter.unusedSimpArgs false
namespace Go.Proofs.YtbedaolpfedacaaGreatDoor.Pl
open Go.Av Go.Av.Net
def Up {α : Type} (m : Nat) : PR α → Prop
 | .ok _ j => m ≤ j
 | .fail _ k => m ≤ k
theorem Up.bind {α β : Type} {m : Nat} {p : PR α} {f : α → Nat → PR β} (h : Up m p) (hf : ∀ a j, Up j (f a j)) : Up m (p.bind f) := by
 cases p with
 | ok a j =>
  have h2 := hf a j
  simp only [PR.bind]
  simp only [Up] at h
  cases hq : f a j <;> rw [hq] at h2 <;> simp only [Up] at h2 ⊢ <;> omega
 | fail e k => exact h
def Bd {α : Type} (i L : Nat) : PR α → Prop
 | .ok _ j => i ≤ j ∧ j ≤ L
 | .fail e k => i ≤ k ∧ (e ≠ 91 ∧ k < L ∨ e = 91 ∧ k = L)
theorem Bd.le {α : Type} {m n L : Nat} {p : PR α} (h : Bd m L p) (hn : n ≤ m) : Bd n L p := by
 cases p <;> simp only [Bd] at h ⊢ <;> omega
def Eb {α : Type} (m i : Nat) (p q : PR α) : Prop := Bd i m p ∧ match p with
 | .ok a j => (j < m → q = .ok a j) ∧ (j = m → Up m q)
 | .fail e k => (e ≠ 91 → q = .fail e k) ∧ (e = 91 → Up m q)
theorem Eb.of_end {α : Type} {m : Nat} {p q : PR α} (h : Bd m m p) (hq : Up m q) : Eb m m p q := by
 refine ⟨h, ?_⟩
 cases p with
 | ok a j => simp only [Bd] at h; exact ⟨fun _ => by omega, fun _ => hq⟩
 | fail e k => simp only [Bd] at h; exact ⟨fun _ => by omega, fun _ => hq⟩
theorem Eb.bind {α β : Type} {m i : Nat} {p q : PR α} {f g : α → Nat → PR β} (h : Eb m i p q) (hfg : ∀ a j, p = .ok a j → i ≤ j → j ≤ m → Eb m j (f a j) (g a j)) (hg : ∀ b j, Up j (g b j)) : Eb m i (p.bind f) (q.bind g) := by
 obtain ⟨hb, h⟩ := h
 cases p with
 | fail e k =>
  refine ⟨hb, ?_⟩
  simp only [PR.bind]
  refine ⟨fun he => by rw [h.1 he], fun he => Up.bind (h.2 he) hg⟩
 | ok a j =>
  simp only [Bd] at hb
  simp only at h
  have h2 := hfg a j rfl hb.1 hb.2
  have hbd : Bd i m (f a j) := h2.1.le hb.1
  by_cases hj : j < m
  ·rw [h.1 hj]
   exact ⟨hbd, h2.2⟩
  ·have hj : j = m := by omega
   have hq := Up.bind (f := g) (h.2 hj) hg
   refine ⟨hbd, ?_⟩
   simp only [PR.bind]
   subst hj
   have h3 := h2.1
   cases hf : f a j with
   | ok b j' => rw [hf] at h3; simp only [Bd] at h3; exact ⟨fun _ => by omega, fun _ => hq⟩
   | fail e k => rw [hf] at h3; simp only [Bd] at h3; exact ⟨fun _ => by omega, fun _ => hq⟩
theorem Eb.ok {α : Type} {m i : Nat} (a : α) (hi : i ≤ m) : Eb m i (.ok a i) (.ok a i) :=
 ⟨⟨Nat.le_refl _, hi⟩, fun _ => rfl, fun h => by simp [Up, h]⟩
def _root_.Go.Av.Net.PR.sh {α : Type} (d : Nat) : PR α → PR α
 | .ok a i => .ok a (d + i)
 | .fail e i => .fail e (d + i)
theorem _root_.Go.Av.Net.PR.sh_bind {α β : Type} (d : Nat) (p : PR α) {f g : α → Nat → PR β} (h : ∀ a j, p = .ok a j → g a (d + j) = (f a j).sh d) : (p.sh d).bind g = (p.bind f).sh d := by
 cases p with
 | ok a j => exact h a j rfl
 | fail e k => rfl
structure Par {α : Type} (P : List KT → Nat → PR α) : Prop where
 up : ∀ ts i, Up i (P ts i)
 eb : ∀ ts us i, i ≤ ts.length → Eb ts.length i (P ts i) (P (ts ++ us) i)
 sh : ∀ ts us i, i ≤ ts.length → P (us ++ ts) (us.length + i) = (P ts i).sh us.length
theorem Par.bind {α β : Type} {P : List KT → Nat → PR α} {f : α → List KT → Nat → PR β} (h : Par P) (hf : ∀ a, Par (f a)) : Par (fun ts i => (P ts i).bind fun a j => f a ts j) where
 up ts i := (h.up ts i).bind fun a j => (hf a).up ts j
 eb ts us i hi := (h.eb ts us i hi).bind (fun a j _ _ hj => (hf a).eb ts us j hj) fun b j => (hf b).up _ j
 sh ts us i hi := by
  rw [h.sh ts us i hi]
  refine PR.sh_bind _ _ fun a j q => (hf a).sh ts us j ?_
  have hb := (h.eb ts [] i hi).1
  rw [q] at hb
  exact hb.2
theorem Par.ok {α : Type} (a : α) : Par (fun ts i => .ok a i) where
 up ts i := by simp [Up]
 eb ts us i hi := Eb.ok a hi
 sh ts us i _ := rfl
theorem get_app {ts us : List KT} {i : Nat} (hi : i < ts.length) : (ts ++ us)[i]? = ts[i]? := List.getElem?_append_left hi
theorem get_sh (ts us : List KT) (i : Nat) : (us ++ ts)[us.length + i]? = ts[i]? := by rw [List.getElem?_append_right (by omega)]; congr 1; omega
theorem Par.item {α : Type} {P : List KT → Nat → PR α} (g : KT → Except Int α) (hP : ∀ ts i, P ts i = match ts[i]? with | none => .fail 91 i | some t => match g t with | .ok a => .ok a (i + 1) | .error e => .fail e i)
  (hg : ∀ t e, g t = .error e → e ≠ 91) : Par P where
 up ts i := by
  rw [hP]
  cases ts[i]? with
  | none => simp [Up]
  | some t => simp only; cases g t <;> simp [Up]
 eb ts us i hi := by
  rw [hP, hP]
  by_cases c : i < ts.length
  ·rw [get_app c, List.getElem?_eq_getElem c]
   simp only
   cases h : g ts[i] with
   | ok a => exact ⟨⟨by omega, by omega⟩, fun _ => rfl, fun h => by simp only [Up]; omega⟩
   | error e => exact ⟨⟨by omega, .inl ⟨hg _ _ h, c⟩⟩, fun _ => rfl, fun q => absurd q (hg _ _ h)⟩
  ·have hi : i = ts.length := by omega
   rw [List.getElem?_eq_none (by omega)]
   subst hi
   refine Eb.of_end ⟨by omega, .inr ⟨rfl, rfl⟩⟩ ?_
   cases (ts ++ us)[ts.length]? with
   | none => simp [Up]
   | some t => simp only; cases g t <;> simp [Up]
 sh ts us i _ := by
  rw [hP, hP, get_sh]
  cases ts[i]? with
  | none => rfl
  | some t => simp only; cases g t <;> rfl
theorem sees_app {ts us : List KT} {k : Int} {x : Bs} {i : Nat} (hi : i < ts.length) : seesP (ts ++ us) k x i = seesP ts k x i := by
 unfold seesP; rw [get_app hi]
theorem sees_sh (ts us : List KT) (k : Int) (x : Bs) (i : Nat) : seesP (us ++ ts) k x (us.length + i) = seesP ts k x i := by
 unfold seesP; rw [get_sh]
theorem sees_end {ts : List KT} {k : Int} {x : Bs} {i : Nat} (hi : ts.length ≤ i) : seesP ts k x i = false := by
 unfold seesP; rw [List.getElem?_eq_none hi]
theorem sees_lt {ts : List KT} {k : Int} {x : Bs} {i : Nat} (h : seesP ts k x i = true) : i < ts.length := by
 by_cases c : i < ts.length
 ·exact c
 ·rw [sees_end (by omega)] at h; cases h
theorem Par.cond {α : Type} {k : Int} {x : Bs} {A B : List KT → Nat → PR α} (hA : Par A) (hB : Par B) : Par (fun ts i => bif seesP ts k x i then A ts i else B ts i) where
 up ts i := by
  cases seesP ts k x i with
  | true => exact hA.up ts i
  | false => exact hB.up ts i
 eb ts us i hi := by
  by_cases c : i < ts.length
  ·rw [sees_app c]
   cases seesP ts k x i with
   | true => exact hA.eb ts us i hi
   | false => exact hB.eb ts us i hi
  ·have hi : i = ts.length := by omega
   subst hi
   rw [sees_end (ts := ts) (by omega)]
   refine Eb.of_end (hB.eb ts us _ (by omega)).1 ?_
   cases seesP (ts ++ us) k x ts.length with
   | true => exact hA.up _ _
   | false => exact hB.up _ _
 sh ts us i hi := by
  rw [sees_sh]
  cases seesP ts k x i with
  | true => exact hA.sh ts us i hi
  | false => exact hB.sh ts us i hi
theorem par_expect (k : Int) (x : Bs) : Par (fun ts i => expectP ts k x i) := by
 refine Par.item (fun t => bif decide (t.1 = k) && decide (t.2 = x) then .ok () else .error 90) (fun ts i => ?_) (fun t e h => ?_)
 ·simp only [expectP, seesP, wrongP]; cases ts[i]? with
  | none => rfl
  | some t => simp only; cases (decide (t.1 = k) && decide (t.2 = x)) <;> rfl
 ·cases q : (decide (t.1 = k) && decide (t.2 = x)) <;> simp [q] at h; omega
theorem par_name : Par nameP := by
 refine Par.item (fun t => bif decide (t.1 = 1) && isNameB t.2 then .ok t.2 else .error 90) (fun ts i => ?_) (fun t e h => ?_)
 ·simp only [nameP]; cases ts[i]? with
  | none => rfl
  | some t => simp only; cases (decide (t.1 = 1) && isNameB t.2) <;> rfl
 ·cases q : (decide (t.1 = 1) && isNameB t.2) <;> simp [q] at h; omega
theorem par_number : Par numberP := by
 refine Par.item (fun t => bif decide (t.1 = 2) then .ok (decV t.2) else .error 90) (fun ts i => ?_) (fun t e h => ?_)
 ·simp only [numberP]; cases ts[i]? with
  | none => rfl
  | some t => simp only; cases decide (t.1 = 2) <;> rfl
 ·cases q : decide (t.1 = 2) <;> simp [q] at h; omega
theorem par_week : Par weekP := by
 refine Par.item (fun t => bif decide (t.1 = 2) && isWeekB t.2 then .ok (t.2.map fun b => decide (b.toNat = 49)) else .error 90) (fun ts i => ?_) (fun t e h => ?_)
 ·simp only [weekP]; cases ts[i]? with
  | none => rfl
  | some t => simp only; cases (decide (t.1 = 2) && isWeekB t.2) <;> rfl
 ·cases q : (decide (t.1 = 2) && isWeekB t.2) <;> simp [q] at h; omega
theorem par_code : Par codeP := by
 refine Par.item (fun t => bif (decide (t.1 = 1) || decide (t.1 = 2)) && isCodeB t.2 then .ok t.2 else .error 90) (fun ts i => ?_) (fun t e h => ?_)
 ·simp only [codeP]; cases ts[i]? with
  | none => rfl
  | some t => simp only; cases ((decide (t.1 = 1) || decide (t.1 = 2)) && isCodeB t.2) <;> rfl
 ·cases q : ((decide (t.1 = 1) || decide (t.1 = 2)) && isCodeB t.2) <;> simp [q] at h; omega
theorem par_ref (names : List Bs) : Par (fun ts i => refP ts names i) := by
 refine Par.item (fun t => bif decide (t.1 = 1) && isNameB t.2 then (match idxOf t.2 names with | some k => .ok k | none => .error 110) else .error 90) (fun ts i => ?_) (fun t e h => ?_)
 ·simp only [refP, nameP]
  cases ts[i]? with
  | none => rfl
  | some t =>
   simp only
   cases (decide (t.1 = 1) && isNameB t.2) with
   | false => rfl
   | true => simp only [cond_true, PR.bind]; cases idxOf t.2 names <;> rfl
 ·cases q : (decide (t.1 = 1) && isNameB t.2) <;> simp [q] at h
  ·omega
  ·cases q2 : idxOf t.2 names <;> simp [q2] at h; omega
theorem par_int : Par intP := by
 have h : Par (fun ts i => bif seesP ts 3 s_minus i then (expectP ts 3 s_minus i).bind fun _ i => (numberP ts i).bind fun n i => .ok (-n) i else numberP ts i) :=
  Par.cond ((par_expect 3 s_minus).bind fun _ => par_number.bind fun n => Par.ok _) par_number
 have e : intP = (fun ts i => bif seesP ts 3 s_minus i then (expectP ts 3 s_minus i).bind fun _ i => (numberP ts i).bind fun n i => .ok (-n) i else numberP ts i) := by
  funext ts i
  unfold intP expectP
  cases seesP ts 3 s_minus i <;> rfl
 rw [e]; exact h
theorem par_field (w : Bs) : Par (fun ts i => fieldP ts w i) :=
 (par_expect 1 w).bind fun _ => par_number.bind fun n => (par_expect 3 s_semi).bind fun _ => Par.ok n
def lpP {σ : Type} (b : Bool) (k : Int) (x : Bs) (B : σ → List KT → Nat → PR σ) (ts : List KT) : Nat → σ → Nat → PR σ
 | 0, s, i => .ok s i
 | f + 1, s, i => bif (seesP ts k x i == b) then (B s ts i).bind fun s i => lpP b k x B ts f s i else .ok s i
section
variable {σ : Type} {b : Bool} {k : Int} {x : Bs} {B : σ → List KT → Nat → PR σ} (hB : ∀ s, Par (B s)) (hS : ∀ s ts i s' j, B s ts i = .ok s' j → i < j)
def ex (b : Bool) : Nat := bif b then 0 else 1
include hB in
theorem lp_up (ts : List KT) : ∀ (f : Nat) (s : σ) (i : Nat), Up i (lpP b k x B ts f s i)
 | 0, s, i => by simp [lpP, Up]
 | f + 1, s, i => by
  unfold lpP
  cases (seesP ts k x i == b) with
  | true => exact ((hB s).up ts i).bind fun s j => lp_up ts f s j
  | false => simp [Up]
include hB hS in
theorem lp_fuel (ts : List KT) : ∀ (f g : Nat) (s : σ) (i : Nat), i ≤ ts.length → ts.length - i + ex b ≤ f → ts.length - i + ex b ≤ g → lpP b k x B ts f s i = lpP b k x B ts g s i
 | 0, 0, s, i, _, _, _ => rfl
 | 0, g + 1, s, i, hi, h, _ => by
  cases b with
  | false => simp [ex] at h
  | true => simp [ex] at h; simp only [lpP]; rw [sees_end (by omega)]; rfl
 | f + 1, 0, s, i, hi, _, h => by
  cases b with
  | false => simp [ex] at h
  | true => simp [ex] at h; simp only [lpP]; rw [sees_end (by omega)]; rfl
 | f + 1, g + 1, s, i, hi, h1, h2 => by
  unfold lpP
  cases c : (seesP ts k x i == b) with
  | false => rfl
  | true =>
   simp only [cond_true]
   cases q : B s ts i with
   | fail e m => rfl
   | ok s' j =>
    have := hS s ts i s' j q
    have hb := ((hB s).eb ts [] i hi).1
    rw [q] at hb
    simp only [Bd] at hb
    simp only [PR.bind]
    exact lp_fuel ts f g s' j hb.2 (by omega) (by omega)
include hB hS in
theorem lp_eb (ts us : List KT) : ∀ (f g : Nat) (s : σ) (i : Nat), i ≤ ts.length → ts.length - i + ex b ≤ f → (ts ++ us).length - i + ex b ≤ g → Eb ts.length i (lpP b k x B ts f s i) (lpP b k x B (ts ++ us) g s i) := by
 intro f
 induction f with
 | zero =>
  intro g s i hi h1 h2
  have : i = ts.length := by omega
  subst this
  exact Eb.of_end ⟨Nat.le_refl _, Nat.le_refl _⟩ (lp_up hB _ _ _ _)
 | succ f ih =>
  intro g s i hi h1 h2
  by_cases c : i < ts.length
  ·cases g with
   | zero => simp at h2; omega
   | succ g =>
    unfold lpP
    rw [sees_app c]
    cases (seesP ts k x i == b) with
    | false => exact Eb.ok s hi
    | true =>
     exact ((hB s).eb ts us i hi).bind (fun a j hq hj hm => ih g a j hm (by have := hS _ _ _ _ _ hq; omega) (by have := hS _ _ _ _ _ hq; simp only [List.length_append] at *; omega)) fun a j => lp_up hB _ _ _ _
  ·have : i = ts.length := by omega
   subst this
   refine Eb.of_end ?_ (lp_up hB _ _ _ _)
   unfold lpP
   rw [sees_end (by omega)]
   cases b with
   | true => exact ⟨Nat.le_refl _, Nat.le_refl _⟩
   | false =>
    simp only [beq_self_eq_true, cond_true]
    have h3 := ((hB s).eb ts us ts.length (by omega)).1
    cases q : B s ts ts.length with
    | fail e m => rw [q] at h3; exact h3
    | ok s' j => rw [q] at h3; simp only [Bd] at h3; have := hS _ _ _ _ _ q; omega
include hB in
theorem lp_sh (ts us : List KT) : ∀ (f : Nat) (s : σ) (i : Nat), i ≤ ts.length → lpP b k x B (us ++ ts) f s (us.length + i) = (lpP b k x B ts f s i).sh us.length
 | 0, s, i, _ => rfl
 | f + 1, s, i, hi => by
  unfold lpP
  rw [sees_sh]
  cases (seesP ts k x i == b) with
  | false => rfl
  | true =>
   simp only [cond_true]
   rw [(hB s).sh ts us i hi]
   refine PR.sh_bind _ _ fun a j q => lp_sh ts us f a j ?_
   have hb := ((hB s).eb ts [] i hi).1
   rw [q] at hb
   exact hb.2
include hB hS in
theorem par_lp (s : σ) (F : Nat → Nat) (hF : ∀ n, n + ex b ≤ F n) : Par (fun ts i => lpP b k x B ts (F ts.length) s i) where
 up ts i := lp_up hB ts _ _ _
 eb ts us i hi := lp_eb hB hS ts us _ _ s i hi (by have := hF ts.length; omega) (by have := hF (ts ++ us).length; omega)
 sh ts us i hi := by
  rw [lp_fuel hB hS (us ++ ts) _ (F (us ++ ts).length + F ts.length) s _ (by simp; omega) (by have := hF (us ++ ts).length; simp only [List.length_append] at *; omega) (by have := hF (us ++ ts).length; simp only [List.length_append] at *; omega),
   lp_fuel hB hS ts (F ts.length) (F (us ++ ts).length + F ts.length) s i hi (by have := hF ts.length; omega) (by have := hF ts.length; omega)]
  exact lp_sh hB ts us _ s i hi
end
end Go.Proofs.YtbedaolpfedacaaGreatDoor.Pl
namespace Go.Proofs.YtbedaolpfedacaaGreatDoor.Pl
open Go.Av Go.Av.Net
theorem PR.bind_ok {α β : Type} {p : PR α} {f : α → Nat → PR β} {b : β} {j : Nat} (h : p.bind f = .ok b j) : ∃ a i, p = .ok a i ∧ f a i = .ok b j := by
 cases p with
 | ok a i => exact ⟨a, i, rfl, h⟩
 | fail e k => cases h
theorem PR.asso {α β γ : Type} (x : PR α) (f : α → Nat → PR β) (g : β → Nat → PR γ) : (x.bind f).bind g = x.bind fun a i => (f a i).bind g := by cases x <;> rfl
theorem PR.bind_id {α : Type} (x : PR α) : (x.bind fun a i => .ok a i) = x := by cases x <;> rfl
theorem PR.bind_congr {α β : Type} {x : PR α} {f g : α → Nat → PR β} (h : ∀ a i, x = .ok a i → f a i = g a i) : x.bind f = x.bind g := by
 cases x with
 | ok a i => exact h a i rfl
 | fail e k => rfl
theorem expect_to {ts : List KT} {k : Int} {x : Bs} {i j : Nat} {a : Unit} (h : expectP ts k x i = .ok a j) : j = i + 1 := by
 unfold expectP wrongP at h
 cases hs : seesP ts k x i with
 | true => rw [hs] at h; simp only [cond_true, PR.ok.injEq] at h; omega
 | false => rw [hs] at h; simp only [cond_false] at h; split at h <;> cases h
theorem code_to {ts : List KT} {i j : Nat} {a : Bs} (h : codeP ts i = .ok a j) : j = i + 1 := by
 unfold codeP at h
 split at h
 ·cases h
 ·rename_i t _
  cases hs : ((decide (t.1 = 1) || decide (t.1 = 2)) && isCodeB t.2) <;> rw [hs] at h <;> simp only [cond_true, cond_false, PR.ok.injEq, reduceCtorEq] at h; omega
theorem Up.lt {α : Type} {m j : Nat} {p : PR α} {a : α} (h : Up m p) (hp : p = .ok a j) : m ≤ j := by rw [hp] at h; exact h
theorem lt_expect {α : Type} {ts : List KT} {k : Int} {x : Bs} {i j : Nat} {a : α} {f : Unit → Nat → PR α} (h : (expectP ts k x i).bind f = .ok a j) (hf : ∀ a j, Up j (f a j)) : i < j := by
 obtain ⟨u, i', h1, h2⟩ := PR.bind_ok h
 have e := expect_to h1
 have := (hf u i').lt h2
 omega
def holB (l : List Int) (ts : List KT) (i : Nat) : PR (List Int) := (expectP ts 1 w_holiday i).bind fun _ i => (intP ts i).bind fun n i => (expectP ts 3 s_semi i).bind fun _ i => .ok (l ++ [n]) i
theorem par_holB (l : List Int) : Par (holB l) := (par_expect 1 w_holiday).bind fun _ => par_int.bind fun n => (par_expect 3 s_semi).bind fun _ => Par.ok _
theorem hols_lp (ts : List KT) : ∀ (f : Nat) (l : List Int) (i : Nat), lpP true 1 w_holiday holB ts f l i = (holsP ts f i).bind fun r i => .ok (l ++ r) i
 | 0, l, i => by simp [lpP, holsP, PR.bind]
 | f + 1, l, i => by
  unfold lpP holsP
  cases seesP ts 1 w_holiday i with
  | false => simp [PR.bind]
  | true =>
   simp only [beq_self_eq_true, cond_true, holB, PR.asso]
   refine PR.bind_congr fun _ i _ => PR.bind_congr fun n i _ => PR.bind_congr fun _ i _ => ?_
   simp only [PR.bind]
   rw [hols_lp ts f]
   refine PR.bind_congr fun r i _ => ?_
   simp [PR.bind]
theorem par_hols : Par (fun ts i => holsP ts ts.length i) := by
 have h := par_lp (b := true) (k := 1) (x := w_holiday) par_holB (fun s ts i s' j h => lt_expect h fun a j => (par_int.bind fun n => (par_expect 3 s_semi).bind fun _ => Par.ok (s ++ [n])).up ts j) [] (fun n => n) (by simp [ex])
 have e : (fun ts i => holsP ts ts.length i) = (fun (ts : List KT) i => lpP true 1 w_holiday holB ts ts.length [] i) := by
  funext ts i
  rw [hols_lp]
  simp [PR.bind_id]
 rw [e]; exact h
def codB (l : List Bs) (ts : List KT) (i : Nat) : PR (List Bs) := (codeP ts i).bind fun c i => .ok (l ++ [c]) i
theorem par_codB (l : List Bs) : Par (codB l) := par_code.bind fun _ => Par.ok _
theorem codes_lp (ts : List KT) : ∀ (f : Nat) (l : List Bs) (i : Nat), lpP false 3 s_semi codB ts f l i = (codesP ts f i).bind fun r i => .ok (l ++ r) i
 | 0, l, i => by simp [lpP, codesP, PR.bind]
 | f + 1, l, i => by
  unfold lpP codesP
  cases seesP ts 3 s_semi i with
  | true => simp [PR.bind]
  | false =>
   simp only [beq_self_eq_true, cond_true, cond_false, codB, PR.asso]
   refine PR.bind_congr fun c i _ => ?_
   simp only [PR.bind]
   rw [codes_lp ts f]
   refine PR.bind_congr fun r i _ => ?_
   simp [PR.bind]
theorem par_codes : Par (fun ts i => codesP ts (ts.length + 1) i) := by
 have h := par_lp (b := false) (k := 3) (x := s_semi) par_codB (fun s ts i s' j h => by obtain ⟨u, i', h1, h2⟩ := PR.bind_ok h; have := code_to h1; cases h2; omega) [] (fun n => n + 1) (by simp [ex])
 have e : (fun ts i => codesP ts (ts.length + 1) i) = (fun (ts : List KT) i => lpP false 3 s_semi codB ts (ts.length + 1) [] i) := by
  funext ts i
  rw [codes_lp]
  simp [PR.bind_id]
 rw [e]; exact h
theorem par_codesAll : Par codesAllP :=
 Par.cond ((par_expect 1 w_codes).bind fun _ => par_code.bind fun c => par_codes.bind fun l => (par_expect 3 s_semi).bind fun _ => Par.ok _) (Par.ok [])
structure Clo {α : Type} (P : List KT → Nat → PR α) : Prop extends Par P where
 st : ∀ ts i a j, P ts i = .ok a j → i < j
 ext : ∀ ts us i a j, i ≤ ts.length → P ts i = .ok a j → P (ts ++ us) i = .ok a j
 cut : ∀ ts us i a j, i ≤ ts.length → P (ts ++ us) i = .ok a j → (j ≤ ts.length → P ts i = .ok a j) ∧ (ts.length < j → ∃ k, P ts i = .fail 91 k)
theorem Clo.at_end {α : Type} {P : List KT → Nat → PR α} (h : Clo P) (ts : List KT) : ∃ k, P ts ts.length = .fail 91 k := by
 have hb := (h.eb ts [] ts.length (Nat.le_refl _)).1
 cases q : P ts ts.length with
 | ok a j => have := h.st _ _ _ _ q; rw [q] at hb; simp only [Bd] at hb; omega
 | fail e k =>
  rw [q] at hb; simp only [Bd] at hb
  rcases hb.2 with h1 | h1
  ·omega
  ·exact ⟨k, by rw [h1.1]⟩
theorem Par.clo {α β : Type} {P : List KT → Nat → PR α} {f : α → List KT → Nat → PR β} (h : Par P) (hf : ∀ a, Clo (f a)) : Clo (fun ts i => (P ts i).bind fun a j => f a ts j) := by
 refine ⟨h.bind fun a => (hf a).toPar, fun ts i a j q => ?_, fun ts us i a j hi q => ?_, fun ts us i b j hi q => ?_⟩
 ·obtain ⟨c, k, h1, h2⟩ := PR.bind_ok q
  have := (hf c).st _ _ _ _ h2
  have := (h.up ts i).lt h1
  omega
 ·obtain ⟨c, k, h1, h2⟩ := PR.bind_ok q
  have hE := h.eb ts us i hi
  rw [h1] at hE
  obtain ⟨hb, e1, e2⟩ := hE
  simp only [Bd] at hb
  have hs := (hf c).st _ _ _ _ h2
  have hb2 := ((hf c).eb ts [] k hb.2).1
  rw [h2] at hb2
  simp only [Bd] at hb2
  rw [e1 (by omega)]
  exact (hf c).ext ts us k a j hb.2 h2
 ·obtain ⟨c, k, h1, h2⟩ := PR.bind_ok q
  have hE := h.eb ts us i hi
  have hs := (hf c).st _ _ _ _ h2
  cases hp : P ts i with
  | ok a' k' =>
   rw [hp] at hE
   obtain ⟨hb, e1, e2⟩ := hE
   simp only [Bd] at hb
   by_cases c1 : k' < ts.length
   ·have := e1 c1
    rw [h1] at this
    cases this
    exact (hf c).cut ts us k b j hb.2 h2
   ·have : k' = ts.length := by omega
    subst this
    have := (e2 rfl).lt h1
    refine ⟨fun _ => by omega, fun _ => ?_⟩
    exact (hf a').at_end ts
  | fail e k' =>
   rw [hp] at hE
   obtain ⟨hb, e1, e2⟩ := hE
   by_cases c1 : e = 91
   ·subst c1
    have := (e2 rfl).lt h1
    exact ⟨fun _ => by omega, fun _ => ⟨k', rfl⟩⟩
   ·rw [e1 c1] at h1; cases h1
theorem clo_expect {α : Type} (k : Int) (x : Bs) (a : α) : Clo (fun ts i => (expectP ts k x i).bind fun _ i => .ok a i) := by
 refine ⟨(par_expect k x).bind fun _ => Par.ok a, fun ts i b j q => ?_, fun ts us i b j hi q => ?_, fun ts us i b j hi q => ?_⟩
 ·obtain ⟨u, i', h1, h2⟩ := PR.bind_ok q
  have := expect_to h1; cases h2; omega
 ·obtain ⟨u, i', h1, h2⟩ := PR.bind_ok q
  have hc : i < ts.length := by
   unfold expectP wrongP at h1
   cases hs : seesP ts k x i with
   | true => exact sees_lt hs
   | false => rw [hs] at h1; simp only [cond_false] at h1; split at h1 <;> cases h1
  have e : expectP (ts ++ us) k x i = expectP ts k x i := by unfold expectP wrongP; rw [sees_app hc, get_app hc]
  rw [e]; exact q
 ·obtain ⟨u, i', h1, h2⟩ := PR.bind_ok q
  have := expect_to h1; cases h2
  by_cases hc : i < ts.length
  ·have e : expectP (ts ++ us) k x i = expectP ts k x i := by unfold expectP wrongP; rw [sees_app hc, get_app hc]
   rw [e] at q
   exact ⟨fun _ => q, fun _ => by omega⟩
  ·refine ⟨fun _ => by omega, fun _ => ⟨i, ?_⟩⟩
   unfold expectP wrongP
   rw [sees_end (by omega), List.getElem?_eq_none (by omega)]
   rfl
theorem Clo.map {α β : Type} {P : List KT → Nat → PR α} (h : Clo P) (g : α → β) : Clo (fun ts i => (P ts i).bind fun a j => .ok (g a) j) := by
 refine ⟨h.toPar.bind fun a => Par.ok _, fun ts i a j q => ?_, fun ts us i a j hi q => ?_, fun ts us i b j hi q => ?_⟩
 ·obtain ⟨c, k, h1, h2⟩ := PR.bind_ok q
  cases h2; exact h.st _ _ _ _ h1
 ·obtain ⟨c, k, h1, h2⟩ := PR.bind_ok q
  rw [h.ext ts us i c k hi h1]; exact h2
 ·obtain ⟨c, k, h1, h2⟩ := PR.bind_ok q
  cases h2
  obtain ⟨c1, c2⟩ := h.cut ts us i c j hi h1
  refine ⟨fun hj => by rw [c1 hj]; rfl, fun hj => ?_⟩
  obtain ⟨k, hk⟩ := c2 hj
  exact ⟨k, by rw [hk]; rfl⟩
theorem clo_cal : Clo calP :=
 (par_expect 1 w_calendar).clo fun _ => par_name.clo fun name => (par_expect 3 s_lb).clo fun _ => (par_expect 1 w_zone).clo fun _ => par_int.clo fun zone => (par_expect 3 s_semi).clo fun _ =>
  (par_expect 1 w_week).clo fun _ => par_week.clo fun week => (par_expect 3 s_semi).clo fun _ => par_hols.clo fun hols => clo_expect 3 s_rb ((name, ⟨zone, week, hols⟩) : Bs × Cal)
theorem clo_oper : Clo operP := (par_expect 1 w_operator).clo fun _ => par_name.clo fun name => clo_expect 3 s_semi name
theorem clo_off (n : Nw) : Clo (fun ts i => offP ts n i) :=
 (par_expect 1 w_office).clo fun _ => par_name.clo fun name => (par_expect 3 s_lb).clo fun _ => (par_expect 1 w_operator).clo fun _ => (par_ref n.opers).clo fun oper => (par_expect 3 s_semi).clo fun _ =>
  (par_expect 1 w_calendar).clo fun _ => (par_ref n.names).clo fun cal => (par_expect 3 s_semi).clo fun _ => (par_field w_pockets).clo fun a => (par_field w_passes).clo fun b => (par_field w_minutes).clo fun c =>
  par_codesAll.clo fun codes => clo_expect 3 s_rb (⟨name, oper, cal, a, b, c, codes⟩ : Off)
theorem clo_lin (n : Nw) : Clo (fun ts i => linP ts n i) :=
 (par_expect 1 w_line).clo fun _ => par_name.clo fun name => (par_expect 3 s_colon).clo fun _ => (par_ref _).clo fun a => (par_expect 3 s_arrow).clo fun _ => (par_ref _).clo fun b =>
  (par_expect 1 w_at).clo fun _ => par_number.clo fun c => (par_expect 1 w_travel).clo fun _ => par_number.clo fun d => (par_expect 1 w_load).clo fun _ => par_number.clo fun e => clo_expect 3 s_semi (⟨name, a, b, c, d, e⟩ : Lin)
theorem clo_cls : Clo clsP :=
 (par_expect 1 w_class).clo fun _ => par_name.clo fun name => (par_expect 3 s_lb).clo fun _ => (par_field w_cut).clo fun a => (par_field w_deliver).clo fun b => clo_expect 3 s_rb (⟨name, a, b⟩ : Cls)
def calS (n : Nw) (ts : List KT) (i : Nat) : PR Nw := (calP ts i).bind fun c i => .ok { n with cals := n.cals ++ [c.2], names := n.names ++ [c.1] } i
def operS (n : Nw) (ts : List KT) (i : Nat) : PR Nw := (operP ts i).bind fun c i => .ok { n with opers := n.opers ++ [c] } i
def offS (n : Nw) (ts : List KT) (i : Nat) : PR Nw := (offP ts n i).bind fun c i => .ok { n with offs := n.offs ++ [c] } i
def linS (n : Nw) (ts : List KT) (i : Nat) : PR Nw := (linP ts n i).bind fun c i => .ok { n with lins := n.lins ++ [c] } i
def clsS (n : Nw) (ts : List KT) (i : Nat) : PR Nw := (clsP ts i).bind fun c i => .ok { n with clss := n.clss ++ [c] } i
theorem clo_calS (n : Nw) : Clo (calS n) := clo_cal.map _
theorem clo_operS (n : Nw) : Clo (operS n) := clo_oper.map _
theorem clo_offS (n : Nw) : Clo (offS n) := (clo_off n).map _
theorem clo_linS (n : Nw) : Clo (linS n) := (clo_lin n).map _
theorem clo_clsS (n : Nw) : Clo (clsS n) := clo_cls.map _
theorem cals_lp (ts : List KT) : ∀ (f : Nat) (n : Nw) (i : Nat), calsP ts f n i = lpP true 1 w_calendar calS ts f n i
 | 0, n, i => rfl
 | f + 1, n, i => by
  unfold lpP calsP
  cases seesP ts 1 w_calendar i with
  | false => rfl
  | true => simp only [beq_self_eq_true, cond_true, calS, PR.asso]; exact PR.bind_congr fun c i _ => cals_lp ts f _ i
theorem opers_lp (ts : List KT) : ∀ (f : Nat) (n : Nw) (i : Nat), opersP ts f n i = lpP true 1 w_operator operS ts f n i
 | 0, n, i => rfl
 | f + 1, n, i => by
  unfold lpP opersP
  cases seesP ts 1 w_operator i with
  | false => rfl
  | true => simp only [beq_self_eq_true, cond_true, operS, PR.asso]; exact PR.bind_congr fun c i _ => opers_lp ts f _ i
theorem offs_lp (ts : List KT) : ∀ (f : Nat) (n : Nw) (i : Nat), offsP ts f n i = lpP true 1 w_office offS ts f n i
 | 0, n, i => rfl
 | f + 1, n, i => by
  unfold lpP offsP
  cases seesP ts 1 w_office i with
  | false => rfl
  | true => simp only [beq_self_eq_true, cond_true, offS, PR.asso]; exact PR.bind_congr fun c i _ => offs_lp ts f _ i
theorem lins_lp (ts : List KT) : ∀ (f : Nat) (n : Nw) (i : Nat), linsP ts f n i = lpP true 1 w_line linS ts f n i
 | 0, n, i => rfl
 | f + 1, n, i => by
  unfold lpP linsP
  cases seesP ts 1 w_line i with
  | false => rfl
  | true => simp only [beq_self_eq_true, cond_true, linS, PR.asso]; exact PR.bind_congr fun c i _ => lins_lp ts f _ i
theorem clss_lp (ts : List KT) : ∀ (f : Nat) (n : Nw) (i : Nat), clssP ts f n i = lpP true 1 w_class clsS ts f n i
 | 0, n, i => rfl
 | f + 1, n, i => by
  unfold lpP clssP
  cases seesP ts 1 w_class i with
  | false => rfl
  | true => simp only [beq_self_eq_true, cond_true, clsS, PR.asso]; exact PR.bind_congr fun c i _ => clss_lp ts f _ i
def sec (k : Bs) (B : Nw → List KT → Nat → PR Nw) (n : Nw) (ts : List KT) (i : Nat) : PR Nw := lpP true 1 k B ts ts.length n i
def finP (n : Nw) (ts : List KT) (i : Nat) : PR Nw := bif decide (i < ts.length) then .fail 90 i else .ok n i
def netQ (ts : List KT) (i : Nat) : PR Nw :=
 (sec w_calendar calS nw0 ts i).bind fun n i => (sec w_operator operS n ts i).bind fun n i => (sec w_office offS n ts i).bind fun n i => (sec w_line linS n ts i).bind fun n i => (sec w_class clsS n ts i).bind fun n i => finP n ts i
theorem netP_eq (ts : List KT) : netP ts = netQ ts 0 := by
 unfold netP netQ sec
 simp only [cals_lp, opers_lp, offs_lp, lins_lp, clss_lp]
 rfl
end Go.Proofs.YtbedaolpfedacaaGreatDoor.Pl
namespace Go.Proofs.YtbedaolpfedacaaGreatDoor.Pl
open Go.Av Go.Av.Net
def szN (n : Nw) : Nat := n.cals.length + n.opers.length + n.offs.length + n.lins.length + n.clss.length
end Go.Proofs.YtbedaolpfedacaaGreatDoor.Pl
namespace Go.Proofs.YtbedaolpfedacaaGreatDoor.Pl
open Go.Av Go.Av.Net
def srcT (k : Int) (t : Bs) : Bs := bif decide (k = 4) then 34 :: (t ++ [34]) else t
theorem runP_app : ∀ (a r : Bs), (∀ b ∈ a, wordB b = true) → (∀ c, r.head? = some c → wordB c = false) → runP (a ++ r) = (a.length, (a.filter digB).length)
 | [], r, _, hr => by
  cases r with
  | nil => rfl
  | cons c r => simp only [List.nil_append, runP]; rw [hr c rfl]; rfl
 | b :: a, r, ha, hr => by
  simp only [List.cons_append, runP]
  rw [ha b (List.mem_cons_self ..), runP_app a r (fun x hx => ha x (List.mem_cons_of_mem _ hx)) hr]
  simp only [cond_true, List.length_cons, List.filter_cons]
  cases digB b <;> simp
theorem runP_self : ∀ (s : Bs), (∀ b ∈ s.take (runP s).1, wordB b = true) ∧ (∀ c, (s.drop (runP s).1).head? = some c → wordB c = false) ∧ (runP s).1 ≤ s.length ∧ (runP s).2 = ((s.take (runP s).1).filter digB).length
 | [] => by simp [runP]
 | b :: r => by
  obtain ⟨h1, h2, h3, h4⟩ := runP_self r
  unfold runP
  cases hw : wordB b with
  | false => simp only [cond_false, List.take_zero, List.drop_zero, List.head?_cons, Option.some.injEq]; simp [hw]
  | true =>
   simp only [cond_true, List.take_succ_cons, List.drop_succ_cons, List.length_cons]
   refine ⟨fun x hx => ?_, h2, by omega, ?_⟩
   ·rcases List.mem_cons.1 hx with rfl | hx
    ·exact hw
    ·exact h1 x hx
   ·rw [List.filter_cons, h4]
    cases digB b <;> simp
theorem wordB_facts : wordB 34 = false ∧ wordB 32 = false ∧ wordB 9 = false ∧ wordB 10 = false ∧ wordB 13 = false ∧ wordB 37 = false ∧ wordB 62 = false := by decide
theorem runP_same (s r' : Bs) (n : Nat) (hn : n = (runP s).1) (hr : ∀ c, r'.head? = some c → wordB c = false) : runP (s.take n ++ r') = runP s := by
 obtain ⟨h1, h2, h3, h4⟩ := runP_self s
 subst hn
 rw [runP_app _ _ h1 hr, ← h4]
 refine Prod.ext ?_ rfl
 simp; omega
theorem txt_bd : ∀ (f i : Nat) (r : Bs), 0 < txt f i r → i + 1 ≤ txt f i r ∧ txt f i r ≤ i + r.length
 | 0, i, r, h => by simp [txt] at h
 | f + 1, i, [], h => by simp [txt] at h
 | f + 1, i, b :: r, h => by
  unfold txt at h ⊢
  by_cases h1 : b.toNat = 34
  ·rw [decide_eq_true h1, cond_true] at *; simp only [List.length_cons]; omega
  ·rw [decide_eq_false h1, cond_false] at *
   cases q : (decide (b.toNat < 32) || decide (126 < b.toNat)) with
   | true => rw [q] at h; simp at h
   | false =>
    rw [q] at h
    simp only [cond_false] at h ⊢
    have := txt_bd f (i + 1) r h
    simp only [List.length_cons]; omega
theorem txt_same : ∀ (f i : Nat) (r r' : Bs), 0 < txt f i r → txt f i (r.take (txt f i r - i) ++ r') = txt f i r ∧ r.take (txt f i r - i) = r.take (txt f i r - i - 1) ++ [34]
 | 0, i, r, r', h => by simp [txt] at h
 | f + 1, i, [], r', h => by simp [txt] at h
 | f + 1, i, b :: r, r', h => by
  have hb := txt_bd (f + 1) i (b :: r) h
  by_cases h1 : b.toNat = 34
  ·have e : txt (f + 1) i (b :: r) = i + 1 := by unfold txt; rw [decide_eq_true h1, cond_true]
   rw [e]
   have eb : b = 34 := UInt8.toNat_inj.1 h1
   rw [show i + 1 - i = 1 by omega]
   simp only [List.take_succ_cons, List.take_zero, List.cons_append, List.nil_append]
   refine ⟨?_, by simp [eb]⟩
   unfold txt; rw [decide_eq_true h1, cond_true]
  ·cases q : (decide (b.toNat < 32) || decide (126 < b.toNat)) with
   | true => unfold txt at h; rw [decide_eq_false h1, q] at h; simp at h
   | false =>
    have e : ∀ x, txt (f + 1) i (b :: x) = txt f (i + 1) x := fun x => by rw [show txt (f + 1) i (b :: x) = bif decide (b.toNat = 34) then i + 1 else bif decide (b.toNat < 32) || decide (126 < b.toNat) then 0 else txt f (i + 1) x from rfl, decide_eq_false h1, q]; rfl
    rw [e] at h hb ⊢
    have hb2 := txt_bd f (i + 1) r h
    obtain ⟨i1, i2⟩ := txt_same f (i + 1) r r' h
    generalize txt f (i + 1) r = n at *
    obtain ⟨m, rfl⟩ : ∃ m, n = i + 1 + m + 1 := ⟨n - i - 2, by omega⟩
    rw [show i + 1 + m + 1 - i = m + 1 + 1 by omega, show m + 1 + 1 - 1 = m + 1 by omega]
    rw [show i + 1 + m + 1 - (i + 1) = m + 1 by omega] at i1 i2
    rw [show m + 1 - 1 = m by omega] at i2
    simp only [List.take_succ_cons, List.cons_append, e]
    exact ⟨i1, by rw [i2]⟩
theorem num_of (s : Bs) (h : 0 < numLen s) : numLen s = (runP s).1 := by
 unfold numLen at *
 cases q : (!decide ((runP s).2 = (runP s).1) || decide (8 < (runP s).1)) with
 | true => rw [q] at h; simp at h
 | false => rfl
theorem name_of (s : Bs) (h : 0 < nameLen s) : nameLen s = (runP s).1 := by
 unfold nameLen at *
 cases q : (decide ((runP s).2 = (runP s).1) || decide (20 < (runP s).1) || decide (s.headD 0 = 95)) with
 | true => rw [q] at h; simp at h
 | false => rfl
theorem num_eq {s s' : Bs} (h : runP s' = runP s) : numLen s' = numLen s := by unfold numLen; rw [h]
theorem name_eq {s s' : Bs} (h : runP s' = runP s) (hh : s'.headD 0 = s.headD 0) : nameLen s' = nameLen s := by unfold nameLen; rw [h, hh]
theorem headD_take {s r' : Bs} {n : Nat} (h : 0 < n) (hs : n ≤ s.length) : (s.take n ++ r').headD 0 = s.headD 0 := by
 cases s with
 | nil => simp at hs; omega
 | cons b s => cases n with
  | zero => omega
  | succ n => rfl
theorem runP_nw {s : Bs} (h : ∀ c, s.head? = some c → wordB c = false) : runP s = (0, 0) := by
 cases s with
 | nil => rfl
 | cons c s => unfold runP; rw [h c rfl]; rfl
theorem num_nw {s : Bs} (h : runP s = (0, 0)) : numLen s = 0 ∧ nameLen s = 0 := by
 unfold numLen nameLen; rw [h]; simp
theorem sym_same (s r' : Bs) (hs : 0 < symLen s) (hr : ∀ c, r'.head? = some c → c ≠ 62 ∨ (s.drop (symLen s)).head? = some c) :
  symLen (s.take (symLen s) ++ r') = symLen s ∧ symLen s ≤ s.length ∧ ∃ x ∈ syms, s.take (symLen s) = x := by
 cases hq : syms.find? (fun x => x.isPrefixOf s) with
 | none => unfold symLen at hs; rw [hq] at hs; simp at hs
 | some x =>
  have hl : symLen s = x.length := by unfold symLen; rw [hq]
  have hp := List.find?_some hq
  have hm := List.mem_of_find?_eq_some hq
  rw [List.isPrefixOf_iff_prefix] at hp
  obtain ⟨r, rfl⟩ := hp
  rw [hl] at hr ⊢
  simp only [List.take_left, List.drop_left] at *
  refine ⟨?_, by simp, x, hm, rfl⟩
  clear hl hs
  by_cases hd : x = [45]
  ·subst hd
   have h1 : ∀ c, r'.head? = some c → c ≠ 62 := by
    intro c hc
    rcases hr c hc with h | h
    ·exact h
    ·intro e
     subst e
     cases r with
     | nil => simp at h
     | cons d r =>
      simp at h
      subst h
      simp [syms, List.find?] at hq
   unfold symLen
   cases r' with
   | nil => decide
   | cons c r' =>
    have := h1 c rfl
    have h2 : ((62 : UInt8) == c) = false := by simpa using fun e => this e.symm
    simp [syms, List.find?, List.isPrefixOf, h2]
  ·simp only [syms, List.mem_cons, List.not_mem_nil, or_false] at hm
   unfold symLen
   rcases hm with rfl | rfl | rfl | rfl | rfl | rfl | rfl | rfl | rfl | rfl | rfl | rfl | rfl
   all_goals first | (exact absurd rfl hd) | simp [syms, List.find?, List.isPrefixOf]
theorem tokP_same {s : Bs} {n : Nat} {k : Int} {t : Bs} (h : tokP s = some (n, k, t)) (r' : Bs) (hr : ∀ c, r'.head? = some c → (wordB c = false ∧ c ≠ 62) ∨ (s.drop n).head? = some c) :
  tokP (s.take n ++ r') = some (n, k, t) ∧ s.take n = srcT k t ∧ 1 ≤ n ∧ n ≤ s.length := by
 obtain ⟨w1, w2, w3, w4⟩ := runP_self s
 unfold tokP at h
 by_cases c1 : 0 < numLen s
 ·rw [decide_eq_true c1, cond_true] at h
  simp only [Option.some.injEq, Prod.mk.injEq] at h
  obtain ⟨rfl, rfl, rfl⟩ := h
  have e := num_of s c1
  have hr' : runP (s.take (numLen s) ++ r') = runP s := runP_same s r' _ e fun c hc => by
   rcases hr c hc with h | h
   ·exact h.1
   ·exact w2 c (by rw [← e]; exact h)
  refine ⟨?_, rfl, c1, by omega⟩
  unfold tokP
  rw [num_eq hr', decide_eq_true c1, cond_true, List.take_append_of_le_length (by simp; omega), List.take_take, Nat.min_self]
 ·rw [decide_eq_false c1, cond_false] at h
  by_cases c2 : 0 < nameLen s
  ·rw [decide_eq_true c2, cond_true] at h
   simp only [Option.some.injEq, Prod.mk.injEq] at h
   obtain ⟨rfl, rfl, rfl⟩ := h
   have e := name_of s c2
   have hr' : runP (s.take (nameLen s) ++ r') = runP s := runP_same s r' _ e fun c hc => by
    rcases hr c hc with h | h
    ·exact h.1
    ·exact w2 c (by rw [← e]; exact h)
   refine ⟨?_, rfl, c2, by omega⟩
   unfold tokP
   rw [num_eq hr', decide_eq_false c1, cond_false, name_eq hr' (headD_take c2 (by omega)), decide_eq_true c2, cond_true, List.take_append_of_le_length (by simp; omega), List.take_take, Nat.min_self]
  ·rw [decide_eq_false c2, cond_false] at h
   by_cases c3 : 0 < txtLen s
   ·rw [decide_eq_true c3, cond_true] at h
    simp only [Option.some.injEq, Prod.mk.injEq] at h
    obtain ⟨hn, rfl, rfl⟩ := h
    cases s with
    | nil => simp [txtLen] at c3
    | cons b s =>
     have e : ∀ x, txtLen (b :: x) = bif decide (b.toNat = 34) then txt 201 1 x else 0 := fun x => rfl
     by_cases hb : b.toNat = 34
     ·rw [decide_eq_true hb] at e
      simp only [cond_true] at e
      have eb : b = 34 := UInt8.toNat_inj.1 hb
      rw [e] at c3 hn
      obtain ⟨t1, t2⟩ := txt_same 201 1 s r' c3
      have t3 := txt_bd 201 1 s c3
      subst hn
      rw [e] at *
      generalize hm : txt 201 1 s = m at *
      obtain ⟨m, rfl⟩ : ∃ m', m = m' + 2 := ⟨m - 2, by omega⟩
      rw [show m + 2 - 1 = m + 1 by omega] at t1 t2 ⊢
      rw [show m + 1 - 1 = m by omega] at t2
      have hw : ∀ x, runP (b :: x) = (0, 0) := fun x => runP_nw fun c hc => by cases hc; rw [eb]; exact wordB_facts.1
      have hz := fun x => num_nw (hw x)
      refine ⟨?_, ?_, by omega, by simp; omega⟩
      ·rw [show (b :: s).take (m + 2) ++ r' = b :: (s.take (m + 1) ++ r') from rfl]
       unfold tokP
       rw [(hz _).1, (hz _).2, e]
       have e2 : txt 201 1 (s.take (m + 1) ++ r') = m + 2 := t1
       have e3 : List.take (m + 1) s ++ r' = (s.take m ++ [34]) ++ r' := by rw [t2]
       rw [e2]
       have hlen : (s.take m).length = m := by simp; omega
       simp only [Nat.lt_irrefl, decide_false, cond_false, Nat.zero_lt_succ, decide_true, cond_true, Nat.add_sub_cancel, show m + 2 - 1 = m + 1 by omega, List.take_succ_cons, List.drop_succ_cons, List.drop_zero]
       rw [e3, List.append_assoc, List.take_append_of_le_length (by omega), List.take_of_length_le (by omega)]
      ·simp only [List.take_succ_cons, List.drop_succ_cons, List.drop_zero, srcT, decide_true, cond_true]
       rw [t2, eb]
     ·rw [decide_eq_false hb] at e
      rw [e] at c3
      simp at c3
   ·rw [decide_eq_false c3, cond_false] at h
    by_cases c4 : 0 < symLen s
    ·rw [decide_eq_true c4, cond_true] at h
     simp only [Option.some.injEq, Prod.mk.injEq] at h
     obtain ⟨rfl, rfl, rfl⟩ := h
     obtain ⟨s1, s2, x, s3, s4⟩ := sym_same s r' c4 fun c hc => (hr c hc).imp (·.2) id
     refine ⟨?_, rfl, c4, s2⟩
     have hx : ∀ x ∈ syms, ∀ r, (∀ c, (x ++ r).head? = some c → wordB c = false) ∧ txtLen (x ++ r) = 0 := by
      intro x hx r
      simp only [syms, List.mem_cons, List.not_mem_nil, or_false] at hx
      rcases hx with rfl | rfl | rfl | rfl | rfl | rfl | rfl | rfl | rfl | rfl | rfl | rfl | rfl
      all_goals exact ⟨fun c hc => by cases hc; decide, rfl⟩
     obtain ⟨x1, x2⟩ := hx x s3 r'
     have hz := num_nw (runP_nw x1)
     unfold tokP
     rw [s4] at s1 ⊢
     rw [hz.1, hz.2, x2, s1]
     have hlen : x.length = symLen s := by rw [← s4]; simp; omega
     simp only [Nat.lt_irrefl, decide_false, cond_false, c4, decide_true, cond_true]
     rw [List.take_append_of_le_length (by omega), List.take_of_length_le (by omega)]
    ·rw [decide_eq_false c4, cond_false] at h
     cases h
def Bnd (r : Bs) : Prop := ∀ c, r.head? = some c → wordB c = false ∧ c ≠ 62
def Good (k : Int) (t : Bs) : Prop := ∀ r, Bnd r → tokP (srcT k t ++ r) = some ((srcT k t).length, k, t)
theorem tokP_good {s : Bs} {n : Nat} {k : Int} {t : Bs} (h : tokP s = some (n, k, t)) : Good k t ∧ (srcT k t).length = n := by
 obtain ⟨_, h1, h2, h3⟩ := tokP_same h [] fun c hc => by simp at hc
 have hl : (srcT k t).length = n := by rw [← h1]; simp; omega
 refine ⟨fun r hr => ?_, hl⟩
 rw [← h1]
 rw [(tokP_same h r fun c hc => .inl (hr c hc)).1]
 congr 2
 simp; omega
theorem good_pos {k : Int} {t : Bs} (h : Good k t) : 1 ≤ (srcT k t).length := by
 have := h [] (fun c hc => by simp at hc)
 obtain ⟨_, h1, h2, h3⟩ := tokP_same this [] fun c hc => by simp at hc
 exact h2
theorem tokP_head {b : UInt8} {r : Bs} {x : Nat × Int × Bs} (h : tokP (b :: r) = some x) : blankB b = false ∧ b ≠ 37 := by
 have key : ∀ b : UInt8, (b = 32 ∨ b = 9 ∨ b = 10 ∨ b = 13 ∨ b = 37) → tokP (b :: r) = none := by
  intro b hb
  have hw : runP (b :: r) = (0, 0) := runP_nw fun c hc => by
   cases hc
   rcases hb with rfl | rfl | rfl | rfl | rfl <;> decide
  have hz := num_nw hw
  unfold tokP
  rw [hz.1, hz.2]
  rcases hb with rfl | rfl | rfl | rfl | rfl <;> rfl
 have hn : ∀ b' : UInt8, (b' = 32 ∨ b' = 9 ∨ b' = 10 ∨ b' = 13 ∨ b' = 37) → b ≠ b' := fun b' hb' e => by
  rw [e, key b' hb'] at h; cases h
 refine ⟨?_, hn 37 (by simp)⟩
 have e : ∀ (m : UInt8), b ≠ m → decide (b.toNat = m.toNat) = false := fun m hm => decide_eq_false fun q => hm (UInt8.toNat_inj.1 q)
 have e1 := e 32 (hn 32 (by simp))
 have e2 := e 9 (hn 9 (by simp))
 have e3 := e 10 (hn 10 (by simp))
 have e4 := e 13 (hn 13 (by simp))
 unfold blankB
 rw [show (32 : UInt8).toNat = 32 from rfl] at e1
 rw [show (9 : UInt8).toNat = 9 from rfl] at e2
 rw [show (10 : UInt8).toNat = 10 from rfl] at e3
 rw [show (13 : UInt8).toNat = 13 from rfl] at e4
 rw [e1, e2, e3, e4]
 rfl
end Go.Proofs.YtbedaolpfedacaaGreatDoor.Pl
namespace Go.Proofs.YtbedaolpfedacaaGreatDoor.Pl
open Go.Av Go.Av.Net
inductive LexR : Bs → Nat → List Tok → Prop
 | nil {r p} : gap false r = r.length → LexR r p []
 | cons {r p n k t l} : gap false r < r.length → tokP (r.drop (gap false r)) = some (n, k, t) → LexR (r.drop (gap false r + n)) (p + gap false r + n) l → LexR r p (⟨k, t, p + gap false r⟩ :: l)
theorem gap_len : ∀ (b : Bool) (s : Bs), gap b s ≤ s.length
 | _, [] => by simp [gap]
 | false, b :: r => by
  have h1 := gap_len false r
  have h2 := gap_len true r
  unfold gap
  cases blankB b <;> simp
  ·cases decide (b.toNat = 37) <;> simp <;> omega
  ·omega
 | true, b :: r => by
  have h1 := gap_len false r
  have h2 := gap_len true r
  unfold gap
  cases decide (b.toNat = 10) <;> simp <;> omega
theorem lexGo_R (s : Bs) : ∀ (f p c : Nat) (l : List Tok), p ≤ s.length → s.length < p + f → c ≤ 3000 → lexGo s f p c = .ok l → LexR (s.drop p) p l ∧ c + l.length ≤ 3000
 | 0, p, c, l, h1, h2, h3, h => by omega
 | f + 1, p, c, l, h1, h2, h3, h => by
  have hg := gap_len false (s.drop p)
  simp only [List.length_drop] at hg
  unfold lexGo at h
  by_cases c1 : p + gap false (s.drop p) = s.length
  ·rw [decide_eq_true c1, cond_true] at h
   cases h
   exact ⟨.nil (by simp; omega), by simpa using h3⟩
  ·rw [decide_eq_false c1, cond_false] at h
   by_cases c2 : c = 3000
   ·rw [decide_eq_true c2, cond_true] at h; cases h
   ·rw [decide_eq_false c2, cond_false] at h
    cases ht : tokP (s.drop (p + gap false (s.drop p))) with
    | none => rw [ht] at h; cases h
    | some x =>
     obtain ⟨n, k, t⟩ := x
     rw [ht] at h
     simp only at h
     obtain ⟨_, t1, t2, t3⟩ := tokP_same ht [] fun c hc => by simp at hc
     simp only [List.length_drop] at t3
     cases hr : lexGo s f (p + gap false (s.drop p) + n) (c + 1) with
     | err e q => rw [hr] at h; cases h
     | ok r =>
      rw [hr] at h
      cases h
      obtain ⟨i1, i2⟩ := lexGo_R s f _ (c + 1) r (by omega) (by omega) (by omega) hr
      refine ⟨.cons (by simp; omega) (by rw [List.drop_drop]; exact ht) ?_, by simp only [List.length_cons]; omega⟩
      rw [List.drop_drop, ← Nat.add_assoc]
      exact i1
theorem R_lexGo (s : Bs) : ∀ (f p c : Nat) (l : List Tok), p ≤ s.length → s.length < p + f → c + l.length ≤ 3000 → LexR (s.drop p) p l → lexGo s f p c = .ok l
 | 0, p, c, l, h1, h2, h3, h => by omega
 | f + 1, p, c, l, h1, h2, h3, h => by
  have hg := gap_len false (s.drop p)
  simp only [List.length_drop] at hg
  unfold lexGo
  cases h with
  | nil q =>
   rw [List.length_drop] at q
   rw [decide_eq_true (by omega), cond_true]
  | cons q1 q2 q3 =>
   rename_i n k t l
   rw [List.length_drop] at q1
   simp only [List.length_cons] at h3
   rw [decide_eq_false (by omega), cond_false, decide_eq_false (by omega), cond_false]
   rw [List.drop_drop] at q2 q3
   rw [q2]
   simp only
   obtain ⟨_, t1, t2, t3⟩ := tokP_same q2 [] fun c hc => by simp at hc
   simp only [List.length_drop] at t3
   rw [R_lexGo s f (p + gap false (s.drop p) + n) (c + 1) l (by omega) (by omega) (by omega) (by rw [Nat.add_assoc]; rw [Nat.add_assoc] at q3; exact q3)]
   rfl
theorem lexP_iff {s : Bs} {l : List Tok} : lexP s = .ok l ↔ s.length ≤ 8000 ∧ l.length ≤ 3000 ∧ LexR s 0 l := by
 unfold lexP
 constructor
 ·intro h
  by_cases c : 8000 < s.length
  ·rw [decide_eq_true c] at h; cases h
  ·rw [decide_eq_false c, cond_false] at h
   obtain ⟨h1, h2⟩ := lexGo_R s (s.length + 1) 0 0 l (by omega) (by omega) (by omega) h
   exact ⟨by omega, by omega, h1⟩
 ·intro ⟨h1, h2, h3⟩
  rw [decide_eq_false (by omega), cond_false]
  exact R_lexGo s _ 0 0 l (by omega) (by omega) (by omega) h3
def Tok.src (t : Tok) : Bs := srcT t.kind t.text
theorem LexR.pos {r : Bs} {p : Nat} {l : List Tok} (h : LexR r p l) : (∀ t ∈ l, p ≤ t.pos ∧ t.pos + (Tok.src t).length ≤ p + r.length ∧ Good t.kind t.text) ∧ l.Pairwise (fun a b => a.pos + (Tok.src a).length ≤ b.pos) := by
 induction h with
 | nil => simp
 | @cons r p n k t l q1 q2 q3 ih =>
  obtain ⟨i1, i2⟩ := ih
  obtain ⟨g1, g2⟩ := tokP_good q2
  obtain ⟨_, _, t2, t3⟩ := tokP_same q2 [] fun c hc => by simp at hc
  simp only [List.length_drop] at t3 i1
  refine ⟨fun x hx => ?_, List.pairwise_cons.2 ⟨fun x hx => ?_, i2⟩⟩
  ·rcases List.mem_cons.1 hx with rfl | hx
   ·refine ⟨by simp only; omega, ?_, g1⟩
    simp only [Tok.src]
    rw [g2]; omega
   ·obtain ⟨j1, j2, j3⟩ := i1 x hx
    exact ⟨by omega, by omega, j3⟩
  ·obtain ⟨j1, j2, j3⟩ := i1 x hx
   simp only [Tok.src] at *
   rw [g2]; omega
def GapOK (G : Bs) : Prop := (∀ x, gap false (G ++ x) = G.length + gap false x) ∧ Bnd G ∧ G ≠ []
theorem LexR.gapped {G : Bs} (hG : GapOK G) {r : Bs} {p : Nat} {l : List Tok} (h : LexR r (p + G.length) l) : LexR (G ++ r) p l := by
 have e := hG.1 r
 cases h with
 | nil q => exact .nil (by rw [e, q]; simp)
 | @cons r p n k t l q1 q2 q3 =>
  have d : ∀ k, (G ++ r).drop (G.length + k) = r.drop k := fun k => by rw [List.drop_append, List.drop_eq_nil_of_le (by omega)]; simp
  rw [Nat.add_assoc p, ← e] at q3 ⊢
  refine .cons (by rw [e]; simp; omega) (by rw [e, d]; exact q2) ?_
  rw [e, Nat.add_assoc, d]
  rw [e] at q3
  exact q3
theorem gap_tok {k : Int} {t r : Bs} (h : Good k t) (hr : Bnd r) : gap false (srcT k t ++ r) = 0 := by
 have := h r hr
 have hp := good_pos h
 cases hs : srcT k t with
 | nil => rw [hs] at hp; simp at hp
 | cons b s =>
  rw [hs] at this
  obtain ⟨h1, h2⟩ := tokP_head (b := b) (r := s ++ r) this
  have h3 : decide (b.toNat = 37) = false := decide_eq_false fun e => h2 (UInt8.toNat_inj.1 e)
  simp only [List.cons_append]
  unfold gap
  rw [h1, h3]; rfl
theorem LexR.tok {k : Int} {t r : Bs} (h : Good k t) (hr : Bnd r) {p : Nat} {l : List Tok} (hl : LexR r (p + (srcT k t).length) l) : LexR (srcT k t ++ r) p (⟨k, t, p⟩ :: l) := by
 have e := gap_tok h hr
 have hp := good_pos h
 have := LexR.cons (r := srcT k t ++ r) (p := p) (n := (srcT k t).length) (k := k) (t := t) (l := l) (by rw [e]; simp; omega) (by rw [e]; exact h r hr) (by rw [e]; simpa using hl)
 rw [e] at this
 exact this
theorem good_word {x : Bs} (h1 : ∀ b ∈ x, wordB b = true) (h2 : ∃ b ∈ x, digB b = false) (h3 : x.length ≤ 20) (h4 : x.headD 0 ≠ 95) : Good 1 x := by
 intro r hr
 have e := runP_app x r h1 fun c hc => (hr c hc).1
 have hx : 1 ≤ x.length := by obtain ⟨b, hb, _⟩ := h2; exact List.length_pos_of_mem hb
 have hf : (x.filter digB).length ≠ x.length := by
  intro q
  obtain ⟨b, hb, hd⟩ := h2
  have := List.filter_eq_self.1 (List.Sublist.eq_of_length (List.filter_sublist) q) b hb
  rw [hd] at this; cases this
 have hn : numLen (x ++ r) = 0 := by unfold numLen; rw [e]; simp [hf]
 have hm : nameLen (x ++ r) = x.length := by
  unfold nameLen; rw [e]
  have hh : (x ++ r).headD 0 = x.headD 0 := by cases x with
   | nil => simp at hx
   | cons => rfl
  simp only [hf, hh, h4, decide_false, Bool.false_or, Bool.or_false, show ¬ 20 < x.length by omega]; rfl
 unfold tokP srcT
 simp only [show ¬ (1 : Int) = 4 by decide, decide_false, cond_false, hn, hm, Nat.lt_irrefl, hx, show 0 < x.length by omega, decide_true, cond_true, List.take_left]
theorem good_num {x : Bs} (h1 : ∀ b ∈ x, digB b = true) (h2 : 1 ≤ x.length) (h3 : x.length ≤ 8) : Good 2 x := by
 intro r hr
 have e := runP_app x r (fun b hb => by unfold wordB; rw [h1 b hb]; simp) fun c hc => (hr c hc).1
 rw [List.filter_eq_self.2 h1] at e
 have hn : numLen (x ++ r) = x.length := by unfold numLen; rw [e]; simp [show ¬ 8 < x.length by omega]
 unfold tokP srcT
 simp only [show ¬ (2 : Int) = 4 by decide, decide_false, cond_false, hn, show 0 < x.length by omega, decide_true, cond_true, List.take_left]
theorem nmB_word {b : UInt8} (h : (smallB b || digB b || decide (b.toNat = 95)) = true) : wordB b = true := by
 unfold wordB smallB at *
 simp only [Bool.or_eq_true] at h ⊢
 rcases h with (h | h) | h
 ·exact .inl (.inl (.inr h))
 ·exact .inr h
 ·exact .inl (.inr h)
theorem good_name {x : Bs} (h : isNameB x = true) : Good 1 x := by
 unfold isNameB at h
 simp only [Bool.and_eq_true, decide_eq_true_eq, List.all_eq_true] at h
 obtain ⟨⟨⟨⟨h1, h2⟩, h3⟩, h4⟩, h5⟩ := h
 cases x with
 | nil => simp at h1
 | cons b x =>
  simp only [List.headD_cons] at h3
  refine good_word (fun c hc => nmB_word (h4 c hc)) ⟨b, List.mem_cons_self .., ?_⟩ (by omega) ?_
  ·unfold smallB at h3
   unfold digB
   simp only [Bool.and_eq_true, decide_eq_true_eq] at h3
   simp; omega
  ·simp only [List.headD_cons]
   intro e
   subst e
   exact absurd h3 (by decide)
theorem good_sym {x : Bs} (h : x ∈ [s_lb, s_rb, s_semi, s_colon]) : ∀ r, tokP (x ++ r) = some (x.length, 3, x) := by
 intro r
 simp only [List.mem_cons, List.not_mem_nil, or_false] at h
 have key : ∀ c : UInt8, wordB c = false → runP (c :: r) = (0, 0) := fun c hc => runP_nw fun d hd => by cases hd; exact hc
 rcases h with rfl | rfl | rfl | rfl
 all_goals
  unfold tokP
  first
  | rw [show s_lb ++ r = 123 :: r from rfl, (num_nw (key 123 (by decide))).1, (num_nw (key 123 (by decide))).2]
  | rw [show s_rb ++ r = 125 :: r from rfl, (num_nw (key 125 (by decide))).1, (num_nw (key 125 (by decide))).2]
  | rw [show s_semi ++ r = 59 :: r from rfl, (num_nw (key 59 (by decide))).1, (num_nw (key 59 (by decide))).2]
  | rw [show s_colon ++ r = 58 :: r from rfl, (num_nw (key 58 (by decide))).1, (num_nw (key 58 (by decide))).2]
  rfl
end Go.Proofs.YtbedaolpfedacaaGreatDoor.Pl
namespace Go.Proofs.YtbedaolpfedacaaGreatDoor.Pl
open Go.Av Go.Av.Net
theorem lp_inv {σ : Type} {b : Bool} {k : Int} {x : Bs} {B : σ → List KT → Nat → PR σ} (q : σ → Nat) (Q : σ → Prop) (ts : List KT) (h : ∀ s i s' j, i ≤ ts.length → B s ts i = .ok s' j → j ≤ ts.length ∧ q s' + i ≤ q s + j ∧ (Q s → Q s')) :
  ∀ (f : Nat) (s : σ) (i : Nat) (s' : σ) (j : Nat), i ≤ ts.length → lpP b k x B ts f s i = .ok s' j → j ≤ ts.length ∧ q s' + i ≤ q s + j ∧ (Q s → Q s')
 | 0, s, i, s', j, hi, e => by cases e; exact ⟨hi, by omega, id⟩
 | f + 1, s, i, s', j, hi, e => by
  unfold lpP at e
  cases c : (seesP ts k x i == b) with
  | false => rw [c] at e; cases e; exact ⟨hi, by omega, id⟩
  | true =>
   rw [c] at e
   simp only [cond_true] at e
   obtain ⟨s1, j1, e1, e2⟩ := PR.bind_ok e
   obtain ⟨h0, h1, h2⟩ := h s i s1 j1 hi e1
   obtain ⟨h3, h4, h5⟩ := lp_inv q Q ts h f s1 j1 s' j h0 e2
   exact ⟨h3, by omega, fun q => h5 (h2 q)⟩
theorem Par.ok_le {α : Type} {P : List KT → Nat → PR α} (h : Par P) {ts : List KT} {i j : Nat} {a : α} (hi : i ≤ ts.length) (e : P ts i = .ok a j) : i ≤ j ∧ j ≤ ts.length := by
 have hb := (h.eb ts [] i hi).1
 rw [e] at hb
 exact hb
theorem hols_len {ts : List KT} {i j : Nat} {l : List Int} (hi : i ≤ ts.length) (e : holsP ts ts.length i = .ok l j) : l.length ≤ ts.length := by
 have h : lpP true 1 w_holiday holB ts ts.length [] i = .ok l j := by rw [hols_lp, e]; simp [PR.bind]
 have := lp_inv List.length (fun _ => True) ts (fun s i s' j hi e => by
  have hle := (par_holB s).ok_le hi e
  have hlt : i < j := lt_expect e fun a j => (par_int.bind fun n => (par_expect 3 s_semi).bind fun _ => Par.ok (s ++ [n])).up ts j
  unfold holB at e
  obtain ⟨_, _, _, e⟩ := PR.bind_ok e
  obtain ⟨_, _, _, e⟩ := PR.bind_ok e
  obtain ⟨_, _, _, e⟩ := PR.bind_ok e
  cases e
  exact ⟨hle.2, by simp; omega, id⟩) _ _ _ _ _ hi h
 simp only [List.length_nil] at this
 omega
theorem codes_len {ts : List KT} {i j : Nat} {l : List Bs} (hi : i ≤ ts.length) (e : codesP ts (ts.length + 1) i = .ok l j) : l.length + i ≤ j := by
 have h : lpP false 3 s_semi codB ts (ts.length + 1) [] i = .ok l j := by rw [codes_lp, e]; simp [PR.bind]
 have := lp_inv List.length (fun _ => True) ts (fun s i s' j hi e => by
  have hle := (par_codB s).ok_le hi e
  unfold codB at e
  obtain ⟨_, _, e1, e⟩ := PR.bind_ok e
  have := code_to e1
  cases e
  exact ⟨hle.2, by simp; omega, id⟩) _ _ _ _ _ hi h
 simp only [List.length_nil] at this
 omega
theorem codesAll_len {ts : List KT} {i j : Nat} {l : List Bs} (hi : i ≤ ts.length) (e : codesAllP ts i = .ok l j) : l.length ≤ ts.length := by
 have hj := par_codesAll.ok_le hi e
 unfold codesAllP at e
 cases c : seesP ts 1 w_codes i with
 | false => rw [c] at e; cases e; simp
 | true =>
  rw [c] at e
  simp only [cond_true] at e
  obtain ⟨_, j1, e1, e⟩ := PR.bind_ok e
  have l1 := ((par_expect 1 w_codes).ok_le hi e1).2
  obtain ⟨_, j2, e2, e⟩ := PR.bind_ok e
  have l2 := (par_code.ok_le l1 e2).2
  have := code_to e2
  obtain ⟨_, j3, e3, e⟩ := PR.bind_ok e
  have l3 := codes_len l2 e3
  have l4 := (par_codes.ok_le l2 e3).2
  obtain ⟨_, _, _, e⟩ := PR.bind_ok e
  cases e
  simp only [List.length_cons]
  omega
structure Szs (L : Nat) (n : Nw) : Prop where
 hols : ∀ c ∈ n.cals, c.hols.length ≤ L
 codes : ∀ o ∈ n.offs, o.codes.length ≤ L
theorem cal_hols {ts : List KT} {i j : Nat} {c : Bs × Cal} (hi : i ≤ ts.length) (e : calP ts i = .ok c j) : c.2.hols.length ≤ ts.length := by
 unfold calP at e
 obtain ⟨_, j1, e1, e⟩ := PR.bind_ok e
 have l := ((par_expect 1 w_calendar).ok_le hi e1).2
 obtain ⟨_, j2, e1, e⟩ := PR.bind_ok e
 have l := (par_name.ok_le l e1).2
 obtain ⟨_, j3, e1, e⟩ := PR.bind_ok e
 have l := ((par_expect 3 s_lb).ok_le l e1).2
 obtain ⟨_, j4, e1, e⟩ := PR.bind_ok e
 have l := ((par_expect 1 w_zone).ok_le l e1).2
 obtain ⟨_, j5, e1, e⟩ := PR.bind_ok e
 have l := (par_int.ok_le l e1).2
 obtain ⟨_, j6, e1, e⟩ := PR.bind_ok e
 have l := ((par_expect 3 s_semi).ok_le l e1).2
 obtain ⟨_, j7, e1, e⟩ := PR.bind_ok e
 have l := ((par_expect 1 w_week).ok_le l e1).2
 obtain ⟨_, j8, e1, e⟩ := PR.bind_ok e
 have l := (par_week.ok_le l e1).2
 obtain ⟨_, j9, e1, e⟩ := PR.bind_ok e
 have l := ((par_expect 3 s_semi).ok_le l e1).2
 obtain ⟨hs, j10, e1, e⟩ := PR.bind_ok e
 have := hols_len l e1
 obtain ⟨_, j11, _, e⟩ := PR.bind_ok e
 cases e
 exact this
theorem off_codes {ts : List KT} {n : Nw} {i j : Nat} {c : Off} (hi : i ≤ ts.length) (e : offP ts n i = .ok c j) : c.codes.length ≤ ts.length := by
 unfold offP at e
 obtain ⟨_, j1, e1, e⟩ := PR.bind_ok e
 have l := ((par_expect 1 w_office).ok_le hi e1).2
 obtain ⟨_, j2, e1, e⟩ := PR.bind_ok e
 have l := (par_name.ok_le l e1).2
 obtain ⟨_, j3, e1, e⟩ := PR.bind_ok e
 have l := ((par_expect 3 s_lb).ok_le l e1).2
 obtain ⟨_, j4, e1, e⟩ := PR.bind_ok e
 have l := ((par_expect 1 w_operator).ok_le l e1).2
 obtain ⟨_, j5, e1, e⟩ := PR.bind_ok e
 have l := ((par_ref _).ok_le l e1).2
 obtain ⟨_, j6, e1, e⟩ := PR.bind_ok e
 have l := ((par_expect 3 s_semi).ok_le l e1).2
 obtain ⟨_, j7, e1, e⟩ := PR.bind_ok e
 have l := ((par_expect 1 w_calendar).ok_le l e1).2
 obtain ⟨_, j8, e1, e⟩ := PR.bind_ok e
 have l := ((par_ref _).ok_le l e1).2
 obtain ⟨_, j9, e1, e⟩ := PR.bind_ok e
 have l := ((par_expect 3 s_semi).ok_le l e1).2
 obtain ⟨_, j10, e1, e⟩ := PR.bind_ok e
 have l := ((par_field w_pockets).ok_le l e1).2
 obtain ⟨_, j11, e1, e⟩ := PR.bind_ok e
 have l := ((par_field w_passes).ok_le l e1).2
 obtain ⟨_, j12, e1, e⟩ := PR.bind_ok e
 have l := ((par_field w_minutes).ok_le l e1).2
 obtain ⟨_, j13, e1, e⟩ := PR.bind_ok e
 have := codesAll_len l e1
 obtain ⟨_, j14, _, e⟩ := PR.bind_ok e
 cases e
 exact this
theorem mem_snoc {α : Type} {Q : α → Prop} {x : α} {l : List α} (hl : ∀ y ∈ l, Q y) (hx : Q x) : ∀ y ∈ l ++ [x], Q y := by
 intro y hy
 rcases List.mem_append.1 hy with hy | hy
 ·exact hl y hy
 ·rw [List.mem_singleton.1 hy]; exact hx
theorem net_small {ts : List KT} {N : Nw} {L : Nat} (h : netP ts = .ok N L) : szN N ≤ ts.length ∧ Szs ts.length N := by
 rw [netP_eq] at h
 unfold netQ sec at h
 obtain ⟨n1, j1, e1, h⟩ := PR.bind_ok h
 obtain ⟨n2, j2, e2, h⟩ := PR.bind_ok h
 obtain ⟨n3, j3, e3, h⟩ := PR.bind_ok h
 obtain ⟨n4, j4, e4, h⟩ := PR.bind_ok h
 obtain ⟨n5, j5, e5, h⟩ := PR.bind_ok h
 obtain ⟨a0, a1, a2⟩ := lp_inv szN (Szs ts.length) ts (fun s i s' j hi e => by
  have h1 := (clo_calS s).toPar.ok_le hi e
  have h2 := (clo_calS s).st _ _ _ _ e
  obtain ⟨c, k, e1, e⟩ := PR.bind_ok e
  cases e
  have := cal_hols hi e1
  exact ⟨h1.2, by simp [szN]; omega, fun q => ⟨mem_snoc q.hols this, q.codes⟩⟩) _ _ _ _ _ (Nat.zero_le _) e1
 obtain ⟨b0, b1, b2⟩ := lp_inv szN (Szs ts.length) ts (fun s i s' j hi e => by
  have h1 := (clo_operS s).toPar.ok_le hi e
  have h2 := (clo_operS s).st _ _ _ _ e
  obtain ⟨c, k, e1, e⟩ := PR.bind_ok e
  cases e
  exact ⟨h1.2, by simp [szN]; omega, fun q => ⟨q.hols, q.codes⟩⟩) _ _ _ _ _ a0 e2
 obtain ⟨c0, c1, c2⟩ := lp_inv szN (Szs ts.length) ts (fun s i s' j hi e => by
  have h1 := (clo_offS s).toPar.ok_le hi e
  have h2 := (clo_offS s).st _ _ _ _ e
  obtain ⟨c, k, e1, e⟩ := PR.bind_ok e
  cases e
  have := off_codes hi e1
  exact ⟨h1.2, by simp [szN]; omega, fun q => ⟨q.hols, mem_snoc q.codes this⟩⟩) _ _ _ _ _ b0 e3
 obtain ⟨d0, d1, d2⟩ := lp_inv szN (Szs ts.length) ts (fun s i s' j hi e => by
  have h1 := (clo_linS s).toPar.ok_le hi e
  have h2 := (clo_linS s).st _ _ _ _ e
  obtain ⟨c, k, e1, e⟩ := PR.bind_ok e
  cases e
  exact ⟨h1.2, by simp [szN]; omega, fun q => ⟨q.hols, q.codes⟩⟩) _ _ _ _ _ c0 e4
 obtain ⟨f0, f1, f2⟩ := lp_inv szN (Szs ts.length) ts (fun s i s' j hi e => by
  have h1 := (clo_clsS s).toPar.ok_le hi e
  have h2 := (clo_clsS s).st _ _ _ _ e
  obtain ⟨c, k, e1, e⟩ := PR.bind_ok e
  cases e
  exact ⟨h1.2, by simp [szN]; omega, fun q => ⟨q.hols, q.codes⟩⟩) _ _ _ _ _ d0 e5
 unfold finP at h
 cases c : decide (j5 < ts.length) <;> rw [c] at h <;> cases h
 have z : szN nw0 = 0 := rfl
 exact ⟨by omega, f2 (d2 (c2 (b2 (a2 ⟨by simp [nw0], by simp [nw0]⟩))))⟩
end Go.Proofs.YtbedaolpfedacaaGreatDoor.Pl
namespace Go.Proofs.YtbedaolpfedacaaGreatDoor.Pl
open Go.Av Go.Av.Net
def symL : List Bs := [[123], [125], [40], [41], [91], [93], [44], [59], [58], [61], [45, 62], [46], [45]]
def symB (s : Bs) : Bool := symL.any (fun x => decide (x = s))
def inner (b : UInt8) : Bool := decide (32 ≤ b.toNat) && decide (b.toNat ≤ 126) && !decide (b.toNat = 34)
def quotB (s : Bs) : Bool := decide (2 ≤ s.length) && decide (s.length ≤ 202) && decide ((s.headD 0).toNat = 34) && decide ((s.getD (s.length - 1) 0).toNat = 34) && ((s.take (s.length - 1)).drop 1).all inner
def runK (s : Bs) : Int :=
 bif !s.all wordB || decide (s.length = 0) || decide ((s.headD 0).toNat = 95) then 0
 else bif s.all digB && decide (s.length ≤ 8) then 2 else bif !s.all digB && decide (s.length ≤ 20) then 1 else 0
def kindR (s : Bs) : Int × Bs := bif symB s then (3, s) else bif quotB s then (4, (s.take (s.length - 1)).drop 1) else bif decide (runK s = 0) then (0, []) else (runK s, s)
def okR (s : Bs) (n : Nat) : Bool := !decide ((kindR (s.take n)).1 = 0) && !((decide ((kindR (s.take n)).1 = 1) || decide ((kindR (s.take n)).1 = 2)) && decide (n < s.length) && wordB (s.getD n 0))
theorem sym_facts : ∀ x ∈ syms, symB x = true ∧ wordB (x.headD 0) = false ∧ (x.headD 0).toNat ≠ 34 ∧ 1 ≤ x.length ∧ x.length ≤ 2 := by decide
theorem symB_mem {s : Bs} (h : symB s = true) : s ∈ syms := by
 simp only [symB, symL, List.any_cons, List.any_nil, Bool.or_eq_true, decide_eq_true_eq, Bool.or_false] at h
 rcases h with h | h | h | h | h | h | h | h | h | h | h | h | h <;> subst h <;> decide
theorem symB_false {s : Bs} (h : wordB (s.headD 0) = true ∨ (s.headD 0).toNat = 34) : symB s = false := by
 rw [Bool.eq_false_iff]
 intro q
 obtain ⟨_, h2, h3, _⟩ := sym_facts s (symB_mem q)
 rcases h with h | h
 ·rw [h] at h2; cases h2
 ·exact h3 h
theorem all_filter {s : Bs} : (s.filter digB).length = s.length ↔ s.all digB = true := by
 constructor
 ·intro h
  rw [List.all_eq_true]
  exact List.filter_eq_self.1 (List.filter_sublist.eq_of_length h)
 ·intro h
  rw [List.all_eq_true] at h
  rw [List.filter_eq_self.2 h]
theorem word_head {s : Bs} (h : s.all wordB = true) (hs : 1 ≤ s.length) : wordB (s.headD 0) = true := by
 cases s with
 | nil => simp at hs
 | cons b s => simp at h; exact h.1
theorem w34 {b : UInt8} (h : wordB b = true) : b.toNat ≠ 34 := by
 intro e
 have : b = 34 := UInt8.toNat_inj.1 e
 subst this
 exact absurd h (by decide)
theorem kind_run {s : Bs} (h : s.all wordB = true) (hs : 1 ≤ s.length) : kindR s = bif decide (runK s = 0) then (0, []) else (runK s, s) := by
 have hw := word_head h hs
 unfold kindR
 rw [symB_false (.inl hw)]
 have : quotB s = false := by unfold quotB; rw [decide_eq_false (w34 hw)]; simp
 rw [this]
 rfl
theorem runK_of {s : Bs} (h : s.all wordB = true) (hs : 1 ≤ s.length) (h95 : (s.headD 0).toNat ≠ 95) : runK s = bif s.all digB && decide (s.length ≤ 8) then 2 else bif !s.all digB && decide (s.length ≤ 20) then 1 else 0 := by
 unfold runK
 rw [h, decide_eq_false (show ¬ s.length = 0 by omega), decide_eq_false h95]
 rfl
theorem dig_head {s : Bs} (h : s.all digB = true) (hs : 1 ≤ s.length) : (s.headD 0).toNat ≠ 95 := by
 cases s with
 | nil => simp at hs
 | cons b s =>
  simp at h
  have := h.1
  simp [digB] at this
  simp; omega
theorem txt_inner : ∀ (m f i : Nat) (r : Bs), (r.take m).all inner = true → (r.getD m 0).toNat = 34 → m < r.length → m < f → txt f i r = i + m + 1
 | m, 0, i, r, _, _, _, h => by omega
 | m, f + 1, i, [], _, _, h, _ => by simp at h
 | 0, f + 1, i, b :: r, _, h, _, _ => by
  unfold txt; simp at h; rw [decide_eq_true h]; rfl
 | m + 1, f + 1, i, b :: r, h1, h2, h3, h4 => by
  simp only [List.take_succ_cons, List.all_cons, Bool.and_eq_true] at h1
  have hi := h1.1
  unfold inner at hi
  simp only [Bool.and_eq_true, decide_eq_true_eq, Bool.not_eq_true', decide_eq_false_iff_not] at hi
  rw [show txt (f + 1) i (b :: r) = bif decide (b.toNat = 34) then i + 1 else bif decide (b.toNat < 32) || decide (126 < b.toNat) then 0 else txt f (i + 1) r from rfl]
  rw [decide_eq_false hi.2, decide_eq_false (by omega), decide_eq_false (by omega)]
  simp only [cond_false, Bool.or_false]
  rw [txt_inner m f (i + 1) r h1.2 (by simpa using h2) (by simpa using h3) (by omega)]
  omega
theorem inner_txt : ∀ (f i : Nat) (r : Bs), 0 < txt f i r → (r.take (txt f i r - i - 1)).all inner = true
 | 0, i, r, h => by simp [txt] at h
 | f + 1, i, [], h => by simp [txt] at h
 | f + 1, i, b :: r, h => by
  rw [show txt (f + 1) i (b :: r) = bif decide (b.toNat = 34) then i + 1 else bif decide (b.toNat < 32) || decide (126 < b.toNat) then 0 else txt f (i + 1) r from rfl] at *
  by_cases h1 : b.toNat = 34
  ·rw [decide_eq_true h1, cond_true, show i + 1 - i - 1 = 0 by omega]; simp
  ·rw [decide_eq_false h1, cond_false] at *
   cases q : (decide (b.toNat < 32) || decide (126 < b.toNat)) with
   | true => rw [q] at h; simp at h
   | false =>
    rw [q] at h
    simp only [cond_false] at h ⊢
    have hb := txt_bd f (i + 1) r h
    have hi := inner_txt f (i + 1) r h
    obtain ⟨m, hm⟩ : ∃ m, txt f (i + 1) r = i + 2 + m := ⟨txt f (i + 1) r - i - 2, by omega⟩
    rw [hm] at hi ⊢
    rw [show i + 2 + m - (i + 1) - 1 = m by omega] at hi
    rw [show i + 2 + m - i - 1 = m + 1 by omega, List.take_succ_cons, List.all_cons, hi]
    simp only [Bool.or_eq_false_iff, decide_eq_false_iff_not] at q
    simp only [inner, Bool.and_true, Bool.and_eq_true, decide_eq_true_eq, Bool.not_eq_true', decide_eq_false_iff_not]
    omega
theorem txt_f : ∀ (f i : Nat) (r : Bs), txt f i r ≤ i + f
 | 0, i, r => by simp [txt]
 | f + 1, i, [] => by simp [txt]
 | f + 1, i, b :: r => by
  have := txt_f f (i + 1) r
  unfold txt
  cases decide (b.toNat = 34) <;> cases (decide (b.toNat < 32) || decide (126 < b.toNat)) <;> simp <;> omega
theorem take_word {s : Bs} : (s.take (runP s).1).all wordB = true := List.all_eq_true.2 (runP_self s).1
theorem run_next {s : Bs} {n : Nat} (hn : n = (runP s).1) (h : n < s.length) : wordB (s.getD n 0) = false := by
 have := (runP_self s).2.1
 subst hn
 refine this _ ?_
 rw [List.drop_eq_getElem_cons h]
 simp [List.getD, h]
theorem tok_kind {s : Bs} {n : Nat} {k : Int} {t : Bs} (h : tokP s = some (n, k, t)) : kindR (s.take n) = (k, t) ∧ k ≠ 0 ∧ okR s n = true ∧ 1 ≤ n ∧ n ≤ s.length ∧ n ≤ 202 := by
 obtain ⟨_, _, b1, b2⟩ := tokP_same h [] fun c hc => by simp at hc
 suffices hk : kindR (s.take n) = (k, t) ∧ k ≠ 0 ∧ n ≤ 202 ∧ ((k = 1 ∨ k = 2) → n < s.length → wordB (s.getD n 0) = false) by
  obtain ⟨h1, h2, h3, h4⟩ := hk
  refine ⟨h1, h2, ?_, b1, b2, h3⟩
  unfold okR
  rw [h1]
  simp only [decide_eq_false h2, Bool.not_false, Bool.true_and, Bool.not_eq_true']
  by_cases c1 : k = 1 ∨ k = 2
  ·by_cases c2 : n < s.length
   ·rw [h4 c1 c2]; simp
   ·simp [c2]
  ·simp only [not_or] at c1
   simp [c1]
 obtain ⟨w1, w2, w3, w4⟩ := runP_self s
 unfold tokP at h
 by_cases c1 : 0 < numLen s
 ·rw [decide_eq_true c1, cond_true] at h
  simp only [Option.some.injEq, Prod.mk.injEq] at h
  obtain ⟨rfl, rfl, rfl⟩ := h
  have e := num_of s c1
  have hl : (s.take (numLen s)).length = numLen s := by simp; omega
  have ha : (s.take (numLen s)).all wordB = true := by rw [e]; exact take_word
  have hc : (runP s).2 = (runP s).1 ∧ (runP s).1 ≤ 8 := by
   unfold numLen at c1
   by_cases q : (runP s).2 = (runP s).1
   ·by_cases q2 : 8 < (runP s).1
    ·simp [q, q2] at c1
    ·exact ⟨q, by omega⟩
   ·simp [q] at c1
  have hd : (s.take (numLen s)).all digB = true := by
   rw [← all_filter, hl]
   rw [e, ← w4]; exact hc.1
  refine ⟨?_, by decide, by omega, fun _ hlt => run_next e hlt⟩
  rw [kind_run ha (by omega), runK_of ha (by omega) (dig_head hd (by omega)), hd, hl, decide_eq_true (show numLen s ≤ 8 by omega)]
  rfl
 ·rw [decide_eq_false c1, cond_false] at h
  by_cases c2 : 0 < nameLen s
  ·rw [decide_eq_true c2, cond_true] at h
   simp only [Option.some.injEq, Prod.mk.injEq] at h
   obtain ⟨rfl, rfl, rfl⟩ := h
   have e := name_of s c2
   have hl : (s.take (nameLen s)).length = nameLen s := by simp; omega
   have ha : (s.take (nameLen s)).all wordB = true := by rw [e]; exact take_word
   have hc : (runP s).2 ≠ (runP s).1 ∧ (runP s).1 ≤ 20 ∧ s.headD 0 ≠ 95 := by
    unfold nameLen at c2
    by_cases q : (runP s).2 = (runP s).1
    ·simp [q] at c2
    ·by_cases q2 : 20 < (runP s).1
     ·simp [q2] at c2
     ·by_cases q3 : s.headD 0 = 95
      ·simp only [q3, decide_true, Bool.or_true, cond_true] at c2; omega
      ·exact ⟨q, by omega, q3⟩
   have hd : (s.take (nameLen s)).all digB = false := by
    rw [Bool.eq_false_iff]
    intro q
    rw [← all_filter, hl] at q
    rw [e, ← w4] at q
    exact hc.1 q
   have hh : (s.take (nameLen s)).headD 0 = s.headD 0 := by have := headD_take (s := s) (r' := []) c2 (by omega); rwa [List.append_nil] at this
   have h95 : ((s.take (nameLen s)).headD 0).toNat ≠ 95 := by rw [hh]; exact fun q => hc.2.2 (UInt8.toNat_inj.1 q)
   refine ⟨?_, by decide, by omega, fun _ hlt => run_next e hlt⟩
   rw [kind_run ha (by omega), runK_of ha (by omega) h95, hd, hl, decide_eq_true (show nameLen s ≤ 20 by omega)]
   rfl
  ·rw [decide_eq_false c2, cond_false] at h
   by_cases c3 : 0 < txtLen s
   ·rw [decide_eq_true c3, cond_true] at h
    simp only [Option.some.injEq, Prod.mk.injEq] at h
    obtain ⟨hn, rfl, rfl⟩ := h
    cases s with
    | nil => simp [txtLen] at c3
    | cons b s =>
     have e : txtLen (b :: s) = bif decide (b.toNat = 34) then txt 201 1 s else 0 := rfl
     by_cases hb : b.toNat = 34
     ·rw [decide_eq_true hb] at e
      simp only [cond_true] at e
      rw [e] at c3 hn
      have t3 := txt_bd 201 1 s c3
      have t4 := txt_f 201 1 s
      have t5 := inner_txt 201 1 s c3
      have t6 := (txt_same 201 1 s [] c3).2
      rw [e] at *
      subst hn
      generalize txt 201 1 s = n at *
      obtain ⟨m, rfl⟩ : ∃ m, n = m + 2 := ⟨n - 2, by omega⟩
      rw [show m + 2 - 1 = m + 1 by omega] at t6 ⊢
      rw [show m + 1 - 1 = m by omega] at t6
      rw [show m + 2 - 1 - 1 = m by omega] at t5
      refine ⟨?_, by decide, by omega, fun h => absurd h (by decide)⟩
      have hl : ((b :: s).take (m + 2)).length = m + 2 := by simp at t3 ⊢; omega
      unfold kindR
      rw [symB_false (.inr (by simpa using hb))]
      have hq : quotB ((b :: s).take (m + 2)) = true := by
       unfold quotB
       rw [hl]
       rw [decide_eq_true (show 2 ≤ m + 2 by omega), decide_eq_true (show m + 2 ≤ 202 by omega)]
       simp only [List.take_succ_cons, List.headD_cons, decide_eq_true hb, Bool.true_and, Bool.and_eq_true, decide_eq_true_eq]
       have hlm : (s.take m).length = m := by simp at t3 ⊢; omega
       refine ⟨⟨decide_eq_true hb, decide_eq_true ?_⟩, ?_⟩
       ·show ((b :: List.take (m + 1) s).getD (m + 1) 0).toNat = 34
        rw [List.getD_cons_succ, t6]
        have : (s.take m ++ [34]).getD m 0 = 34 := by
         rw [List.getD, List.getElem?_append_right (by omega), hlm]; simp
        rw [this]; rfl
       ·rw [show m + 2 - 1 = m + 1 by omega, List.take_succ_cons, List.drop_succ_cons, List.drop_zero, List.take_take, Nat.min_eq_left (by omega)]
        exact t5
      rw [hq, hl, show m + 2 - 1 = m + 1 by omega, List.take_take, Nat.min_eq_left (by omega)]
      rfl
     ·rw [decide_eq_false hb] at e
      rw [e] at c3
      simp at c3
   ·rw [decide_eq_false c3, cond_false] at h
    by_cases c4 : 0 < symLen s
    ·rw [decide_eq_true c4, cond_true] at h
     simp only [Option.some.injEq, Prod.mk.injEq] at h
     obtain ⟨rfl, rfl, rfl⟩ := h
     obtain ⟨_, s2, x, s3, s4⟩ := sym_same s [] c4 fun c hc => by simp at hc
     obtain ⟨f1, f2, f3, f4, f5⟩ := sym_facts x s3
     have hl : (s.take (symLen s)).length = symLen s := by simp; omega
     rw [s4] at hl ⊢
     refine ⟨?_, by decide, by omega, fun h => absurd h (by decide)⟩
     unfold kindR
     rw [f1]
     rfl
    ·rw [decide_eq_false c4, cond_false] at h
     cases h
theorem head_take {s : Bs} {m : Nat} (hm : 0 < m) : (s.take m).headD 0 = s.headD 0 := by
 cases s with
 | nil => simp
 | cons b s => cases m with
  | zero => omega
  | succ m => rfl
theorem tok_max {s : Bs} {m : Nat} (hm : 0 < m) (hml : m ≤ s.length) (h : okR s m = true) : ∃ n k t, tokP s = some (n, k, t) ∧ m ≤ n := by
 unfold okR at h
 simp only [Bool.and_eq_true, Bool.not_eq_true', decide_eq_false_iff_not] at h
 obtain ⟨h1, h2⟩ := h
 have hl : (s.take m).length = m := by simp; omega
 have hh := head_take (s := s) hm
 by_cases c1 : symB (s.take m) = true
 ·have hx := symB_mem c1
  obtain ⟨_, f2, f3, f4, f5⟩ := sym_facts _ hx
  rw [hh] at f2 f3
  have hw : runP s = (0, 0) := runP_nw fun c hc => by cases s with
   | nil => simp at hc
   | cons b s => cases hc; exact f2
  have hz := num_nw hw
  have ht : txtLen s = 0 := by cases s with
   | nil => rfl
   | cons b s =>
    simp only [List.headD_cons] at f3
    rw [show txtLen (b :: s) = bif decide (b.toNat = 34) then txt 201 1 s else 0 from rfl, decide_eq_false f3]; rfl
  have hsym : m ≤ symLen s := by
   have hp : (s.take m).isPrefixOf s = true := by rw [List.isPrefixOf_iff_prefix]; exact List.take_prefix m s
   cases hf : syms.find? (fun x => x.isPrefixOf s) with
   | none =>
    have := List.find?_eq_none.1 hf _ hx
    exact absurd hp this
   | some y =>
    have hy : symLen s = y.length := by unfold symLen; rw [hf]
    have hym := List.mem_of_find?_eq_some hf
    have hy1 := (sym_facts y hym).2.2.2.1
    by_cases c : m = 1
    ·omega
    ·have hm2 : m = 2 := by omega
     have hx2 : ∀ x ∈ syms, x.length = 2 → x = [45, 62] := by decide
     have e := hx2 _ hx (by omega)
     rw [e] at hp
     have : syms.find? (fun x => x.isPrefixOf s) = some [45, 62] := by
      unfold syms
      rw [List.find?_cons, hp]
     rw [hf] at this
     cases this
     rw [hy]; simp; omega
  refine ⟨symLen s, 3, s.take (symLen s), ?_, hsym⟩
  unfold tokP
  rw [hz.1, hz.2, ht]
  simp [show 0 < symLen s by omega]
 ·have c1 : symB (s.take m) = false := by simpa using c1
  by_cases c2 : quotB (s.take m) = true
  ·unfold quotB at c2
   simp only [Bool.and_eq_true, decide_eq_true_eq] at c2
   obtain ⟨⟨⟨⟨q1, q2⟩, q3⟩, q4⟩, q5⟩ := c2
   rw [hl] at *
   cases s with
   | nil => simp at hml; omega
   | cons b s =>
    obtain ⟨m, rfl⟩ : ∃ m', m = m' + 2 := ⟨m - 2, by omega⟩
    rw [hh] at q3
    simp only [List.headD_cons] at q3
    simp only [List.length_cons] at hml
    rw [show m + 2 - 1 = m + 1 by omega] at *
    simp only [List.take_succ_cons, List.getD_cons_succ, List.drop_succ_cons, List.drop_zero] at q4 q5
    have e : txt 201 1 s = m + 2 := by
     rw [txt_inner m 201 1 s ?_ ?_ (by omega) (by omega)]
     ·omega
     ·rw [List.take_take, Nat.min_eq_left (by omega)] at q5; exact q5
     ·rw [← q4]; simp [List.getD]
    have hw : runP (b :: s) = (0, 0) := runP_nw fun c hc => by cases hc; rw [show b = 34 from UInt8.toNat_inj.1 q3]; decide
    have hz := num_nw hw
    have ht : txtLen (b :: s) = m + 2 := by rw [show txtLen (b :: s) = bif decide (b.toNat = 34) then txt 201 1 s else 0 from rfl, decide_eq_true q3]; exact e
    refine ⟨m + 2, 4, ((b :: s).take (m + 1)).drop 1, ?_, Nat.le_refl _⟩
    unfold tokP
    rw [hz.1, hz.2, ht]
    simp
  ·have c2 : quotB (s.take m) = false := by simpa using c2
   have hk : kindR (s.take m) = bif decide (runK (s.take m) = 0) then (0, []) else (runK (s.take m), s.take m) := by unfold kindR; rw [c1, c2]; rfl
   have hr : runK (s.take m) ≠ 0 := by
    intro q
    rw [hk, q] at h1
    exact h1 rfl
   rw [hk, decide_eq_false hr] at h2
   simp only [cond_false] at h2
   have hr2 := hr
   unfold runK at hr2
   cases a1 : (s.take m).all wordB with
   | false => rw [a1] at hr2; simp at hr2
   | true =>
    by_cases a2 : ((s.take m).headD 0).toNat = 95
    ·rw [a2] at hr2; simp at hr2
    ·have hrk := runK_of a1 (by omega) a2
     have hkk : runK (s.take m) = 1 ∨ runK (s.take m) = 2 := by
      rw [hrk] at hr ⊢
      revert hr
      cases (s.take m).all digB <;> cases decide ((s.take m).length ≤ 8) <;> cases decide ((s.take m).length ≤ 20) <;> simp
     have hstop : ∀ c, (s.drop m).head? = some c → wordB c = false := by
      intro c hc
      by_cases hlt : m < s.length
      ·rw [decide_eq_true hlt] at h2
       have e : (decide (runK (s.take m) = 1) || decide (runK (s.take m) = 2)) = true := by simpa using hkk
       rw [e] at h2
       simp only [Bool.true_and] at h2
       rw [List.drop_eq_getElem_cons hlt] at hc
       cases hc
       simpa [List.getD, hlt] using h2
      ·rw [List.drop_eq_nil_of_le (by omega)] at hc; simp at hc
     have hrun : runP s = (m, ((s.take m).filter digB).length) := by
      have := runP_app (s.take m) (s.drop m) (List.all_eq_true.1 a1) hstop
      rw [List.take_append_drop, hl] at this
      exact this
     rw [hh] at a2
     cases a3 : (s.take m).all digB with
     | true =>
      rw [hrk, a3, hl] at hr
      have h8 : m ≤ 8 := by
       by_cases q : m ≤ 8
       ·exact q
       ·simp [q] at hr
      have hf := all_filter.2 a3
      rw [hl] at hf
      have hn : numLen s = m := by unfold numLen; rw [hrun, hf]; simp [show ¬ 8 < m by omega]
      refine ⟨m, 2, s.take m, ?_, Nat.le_refl _⟩
      unfold tokP
      rw [hn, decide_eq_true hm]
      rfl
     | false =>
      rw [hrk, a3, hl] at hr
      have h20 : m ≤ 20 := by
       by_cases q : m ≤ 20
       ·exact q
       ·simp [q] at hr
      have hf : ((s.take m).filter digB).length ≠ m := by
       intro q
       rw [← hl] at q
       rw [hl] at q
       have := all_filter.1 (q.trans hl.symm)
       rw [a3] at this; cases this
      have hn : numLen s = 0 := by unfold numLen; rw [hrun]; simp [hf]
      have hnm : nameLen s = m := by
       unfold nameLen; rw [hrun]
       have : s.headD 0 ≠ 95 := fun q => a2 (by rw [q]; rfl)
       simp only [hf, this, decide_false, Bool.false_or, Bool.or_false, show ¬ 20 < m by omega]; rfl
      refine ⟨m, 1, s.take m, ?_, Nat.le_refl _⟩
      unfold tokP
      rw [hn, hnm, decide_eq_true hm]
      rfl
theorem next_eq {s : Bs} {n : Nat} (hn : 0 < n) (hl : n ≤ s.length) (h : okR s n = true) (hmax : ∀ m, n < m → m ≤ s.length → m ≤ 202 → okR s m = false) : tokP s = some (n, (kindR (s.take n)).1, (kindR (s.take n)).2) := by
 obtain ⟨n', k, t, ht, hle⟩ := tok_max hn hl h
 obtain ⟨q1, _, q3, _, q5, q6⟩ := tok_kind ht
 have : n' = n := by
  by_cases c : n < n'
  ·have := hmax n' c q5 q6
   rw [q3] at this; cases this
  ·omega
 subst this
 rw [ht, q1]
theorem next_none {s : Bs} (h : ∀ m, 0 < m → m ≤ s.length → m ≤ 202 → okR s m = false) : tokP s = none := by
 cases ht : tokP s with
 | none => rfl
 | some x =>
  obtain ⟨n, k, t⟩ := x
  obtain ⟨_, _, q3, q4, q5, q6⟩ := tok_kind ht
  rw [h n q4 q5 q6] at q3; cases q3
end Go.Proofs.YtbedaolpfedacaaGreatDoor.Pl
namespace Go.Proofs.YtbedaolpfedacaaGreatDoor.Pl
open Go.Av Go.Av.Net
theorem gap32 : GapOK [32] := ⟨fun x => by simp [gap, blankB]; omega, fun c hc => by cases hc; decide, by simp⟩
end Go.Proofs.YtbedaolpfedacaaGreatDoor.Pl
namespace Go.Proofs.YtbedaolpfedacaaGreatDoor.Pl
open Go.Av Go.Av.Net
def digN : Nat → Bs := fun n => if h : n < 10 then [48 + n.toUInt8] else digN (n / 10) ++ [48 + (n % 10).toUInt8]
termination_by n => n
theorem digN_eq (n : Nat) : digN n = if n < 10 then [48 + n.toUInt8] else digN (n / 10) ++ [48 + (n % 10).toUInt8] := by
 rw [digN]; split <;> rfl
theorem dig_nat {n : Nat} (h : n < 10) : ((48 : UInt8) + n.toUInt8).toNat = 48 + n := by
 have hc : n = 0 ∨ n = 1 ∨ n = 2 ∨ n = 3 ∨ n = 4 ∨ n = 5 ∨ n = 6 ∨ n = 7 ∨ n = 8 ∨ n = 9 := by omega
 rcases hc with h | h | h | h | h | h | h | h | h | h <;> subst h <;> rfl
theorem dig_digB {n : Nat} (h : n < 10) : digB ((48 : UInt8) + n.toUInt8) = true := by
 unfold digB; rw [dig_nat h]; simp; omega
theorem digN_dig : ∀ (n : Nat), ∀ b ∈ digN n, digB b = true := by
 intro n
 induction n using Nat.strongRecOn with
 | ind n ih =>
  intro b hb
  rw [digN_eq] at hb
  split at hb
  ·rename_i h
   rw [List.mem_singleton.1 hb]; exact dig_digB h
  ·rename_i h
   rcases List.mem_append.1 hb with hb | hb
   ·exact ih (n / 10) (by omega) b hb
   ·rw [List.mem_singleton.1 hb]; exact dig_digB (by omega)
theorem digN_len (k : Nat) : ∀ n : Nat, n < 10 ^ (k + 1) → 1 ≤ (digN n).length ∧ (digN n).length ≤ k + 1 := by
 induction k with
 | zero => intro n h; rw [digN_eq, if_pos (by simpa using h)]; simp
 | succ k ih =>
  intro n h
  rw [digN_eq]
  split
  ·simp
  ·have := ih (n / 10) (by rw [Nat.pow_succ] at h; omega)
   simp only [List.length_append, List.length_singleton]; omega
theorem digN_val : ∀ n : Nat, decV (digN n) = n := by
 intro n
 induction n using Nat.strongRecOn with
 | ind n ih =>
  rw [digN_eq]
  split
  ·rename_i h
   simp only [decV, List.foldl_cons, List.foldl_nil, dig_nat h]; omega
  ·rename_i h
   have := ih (n / 10) (by omega)
   unfold decV at this ⊢
   rw [List.foldl_append, this]
   simp only [List.foldl_cons, List.foldl_nil, dig_nat (show n % 10 < 10 by omega)]
   omega
theorem good_digN {n : Nat} (h : n < 100000000) : Good 2 (digN n) := good_num (digN_dig n) (digN_len 7 n (by omega)).1 (digN_len 7 n (by omega)).2
theorem good_kw : ∀ x ∈ keyWords, Good 1 x := by
 intro x hx
 have : ∀ x ∈ keyWords, (∀ b ∈ x, wordB b = true) ∧ (∃ b ∈ x, digB b = false) ∧ x.length ≤ 20 ∧ x.headD 0 ≠ 95 := by decide
 obtain ⟨h1, h2, h3, h4⟩ := this x hx
 exact good_word h1 h2 h3 h4
theorem LexR.sym {x r : Bs} (hx : x ∈ [s_lb, s_rb, s_semi, s_colon]) {p : Nat} {l : List Tok} (hl : LexR r (p + x.length) l) : LexR (x ++ r) p (⟨3, x, p⟩ :: l) := by
 have h := good_sym hx r
 have hp : 1 ≤ x.length := by
  simp only [List.mem_cons, List.not_mem_nil, or_false] at hx
  rcases hx with rfl | rfl | rfl | rfl <;> decide
 have e : gap false (x ++ r) = 0 := by
  cases x with
  | nil => simp at hp
  | cons b s =>
   obtain ⟨h1, h2⟩ := tokP_head (b := b) (r := s ++ r) h
   have h3 : decide (b.toNat = 37) = false := decide_eq_false fun e => h2 (UInt8.toNat_inj.1 e)
   simp only [List.cons_append]
   unfold gap
   rw [h1, h3]; rfl
 have := LexR.cons (r := x ++ r) (p := p) (n := x.length) (k := 3) (t := x) (l := l) (by rw [e]; simp; omega) (by rw [e]; exact h) (by rw [e]; simpa using hl)
 rw [e] at this
 exact this
theorem bnd32 (r : Bs) : Bnd (32 :: r) := fun c hc => by cases hc; decide
theorem LexR.tokB {k : Int} {t r : Bs} (hk : k ≠ 4) (h : Good k t) {p : Nat} {l : List Tok} (hl : LexR r (p + t.length + 1) l) : LexR (t ++ 32 :: r) p (⟨k, t, p⟩ :: l) := by
 have e : srcT k t = t := by unfold srcT; rw [decide_eq_false hk]; rfl
 have := LexR.tok h (bnd32 r) (p := p) (l := l) (by rw [e]; exact LexR.gapped (G := [32]) gap32 hl)
 rw [e] at this; exact this
end Go.Proofs.YtbedaolpfedacaaGreatDoor.Pl
namespace Go.Proofs.YtbedaolpfedacaaGreatDoor.Pl
open Go.Av Go.Av.Net
structure OffI where
 name : Bs
 oper : Int
 cal : Int
 pockets : Int
 passes : Int
 minutes : Int
 codes : List Bs
structure LinI where
 name : Bs
 from_ : Int
 to_ : Int
 at_ : Int
 travel : Int
 load : Int
structure NwI where
 cals : List Cal
 names : List Bs
 opers : List Bs
 offs : List OffI
 lins : List LinI
 clss : List Cls
def refB (l : List Bs) (i : Int) : Bool := decide (0 ≤ i) && (match l[i.toNat]? with | some x => decide (idxOf x l = some i.toNat) | none => false)
def numB (n : Int) : Bool := decide (0 ≤ n) && decide (n ≤ 99999999)
def intB (n : Int) : Bool := decide (-99999999 ≤ n) && decide (n ≤ 99999999)
def calB (c : Cal) : Bool := decide (c.week.length = 7) && intB c.zone && c.hols.all intB
def offB (n : NwI) (o : OffI) : Bool := refB n.opers o.oper && refB n.names o.cal && numB o.pockets && numB o.passes && numB o.minutes && o.codes.all isCodeB
def linB (n : NwI) (l : LinI) : Bool := refB (n.offs.map (·.name)) l.from_ && refB (n.offs.map (·.name)) l.to_ && numB l.at_ && numB l.travel && numB l.load
def clsB (c : Cls) : Bool := numB c.cut && numB c.deliver
def namesB (n : NwI) : Bool := n.names.all isNameB && n.opers.all isNameB && (n.offs.all fun o => isNameB o.name) && (n.lins.all fun l => isNameB l.name) && n.clss.all fun c => isNameB c.name
def printB (n : NwI) : Bool := decide (n.names.length = n.cals.length) && namesB n && n.cals.all calB && n.offs.all (offB n) && n.lins.all (linB n) && n.clss.all clsB
def decT (n : Int) : Bs := if n < 0 then 45 :: digN (-n).toNat else digN n.toNat
def nameAt (l : List Bs) (i : Int) : Bs := l.getD i.toNat []
def fieldT (k v : Bs) : Bs := [32, 32] ++ (k ++ [32]) ++ (v ++ [59, 10])
def headT (k name : Bs) : Bs := (k ++ [32]) ++ (name ++ [32]) ++ [123, 10]
def endT : Bs := [125, 10]
def weekT (w : List Bool) : Bs := w.map fun b => if b then 49 else 48
def calT (name : Bs) (c : Cal) : Bs := headT w_calendar name ++ fieldT w_zone (decT c.zone) ++ fieldT w_week (weekT c.week) ++ c.hols.flatMap (fun d => fieldT w_holiday (decT d)) ++ endT
def operT (name : Bs) : Bs := (w_operator ++ [32]) ++ (name ++ [59, 10])
def codesT : List Bs → Bs
 | [] => []
 | c :: r => [32, 32] ++ w_codes ++ ((c :: r).flatMap fun x => 32 :: x) ++ [59, 10]
def offT (n : NwI) (o : OffI) : Bs := headT w_office o.name ++ fieldT w_operator (nameAt n.opers o.oper) ++ fieldT w_calendar (nameAt n.names o.cal) ++ fieldT w_pockets (decT o.pockets) ++ fieldT w_passes (decT o.passes) ++ fieldT w_minutes (decT o.minutes) ++ codesT o.codes ++ endT
def linT (n : NwI) (l : LinI) : Bs := (w_line ++ [32]) ++ (l.name ++ [58, 32]) ++ (nameAt (n.offs.map (·.name)) l.from_ ++ [32]) ++ [45, 62, 32] ++ (nameAt (n.offs.map (·.name)) l.to_ ++ [32]) ++ (w_at ++ [32]) ++ (decT l.at_ ++ [32]) ++ (w_travel ++ [32]) ++ (decT l.travel ++ [32]) ++ (w_load ++ [32]) ++ (decT l.load ++ [59, 10])
def clssT (c : Cls) : Bs := headT w_class c.name ++ fieldT w_cut (decT c.cut) ++ fieldT w_deliver (decT c.deliver) ++ endT
def calsT (names : List Bs) (cals : List Cal) : Bs := (List.zipWith calT names cals).flatten
def printT (n : NwI) : Bs := calsT n.names n.cals ++ n.opers.flatMap operT ++ n.offs.flatMap (offT n) ++ n.lins.flatMap (linT n) ++ n.clss.flatMap clssT
def printN (n : NwI) : Bs := if printB n then printT n else []
def decK (n : Int) : List KT := if n < 0 then [(3, s_minus), (2, digN (-n).toNat)] else [(2, digN n.toNat)]
def fieldK (k : Bs) (v : List KT) : List KT := [(1, k)] ++ (v ++ [(3, s_semi)])
def headK (k name : Bs) : List KT := [(1, k), (1, name), (3, s_lb)]
def calK (name : Bs) (c : Cal) : List KT := headK w_calendar name ++ fieldK w_zone (decK c.zone) ++ fieldK w_week [(2, weekT c.week)] ++ c.hols.flatMap (fun d => fieldK w_holiday (decK d)) ++ [(3, s_rb)]
def operK (name : Bs) : List KT := [(1, w_operator), (1, name), (3, s_semi)]
def codeK (c : Bs) : KT := (if c.all digB then 2 else 1, c)
def codesK : List Bs → List KT
 | [] => []
 | c :: r => (1, w_codes) :: ((c :: r).map codeK ++ [(3, s_semi)])
def offK (n : NwI) (o : OffI) : List KT := headK w_office o.name ++ fieldK w_operator [(1, nameAt n.opers o.oper)] ++ fieldK w_calendar [(1, nameAt n.names o.cal)] ++ fieldK w_pockets (decK o.pockets) ++ fieldK w_passes (decK o.passes) ++ fieldK w_minutes (decK o.minutes) ++ codesK o.codes ++ [(3, s_rb)]
def linK (n : NwI) (l : LinI) : List KT := [(1, w_line), (1, l.name), (3, s_colon), (1, nameAt (n.offs.map (·.name)) l.from_), (3, s_arrow), (1, nameAt (n.offs.map (·.name)) l.to_), (1, w_at)] ++ decK l.at_ ++ [(1, w_travel)] ++ decK l.travel ++ [(1, w_load)] ++ decK l.load ++ [(3, s_semi)]
def clssK (c : Cls) : List KT := headK w_class c.name ++ fieldK w_cut (decK c.cut) ++ fieldK w_deliver (decK c.deliver) ++ [(3, s_rb)]
def printK (n : NwI) : List KT := (List.zipWith calK n.names n.cals).flatten ++ n.opers.flatMap operK ++ n.offs.flatMap (offK n) ++ n.lins.flatMap (linK n) ++ n.clss.flatMap clssK
def Em (s : Bs) (xs : List KT) : Prop := ∀ (r : Bs) (p : Nat) (l : List Tok), LexR r (p + s.length) l → ∃ l', kts l' = xs ∧ LexR (s ++ r) p (l' ++ l)
theorem Em.nil : Em [] [] := fun r p l h => ⟨[], rfl, h⟩
theorem Em.app {s t : Bs} {xs ys : List KT} (h : Em s xs) (g : Em t ys) : Em (s ++ t) (xs ++ ys) := fun r p l hl => by
 obtain ⟨l2, e2, h2⟩ := g r (p + s.length) l (by rw [List.length_append, ← Nat.add_assoc] at hl; exact hl)
 obtain ⟨l1, e1, h1⟩ := h (t ++ r) p (l2 ++ l) h2
 exact ⟨l1 ++ l2, by rw [← e1, ← e2]; simp [kts], by rw [List.append_assoc, List.append_assoc]; exact h1⟩
theorem Em.flat {α : Type} {f : α → Bs} {g : α → List KT} : ∀ {l : List α}, (∀ x ∈ l, Em (f x) (g x)) → Em (l.flatMap f) (l.flatMap g)
 | [], _ => Em.nil
 | x :: l, h => by
  simp only [List.flatMap_cons]
  exact (h x (by simp)).app (Em.flat fun y hy => h y (by simp [hy]))
theorem gapNl : GapOK [10] := ⟨fun x => by simp [gap, blankB]; omega, fun c hc => by cases hc; decide, by simp⟩
theorem gapSp2 : GapOK [32, 32] := ⟨fun x => by simp [gap, blankB]; omega, fun c hc => by cases hc; decide, by simp⟩
theorem Em.gap2 : Em [32, 32] [] := fun r p l h => ⟨[], rfl, LexR.gapped gapSp2 h⟩
theorem Em.word {k : Int} {t : Bs} (hk : k ≠ 4) (h : Good k t) : Em (t ++ [32]) [(k, t)] := fun r p l hl =>
 ⟨[⟨k, t, p⟩], rfl, by
  rw [List.append_assoc]
  exact LexR.tokB hk h (by simpa [Nat.add_assoc] using hl)⟩
theorem Em.sym {x : Bs} (hx : x ∈ [s_lb, s_rb, s_semi, s_colon]) {G : Bs} (hG : GapOK G) : Em (x ++ G) [(3, x)] := fun r p l hl =>
 ⟨[⟨3, x, p⟩], rfl, by
  rw [List.append_assoc]
  exact LexR.sym hx (LexR.gapped hG (by simpa [Nat.add_assoc] using hl))⟩
theorem Em.wordS {k : Int} {t x : Bs} (hk : k ≠ 4) (h : Good k t) (hx : x ∈ [s_semi, s_colon]) {G : Bs} (hG : GapOK G) : Em (t ++ (x ++ G)) [(k, t), (3, x)] := fun r p l hl => by
 have e : srcT k t = t := by unfold srcT; rw [decide_eq_false hk]; rfl
 have hx' : x ∈ [s_lb, s_rb, s_semi, s_colon] := by
  simp only [List.mem_cons, List.not_mem_nil, or_false] at hx ⊢
  rcases hx with rfl | rfl <;> simp
 have hb : Bnd (x ++ (G ++ r)) := by
  simp only [List.mem_cons, List.not_mem_nil, or_false] at hx
  rcases hx with rfl | rfl <;> (intro c hc; cases hc; decide)
 obtain ⟨l1, e1, h1⟩ := Em.sym hx' hG r (p + t.length) l (by rw [List.length_append, ← Nat.add_assoc] at hl; exact hl)
 refine ⟨⟨k, t, p⟩ :: l1, by simp [kts, ← e1], ?_⟩
 rw [List.append_assoc, List.append_assoc]
 rw [List.append_assoc] at h1
 have := LexR.tok h hb (p := p) (l := l1 ++ l) (by rw [e]; exact h1)
 rw [e] at this
 exact this
theorem minus_tok {r : Bs} (hr : ∀ c, r.head? = some c → digB c = true) (hne : r ≠ []) : tokP (45 :: r) = some (1, 3, s_minus) := by
 have key : runP (45 :: r) = (0, 0) := runP_nw fun d hd => by cases hd; decide
 unfold tokP
 rw [(num_nw key).1, (num_nw key).2]
 cases r with
 | nil => exact absurd rfl hne
 | cons c r =>
  have hc := hr c rfl
  have h62 : c ≠ 62 := fun e => by subst e; revert hc; decide
  have hs : symLen (45 :: c :: r) = 1 := by
   unfold symLen syms
   simp only [List.find?_cons]
   have h1 : List.isPrefixOf [45, 62] (45 :: c :: r) = false := by
    simp [List.isPrefixOf, Ne.symm h62]
   rw [h1]
   rfl
  rw [hs]
  rfl
theorem Em.minus {t : Bs} (ht : ∀ b ∈ t, digB b = true) (hne : t ≠ []) {s : Bs} {xs : List KT} (h : Em (t ++ s) xs) : Em (45 :: (t ++ s)) ((3, s_minus) :: xs) := fun r p l hl => by
 obtain ⟨l1, e1, h1⟩ := h r (p + 1) l (by simp only [List.length_cons] at hl; rw [show p + 1 + (t ++ s).length = p + ((t ++ s).length + 1) by omega]; exact hl)
 refine ⟨⟨3, s_minus, p⟩ :: l1, by simp [kts, ← e1], ?_⟩
 have hm := minus_tok (r := t ++ s ++ r) (fun c hc => by
  cases t with
  | nil => exact absurd rfl hne
  | cons b t => simp at hc; exact ht c (by simp [hc])) (by cases t with
  | nil => exact absurd rfl hne
  | cons b t => simp)
 have hg : gap false (45 :: (t ++ s ++ r)) = 0 := rfl
 have := LexR.cons (r := 45 :: (t ++ s ++ r)) (p := p) (n := 1) (k := 3) (t := s_minus) (l := l1 ++ l) (by rw [hg]; simp) (by rw [hg]; exact hm) (by rw [hg]; exact h1)
 rw [hg] at this
 exact this
theorem digN_ne (n : Nat) : digN n ≠ [] := by
 rw [digN_eq]
 split <;> simp
theorem Em.dec {n : Int} (h : Pl.intB n = true) {s : Bs} {ys : List KT} (hs : ∀ m : Nat, m < 100000000 → Em (digN m ++ s) ((2, digN m) :: ys)) : Em (decT n ++ s) (decK n ++ ys) := by
 unfold Pl.intB at h
 simp only [Bool.and_eq_true, decide_eq_true_eq] at h
 unfold decT decK
 split
 ·exact Em.minus (digN_dig _) (digN_ne _) (hs _ (by omega))
 ·exact hs _ (by omega)
theorem Em.decS {n : Int} (h : Pl.intB n = true) : Em (decT n ++ [59, 10]) (decK n ++ [(3, s_semi)]) := Em.dec h fun m hm => Em.wordS (x := s_semi) (by decide) (good_digN hm) (by simp) gapNl
theorem Em.decB {n : Int} (h : Pl.intB n = true) : Em (decT n ++ [32]) (decK n) := by
 have := Em.dec h (s := [32]) (ys := []) fun m hm => Em.word (by decide) (good_digN hm)
 rwa [List.append_nil] at this
theorem num_int {n : Int} (h : Pl.numB n = true) : Pl.intB n = true := by
 unfold Pl.numB at h
 unfold Pl.intB
 simp only [Bool.and_eq_true, decide_eq_true_eq] at h ⊢
 omega
theorem Em.field {k : Bs} (hk : k ∈ keyWords) {v : Bs} {xs : List KT} (h : Em (v ++ [59, 10]) (xs ++ [(3, s_semi)])) : Em (fieldT k v) (fieldK k xs) :=
 (Em.gap2.app (Em.word (by decide) (good_kw k hk))).app h
theorem Em.fieldW {k : Bs} (hk : k ∈ keyWords) {c : Int} {v : Bs} (hc : c ≠ 4) (h : Good c v) : Em (fieldT k v) (fieldK k [(c, v)]) := Em.field hk (Em.wordS (x := s_semi) hc h (by simp) gapNl)
theorem Em.head {k name : Bs} (hk : k ∈ keyWords) (hn : isNameB name = true) : Em (headT k name) (headK k name) :=
 ((Em.word (by decide) (good_kw k hk)).app (Em.word (by decide) (good_name hn))).app (Em.sym (x := s_lb) (by simp) gapNl)
theorem Em.end_ : Em endT [(3, s_rb)] := Em.sym (x := s_rb) (by simp) gapNl
theorem week_dig (w : List Bool) : ∀ b ∈ weekT w, digB b = true := by
 intro b hb
 obtain ⟨x, _, rfl⟩ := List.mem_map.1 hb
 cases x <;> rfl
theorem Em.cal {name : Bs} {c : Cal} (hn : isNameB name = true) (hc : calB c = true) : Em (calT name c) (calK name c) := by
 unfold calB at hc
 simp only [Bool.and_eq_true, decide_eq_true_eq] at hc
 obtain ⟨⟨h1, h2⟩, h3⟩ := hc
 refine ((((Em.head (by decide) hn).app (Em.field (by decide) (Em.decS h2))).app (Em.fieldW (by decide) (by decide) (good_num (week_dig _) ?_ ?_))).app (Em.flat fun d hd => Em.field (by decide) (Em.decS (List.all_eq_true.1 h3 d hd)))).app Em.end_
 ·simp [weekT, h1]
 ·simp [weekT, h1]
theorem Em.oper {name : Bs} (hn : isNameB name = true) : Em (operT name) (operK name) :=
 (Em.word (by decide) (good_kw _ (by decide))).app (Em.wordS (x := s_semi) (by decide) (good_name hn) (by simp) gapNl)
theorem good_code {c : Bs} (h : isCodeB c = true) : Good (codeK c).1 c ∧ (codeK c).1 ≠ 4 := by
 have hh := h
 unfold isCodeB at h
 simp only [Bool.and_eq_true, decide_eq_true_eq] at h
 obtain ⟨⟨h1, h2⟩, h3⟩ := h
 unfold codeK
 split
 ·rename_i hd
  exact ⟨good_num (fun b hb => List.all_eq_true.1 hd b hb) h1 (by omega), by simp⟩
 ·rename_i hd
  have hw : ∀ b ∈ c, wordB b = true := fun b hb => by
   have := List.all_eq_true.1 h3 b hb
   unfold wordB
   simp only [Bool.or_eq_true] at this ⊢
   rcases this with h | h
   ·exact .inr h
   ·exact .inl (.inl (.inl h))
  refine ⟨good_word hw ?_ (by omega) ?_, by simp⟩
  ·have hd : c.all digB = false := by simpa using hd
   obtain ⟨b, hb, hbd⟩ := List.all_eq_false.1 hd
   exact ⟨b, hb, by simpa using hbd⟩
  ·cases c with
   | nil => simp
   | cons b c =>
    have := List.all_eq_true.1 h3 b (by simp)
    simp only [List.headD_cons]
    rintro rfl
    revert this
    decide
theorem Em.codes : ∀ {l : List Bs}, (∀ c ∈ l, isCodeB c = true) → l ≠ [] → ∀ {t : Bs} {k : KT}, Good k.1 k.2 → k.1 ≠ 4 → t = k.2 → Em (t ++ (l.flatMap (fun x => 32 :: x) ++ [59, 10])) (k :: (l.map codeK ++ [(3, s_semi)]))
 | [], _, h, _, _, _, _, _ => absurd rfl h
 | [c], hc, _, t, k, hk, h4, e => by
  subst e
  obtain ⟨g1, g2⟩ := good_code (hc c (by simp))
  have h2 := Em.wordS g2 g1 (x := s_semi) (by simp) gapNl
  have h1 : Em (k.2 ++ [32] ++ (c ++ (s_semi ++ [10]))) ([k] ++ [codeK c, (3, s_semi)]) := (Em.word h4 hk).app h2
  simp only [List.flatMap_cons, List.flatMap_nil, List.append_nil, List.map_cons, List.map_nil] at h1 ⊢
  simpa [List.append_assoc, s_semi] using h1
 | c :: d :: l, hc, _, t, k, hk, h4, e => by
  subst e
  obtain ⟨g1, g2⟩ := good_code (hc c (by simp))
  have ih := Em.codes (l := d :: l) (fun x hx => hc x (by simp [hx])) (by simp) (t := c) (k := codeK c) g1 g2 rfl
  have h1 := (Em.word h4 hk).app ih
  simp only [List.flatMap_cons, List.map_cons] at h1 ⊢
  simpa [List.append_assoc] using h1
theorem Em.codesA {l : List Bs} (hc : l.all isCodeB = true) : Em (codesT l) (codesK l) := by
 cases l with
 | nil => exact Em.nil
 | cons c r =>
  have := Em.gap2.app (Em.codes (l := c :: r) (fun x hx => List.all_eq_true.1 hc x hx) (by simp) (t := w_codes) (k := (1, w_codes)) (good_kw _ (by decide)) (by decide) rfl)
  unfold codesT codesK
  simpa [List.append_assoc] using this
theorem ref_at {l : List Bs} {i : Int} (h : refB l i = true) : ∃ x, l[i.toNat]? = some x ∧ nameAt l i = x ∧ x ∈ l ∧ idxOf x l = some i.toNat ∧ 0 ≤ i := by
 unfold refB at h
 simp only [Bool.and_eq_true, decide_eq_true_eq] at h
 obtain ⟨h0, h1⟩ := h
 split at h1
 ·rename_i x hx
  exact ⟨x, hx, by unfold nameAt; rw [List.getD_eq_getElem?_getD, hx]; rfl, List.mem_of_getElem? hx, by simpa using h1, h0⟩
 ·cases h1
theorem ref_name {l : List Bs} {i : Int} (h : refB l i = true) (hl : ∀ x ∈ l, isNameB x = true) : isNameB (nameAt l i) = true := by
 obtain ⟨x, _, e, hx, _⟩ := ref_at h
 rw [e]
 exact hl x hx
theorem Em.off {n : NwI} {o : OffI} (h1 : isNameB o.name = true) (h2 : ∀ x ∈ n.opers, isNameB x = true) (h3 : ∀ x ∈ n.names, isNameB x = true) (h : offB n o = true) : Em (offT n o) (offK n o) := by
 unfold offB at h
 simp only [Bool.and_eq_true] at h
 obtain ⟨⟨⟨⟨⟨q1, q2⟩, q3⟩, q4⟩, q5⟩, q6⟩ := h
 exact (((((((Em.head (by decide) h1).app (Em.fieldW (by decide) (by decide) (good_name (ref_name q1 h2)))).app (Em.fieldW (by decide) (by decide) (good_name (ref_name q2 h3)))).app (Em.field (by decide) (Em.decS (num_int q3)))).app (Em.field (by decide) (Em.decS (num_int q4)))).app (Em.field (by decide) (Em.decS (num_int q5)))).app (Em.codesA q6)).app Em.end_
theorem Em.arrow : Em [45, 62, 32] [(3, s_arrow)] := fun r p l hl =>
 ⟨[⟨3, s_arrow, p⟩], rfl, by
  have key : runP (45 :: 62 :: 32 :: r) = (0, 0) := runP_nw fun d hd => by cases hd; decide
  have ht : tokP (45 :: 62 :: 32 :: r) = some (2, 3, s_arrow) := by
   unfold tokP
   rw [(num_nw key).1, (num_nw key).2]
   rfl
  have hg : gap false (45 :: 62 :: 32 :: r) = 0 := rfl
  have := LexR.cons (r := 45 :: 62 :: 32 :: r) (p := p) (n := 2) (k := 3) (t := s_arrow) (l := l) (by rw [hg]; simp) (by rw [hg]; exact ht) (by rw [hg]; exact LexR.gapped (G := [32]) gap32 hl)
  rw [hg] at this
  exact this⟩
theorem Em.lin {n : NwI} {x : LinI} (h1 : isNameB x.name = true) (h2 : ∀ o ∈ n.offs, isNameB o.name = true) (h : linB n x = true) : Em (linT n x) (linK n x) := by
 unfold linB at h
 simp only [Bool.and_eq_true] at h
 obtain ⟨⟨⟨⟨q1, q2⟩, q3⟩, q4⟩, q5⟩ := h
 have hm : ∀ y ∈ n.offs.map (·.name), isNameB y = true := fun y hy => by
  obtain ⟨o, ho, rfl⟩ := List.mem_map.1 hy
  exact h2 o ho
 have e : linK n x = [(1, w_line)] ++ [(1, x.name), (3, s_colon)] ++ [(1, nameAt (n.offs.map (·.name)) x.from_)] ++ [(3, s_arrow)] ++ [(1, nameAt (n.offs.map (·.name)) x.to_)] ++ [(1, w_at)] ++ decK x.at_ ++ [(1, w_travel)] ++ decK x.travel ++ [(1, w_load)] ++ (decK x.load ++ [(3, s_semi)]) := by
  unfold linK
  simp [List.append_assoc]
 rw [e]
 exact ((((((((((Em.word (by decide) (good_kw _ (by decide))).app (Em.wordS (by decide) (good_name h1) (x := s_colon) (by simp) gap32)).app (Em.word (by decide) (good_name (ref_name q1 hm)))).app Em.arrow).app (Em.word (by decide) (good_name (ref_name q2 hm)))).app (Em.word (by decide) (good_kw _ (by decide)))).app (Em.decB (num_int q3))).app (Em.word (by decide) (good_kw _ (by decide)))).app (Em.decB (num_int q4))).app (Em.word (by decide) (good_kw _ (by decide)))).app (Em.decS (num_int q5))
theorem Em.cls {c : Cls} (h1 : isNameB c.name = true) (h : clsB c = true) : Em (clssT c) (clssK c) := by
 unfold clsB at h
 simp only [Bool.and_eq_true] at h
 exact (((Em.head (by decide) h1).app (Em.field (by decide) (Em.decS (num_int h.1)))).app (Em.field (by decide) (Em.decS (num_int h.2)))).app Em.end_
theorem Em.cals : ∀ {names : List Bs} {cals : List Cal}, (∀ x ∈ names, isNameB x = true) → (∀ c ∈ cals, calB c = true) → Em (calsT names cals) ((List.zipWith calK names cals).flatten)
 | [], _, _, _ => Em.nil
 | _ :: _, [], _, _ => Em.nil
 | x :: names, c :: cals, h1, h2 => by
  unfold calsT
  simp only [List.zipWith_cons_cons, List.flatten_cons]
  exact (Em.cal (h1 x (by simp)) (h2 c (by simp))).app (Em.cals (fun y hy => h1 y (by simp [hy])) fun y hy => h2 y (by simp [hy]))
theorem Em.print {n : NwI} (h : printB n = true) : Em (printT n) (printK n) := by
 unfold printB namesB at h
 simp only [Bool.and_eq_true, decide_eq_true_eq] at h
 obtain ⟨⟨⟨⟨⟨q0, ⟨⟨⟨⟨q1, q2⟩, q3⟩, q4⟩, q5⟩⟩, q6⟩, q7⟩, q8⟩, q9⟩ := h
 have a1 := List.all_eq_true.1 q1
 have a2 := List.all_eq_true.1 q2
 have a3 := List.all_eq_true.1 q3
 have a4 := List.all_eq_true.1 q4
 have a5 := List.all_eq_true.1 q5
 have a6 := List.all_eq_true.1 q6
 have a7 := List.all_eq_true.1 q7
 have a8 := List.all_eq_true.1 q8
 have a9 := List.all_eq_true.1 q9
 exact ((((Em.cals a1 a6).app (Em.flat fun x hx => Em.oper (a2 x hx))).app (Em.flat fun o ho => Em.off (a3 o ho) a2 a1 (a7 o ho))).app (Em.flat fun x hx => Em.lin (a4 x hx) a3 (a8 x hx))).app (Em.flat fun c hc => Em.cls (a5 c hc) (a9 c hc))
theorem print_lex {n : NwI} (h : printB n = true) : ∃ l, kts l = printK n ∧ LexR (printT n) 0 l := by
 obtain ⟨l, e, hl⟩ := Em.print h [] 0 [] (LexR.nil rfl)
 exact ⟨l, e, by simpa using hl⟩
end Go.Proofs.YtbedaolpfedacaaGreatDoor.Pl
namespace Go.Proofs.YtbedaolpfedacaaGreatDoor.Pl
open Go.Av Go.Av.Net
def Pz {α : Type} (P : List KT → Nat → PR α) (xs : List KT) (a : α) : Prop := ∀ us vs : List KT, P (us ++ (xs ++ vs)) us.length = .ok a (us.length + xs.length)
theorem Pz.bind {α β : Type} {P : List KT → Nat → PR α} {f : α → List KT → Nat → PR β} {xs ys : List KT} {a : α} {b : β} (h : Pz P xs a) (g : Pz (f a) ys b) : Pz (fun ts i => (P ts i).bind fun a i => f a ts i) (xs ++ ys) b := fun us vs => by
 have h1 := h us (ys ++ vs)
 have h2 := g (us ++ xs) vs
 simp only [List.append_assoc, List.length_append] at h1 h2 ⊢
 rw [h1]
 show f a _ _ = _
 rw [h2, Nat.add_assoc]
theorem Pz.ok {α : Type} (a : α) : Pz (fun _ i => PR.ok a i) [] a := fun us vs => by simp
theorem Pz.last {α β : Type} {P : List KT → Nat → PR α} {g : α → β} {xs : List KT} {a : α} (h : Pz P xs a) : Pz (fun ts i => (P ts i).bind fun a i => .ok (g a) i) xs (g a) := by
 have := h.bind (f := fun a _ i => .ok (g a) i) (Pz.ok (g a))
 rwa [List.append_nil] at this
theorem get_at (us vs : List KT) (t : KT) : (us ++ ([t] ++ vs))[us.length]? = some t := by simp
theorem Pz.expect (k : Int) (x : Bs) : Pz (fun ts i => expectP ts k x i) [(k, x)] () := fun us vs => by
 have h := get_at us vs (k, x)
 dsimp only
 unfold expectP seesP
 rw [h]
 simp
theorem Pz.name {x : Bs} (h : isNameB x = true) : Pz nameP [(1, x)] x := fun us vs => by
 have h1 := get_at us vs (1, x)
 unfold nameP
 rw [h1]
 simp [h]
theorem Pz.number (n : Nat) : Pz numberP [(2, digN n)] n := fun us vs => by
 have h1 := get_at us vs (2, digN n)
 unfold numberP
 rw [h1]
 simp [digN_val]
theorem Pz.int (n : Int) : Pz intP (decK n) n := fun us vs => by
 unfold decK
 split
 ·rename_i hn
  have h0 : (us ++ ([(3, s_minus), (2, digN (-n).toNat)] ++ vs))[us.length]? = some (3, s_minus) := by simp
  have h1 := Pz.number (-n).toNat (us ++ [(3, s_minus)]) vs
  unfold intP seesP
  rw [h0]
  simp only [decide_true, Bool.and_self, cond_true]
  simp only [List.append_assoc, List.length_append, List.length_singleton, List.singleton_append, List.cons_append, List.nil_append] at h1 ⊢
  rw [h1]
  have e : -((-n).toNat : Int) = n := by omega
  simp only [PR.bind, e, List.length_cons, List.length_nil]
 ·rename_i hn
  have h0 := get_at us vs (2, digN n.toNat)
  have h1 := Pz.number n.toNat us vs
  unfold intP seesP
  rw [h0]
  simp only [show decide ((2 : Int) = 3) = false from rfl, Bool.false_and, cond_false]
  rw [h1]
  rw [show (n.toNat : Int) = n by omega]
theorem Pz.nat {n : Int} (h : Pl.numB n = true) : Pz numberP (decK n) n := fun us vs => by
 unfold Pl.numB at h
 simp only [Bool.and_eq_true, decide_eq_true_eq] at h
 unfold decK
 rw [if_neg (by omega), Pz.number n.toNat us vs, show (n.toNat : Int) = n by omega]
theorem Pz.field {k : Bs} {n : Int} (h : Pl.numB n = true) : Pz (fun ts i => fieldP ts k i) (fieldK k (decK n)) n :=
 (Pz.expect 1 k).bind ((Pz.nat h).bind ((Pz.expect 3 s_semi).last (g := fun _ => n)))
theorem Pz.week {w : List Bool} (h : w.length = 7) : Pz weekP [(2, weekT w)] w := fun us vs => by
 have h1 := get_at us vs (2, weekT w)
 have h2 : isWeekB (weekT w) = true := by
  unfold isWeekB weekT
  simp only [List.length_map, h, decide_true, Bool.true_and, List.all_map, List.all_eq_true, Function.comp_def]
  intro b _
  cases b <;> rfl
 have h3 : (weekT w).map (fun b => decide (b.toNat = 49)) = w := by
  unfold weekT
  rw [List.map_map]
  conv => rhs; rw [← List.map_id w]
  refine List.map_congr_left fun b _ => ?_
  cases b <;> rfl
 unfold weekP
 rw [h1]
 simp [h2, h3]
theorem Pz.ref {names : List Bs} {x : Bs} {k : Nat} (h : isNameB x = true) (hk : idxOf x names = some k) : Pz (fun ts i => refP ts names i) [(1, x)] k := fun us vs => by
 dsimp only
 unfold refP
 rw [Pz.name h us vs]
 simp only [PR.bind, hk]
theorem sees_at (us vs : List KT) (t : KT) (k : Int) (x : Bs) : seesP (us ++ (t :: vs)) k x us.length = (decide (t.1 = k) && decide (t.2 = x)) := by
 unfold seesP
 simp
theorem sees_fst {t : KT} {vs : List KT} {k : Int} {x : Bs} (us : List KT) (h : seesP (t :: vs) k x 0 = false) : seesP (us ++ (t :: vs)) k x us.length = false := by
 rw [sees_at]
 unfold seesP at h
 simpa using h
theorem sees_end0 (us : List KT) (k : Int) (x : Bs) : seesP us k x us.length = false := by
 unfold seesP
 simp
theorem lp_list {σ A : Type} {key : Bs} {B : σ → List KT → Nat → PR σ} {K : A → List KT} {add : σ → A → σ} {G : σ → Prop} (hK : ∀ x, ∃ r, K x = (1, key) :: r) :
  ∀ (l : List A), (∀ s x, G s → x ∈ l → Pz (B s) (K x) (add s x) ∧ G (add s x)) → ∀ (s : σ), G s → ∀ (f : Nat) (us vs : List KT), l.length ≤ f → seesP vs 1 key 0 = false →
   lpP true 1 key B (us ++ (l.flatMap K ++ vs)) f s us.length = .ok (l.foldl add s) (us.length + (l.flatMap K).length) ∧ G (l.foldl add s)
 | [], hB, s, hG, f, us, vs, hf, hv => by
  refine ⟨?_, hG⟩
  cases f with
  | zero => rfl
  | succ f =>
   unfold lpP
   simp only [List.flatMap_nil, List.nil_append]
   have : seesP (us ++ vs) 1 key us.length = false := by
    cases vs with
    | nil => rw [List.append_nil]; exact sees_end0 us 1 key
    | cons t vs => exact sees_fst us hv
   rw [this]
   rfl
 | x :: l, hB, s, hG, 0, us, vs, hf, hv => by simp at hf
 | x :: l, hB, s, hG, f + 1, us, vs, hf, hv => by
  obtain ⟨h1, h2⟩ := hB s x hG (by simp)
  obtain ⟨ih, ih2⟩ := lp_list hK l (fun s y hs hy => hB s y hs (by simp [hy])) (add s x) h2 f (us ++ K x) vs (by simpa using hf) hv
  refine ⟨?_, ih2⟩
  have h3 := h1 us (l.flatMap K ++ vs)
  unfold lpP
  simp only [List.flatMap_cons, List.append_assoc, List.length_append, List.foldl_cons] at ih h3 ⊢
  have hs : seesP (us ++ (K x ++ (l.flatMap K ++ vs))) 1 key us.length = true := by
   obtain ⟨r, hr⟩ := hK x
   rw [hr, List.cons_append, sees_at]
   simp
  rw [hs, h3]
  simp only [beq_self_eq_true, cond_true, PR.bind]
  rw [ih, Nat.add_assoc]
theorem fieldK_head (k : Bs) (v : List KT) : ∃ r, fieldK k v = (1, k) :: r := ⟨_, rfl⟩
theorem foldl_snoc {α β : Type} (f : α → β) : ∀ (l : List α) (a : List β), l.foldl (fun s x => s ++ [f x]) a = a ++ l.map f
 | [], a => by simp
 | x :: l, a => by
  rw [List.foldl_cons, foldl_snoc f l]
  simp
theorem hols_ok {t : KT} (ht : t.1 ≠ 1) (l : List Int) (f : Nat) (us vs : List KT) (h : l.length ≤ f) : holsP (us ++ (l.flatMap (fun d => fieldK w_holiday (decK d)) ++ (t :: vs))) f us.length = .ok l (us.length + (l.flatMap fun d => fieldK w_holiday (decK d)).length) := by
 have h1 := (lp_list (key := w_holiday) (B := holB) (K := fun d : Int => fieldK w_holiday (decK d)) (add := fun s x => s ++ [x]) (G := fun _ => True) (fun x => fieldK_head _ _) l (fun s x _ _ => ⟨by
  have : Pz (fun ts i => (expectP ts 1 w_holiday i).bind fun _ i => (intP ts i).bind fun n i => (expectP ts 3 s_semi i).bind fun _ i => .ok (s ++ [n]) i) (fieldK w_holiday (decK x)) (s ++ [x]) := (Pz.expect 1 w_holiday).bind ((Pz.int x).bind ((Pz.expect 3 s_semi).last (g := fun _ => s ++ [x])))
  exact this, trivial⟩) [] trivial f us (t :: vs) h (by unfold seesP; simp [ht])).1
 rw [hols_lp] at h1
 have e := foldl_snoc (fun x : Int => x) l []
 rw [e] at h1
 simp only [List.nil_append, List.map_id'] at h1
 rw [PR.bind_id] at h1
 exact h1
theorem len_flatMap {A : Type} {K : A → List KT} (hK : ∀ x, 1 ≤ (K x).length) : ∀ l : List A, l.length ≤ (l.flatMap K).length
 | [] => by simp
 | x :: l => by
  have := len_flatMap hK l
  have := hK x
  simp only [List.flatMap_cons, List.length_append, List.length_cons]
  omega
theorem Pz.cal {name : Bs} {c : Cal} (hn : isNameB name = true) (hc : calB c = true) : Pz calP (calK name c) (name, c) := by
 have hc0 := hc
 unfold calB at hc
 simp only [Bool.and_eq_true, decide_eq_true_eq] at hc
 obtain ⟨⟨h1, h2⟩, h3⟩ := hc
 have hh : Pz (fun ts i => (holsP ts ts.length i).bind fun hols i => (expectP ts 3 s_rb i).bind fun _ i => .ok (name, (⟨c.zone, c.week, hols⟩ : Cal)) i) (c.hols.flatMap (fun d => fieldK w_holiday (decK d)) ++ [(3, s_rb)]) (name, c) := fun us vs => by
  have l1 := len_flatMap (K := fun d : Int => fieldK w_holiday (decK d)) (fun d => by unfold fieldK; simp) c.hols
  have g := hols_ok (t := (3, s_rb)) (by decide) c.hols (us ++ (c.hols.flatMap (fun d => fieldK w_holiday (decK d)) ++ [(3, s_rb)] ++ vs)).length us vs (by simp only [List.length_append]; omega)
  dsimp only
  simp only [List.append_assoc, List.singleton_append] at g ⊢
  rw [g]
  have g2 := Pz.expect 3 s_rb (us ++ c.hols.flatMap (fun d => fieldK w_holiday (decK d))) vs
  simp only [List.append_assoc, List.singleton_append, List.length_append] at g2
  simp only [PR.bind]
  rw [g2]
  simp [Nat.add_assoc]
 have e : calK name c = [(1, w_calendar)] ++ ([(1, name)] ++ ([(3, s_lb)] ++ ([(1, w_zone)] ++ (decK c.zone ++ ([(3, s_semi)] ++ ([(1, w_week)] ++ ([(2, weekT c.week)] ++ ([(3, s_semi)] ++ (c.hols.flatMap (fun d => fieldK w_holiday (decK d)) ++ [(3, s_rb)]))))))))) := by
  unfold calK headK fieldK
  simp [List.append_assoc]
 rw [e]
 exact (Pz.expect 1 w_calendar).bind ((Pz.name hn).bind ((Pz.expect 3 s_lb).bind ((Pz.expect 1 w_zone).bind ((Pz.int c.zone).bind ((Pz.expect 3 s_semi).bind ((Pz.expect 1 w_week).bind ((Pz.week h1).bind ((Pz.expect 3 s_semi).bind hh))))))))
theorem Pz.oper {name : Bs} (hn : isNameB name = true) : Pz operP (operK name) name :=
 (Pz.expect 1 w_operator).bind ((Pz.name hn).bind ((Pz.expect 3 s_semi).last (g := fun _ => name)))
theorem Pz.code {c : Bs} (h : isCodeB c = true) : Pz codeP [codeK c] c := fun us vs => by
 have h1 := get_at us vs (codeK c)
 have h2 : (codeK c).2 = c := rfl
 have h3 : (decide ((codeK c).1 = 1) || decide ((codeK c).1 = 2)) = true := by
  unfold codeK
  split <;> simp
 unfold codeP
 rw [h1]
 simp only [h2, h3, h, Bool.and_self, cond_true, List.length_singleton]
theorem codes_ok : ∀ (l : List Bs), (∀ c ∈ l, isCodeB c = true) → ∀ (f : Nat) (us vs : List KT), l.length < f → codesP (us ++ (l.map codeK ++ ((3, s_semi) :: vs))) f us.length = .ok l (us.length + l.length)
 | [], _, 0, us, vs, h => by simp at h
 | [], _, f + 1, us, vs, _ => by
  unfold codesP
  simp only [List.map_nil, List.nil_append]
  rw [sees_at]
  simp
 | c :: l, hc, 0, us, vs, h => by simp at h
 | c :: l, hc, f + 1, us, vs, h => by
  have ih := codes_ok l (fun x hx => hc x (by simp [hx])) f (us ++ [codeK c]) vs (by simpa using h)
  have h1 := Pz.code (hc c (by simp)) us (l.map codeK ++ ((3, s_semi) :: vs))
  have h2 : ¬ ((codeK c).1 = 3) := by
   unfold codeK
   split <;> simp
  unfold codesP
  simp only [List.map_cons, List.cons_append, List.append_assoc, List.singleton_append, List.length_append, List.length_singleton, List.nil_append] at ih h1 ⊢
  rw [sees_at, decide_eq_false h2]
  simp only [Bool.false_and, cond_false]
  rw [h1]
  simp only [PR.bind]
  rw [ih]
  simp only [List.length_cons]
  congr 1
  omega
theorem Pz.codes {α : Type} {l : List Bs} (hc : l.all isCodeB = true) (g : List Bs → α) : Pz (fun ts i => (codesAllP ts i).bind fun codes i => (expectP ts 3 s_rb i).bind fun _ i => .ok (g codes) i) (codesK l ++ [(3, s_rb)]) (g l) := fun us vs => by
 have hc' : ∀ c ∈ l, isCodeB c = true := fun c h => List.all_eq_true.1 hc c h
 cases l with
 | nil =>
  dsimp only
  unfold codesAllP codesK
  simp only [List.nil_append, List.singleton_append]
  rw [sees_at]
  have h1 := Pz.expect 3 s_rb us vs
  simp only [List.singleton_append] at h1
  simp only [show decide ((3 : Int) = 1) = false from rfl, Bool.false_and, cond_false, PR.bind]
  rw [h1]
 | cons c l =>
  dsimp only
  unfold codesAllP codesK
  have h1 := Pz.expect 1 w_codes us ((c :: l).map codeK ++ [(3, s_semi)] ++ [(3, s_rb)] ++ vs)
  have h2 := Pz.code (hc' c (by simp)) (us ++ [(1, w_codes)]) (l.map codeK ++ [(3, s_semi)] ++ [(3, s_rb)] ++ vs)
  have h3 := codes_ok l (fun x hx => hc' x (by simp [hx])) ((us ++ ((1, w_codes) :: ((c :: l).map codeK ++ [(3, s_semi)]) ++ [(3, s_rb)] ++ vs)).length + 1) (us ++ [(1, w_codes), codeK c]) ((3, s_rb) :: vs) (by simp only [List.length_append, List.length_cons, List.length_map]; omega)
  have h4 := Pz.expect 3 s_semi (us ++ [(1, w_codes), codeK c] ++ l.map codeK) ([(3, s_rb)] ++ vs)
  have h5 := Pz.expect 3 s_rb (us ++ [(1, w_codes), codeK c] ++ l.map codeK ++ [(3, s_semi)]) vs
  simp only [List.map_cons, List.cons_append, List.append_assoc, List.singleton_append, List.nil_append, List.length_append, List.length_singleton, List.length_cons, List.length_nil, List.length_map] at h1 h2 h3 h4 h5 ⊢
  rw [sees_at]
  simp only [decide_true, Bool.and_self, cond_true]
  rw [h1]
  simp only [PR.bind]
  rw [h2]
  simp only [PR.bind]
  rw [show us.length + (0 + 1) + (0 + 1) = us.length + (0 + 1 + 1) by omega, h3]
  simp only [PR.bind]
  rw [show us.length + (0 + 1 + 1) + l.length = us.length + (l.length + 1 + 1) by omega, h4]
  simp only [PR.bind]
  rw [show us.length + (l.length + 1 + 1) + (0 + 1) = us.length + (l.length + (0 + 1) + 1 + 1) by omega, h5]
  exact congrArg (PR.ok (g (c :: l))) (by omega)
def toOff (o : OffI) : Off := ⟨o.name, o.oper.toNat, o.cal.toNat, o.pockets, o.passes, o.minutes, o.codes⟩
def toLin (l : LinI) : Lin := ⟨l.name, l.from_.toNat, l.to_.toNat, l.at_, l.travel, l.load⟩
def toN (n : NwI) : Nw := ⟨n.cals, n.names, n.opers, n.offs.map toOff, n.lins.map toLin, n.clss⟩
theorem Pz.refI {l : List Bs} {i : Int} (h : refB l i = true) (hl : ∀ x ∈ l, isNameB x = true) : Pz (fun ts j => refP ts l j) [(1, nameAt l i)] i.toNat := by
 obtain ⟨x, _, e, hx, hi, _⟩ := ref_at h
 rw [e]
 exact Pz.ref (hl x hx) hi
theorem Pz.off {n : NwI} {N : Nw} (e1 : N.opers = n.opers) (e2 : N.names = n.names) {o : OffI} (h1 : isNameB o.name = true) (h2 : ∀ x ∈ n.opers, isNameB x = true) (h3 : ∀ x ∈ n.names, isNameB x = true) (h : offB n o = true) : Pz (fun ts i => offP ts N i) (offK n o) (toOff o) := by
 unfold offB at h
 simp only [Bool.and_eq_true] at h
 obtain ⟨⟨⟨⟨⟨q1, q2⟩, q3⟩, q4⟩, q5⟩, q6⟩ := h
 have e : offK n o = [(1, w_office)] ++ ([(1, o.name)] ++ ([(3, s_lb)] ++ ([(1, w_operator)] ++ ([(1, nameAt n.opers o.oper)] ++ ([(3, s_semi)] ++ ([(1, w_calendar)] ++ ([(1, nameAt n.names o.cal)] ++ ([(3, s_semi)] ++ (fieldK w_pockets (decK o.pockets) ++ (fieldK w_passes (decK o.passes) ++ (fieldK w_minutes (decK o.minutes) ++ (codesK o.codes ++ [(3, s_rb)])))))))))))) := by
  unfold offK headK
  rw [show fieldK w_operator [(1, nameAt n.opers o.oper)] = [(1, w_operator), (1, nameAt n.opers o.oper), (3, s_semi)] from rfl, show fieldK w_calendar [(1, nameAt n.names o.cal)] = [(1, w_calendar), (1, nameAt n.names o.cal), (3, s_semi)] from rfl]
  simp [List.append_assoc]
 rw [e]
 unfold offP
 rw [e1, e2]
 exact (Pz.expect 1 w_office).bind ((Pz.name h1).bind ((Pz.expect 3 s_lb).bind ((Pz.expect 1 w_operator).bind ((Pz.refI q1 h2).bind ((Pz.expect 3 s_semi).bind ((Pz.expect 1 w_calendar).bind ((Pz.refI q2 h3).bind ((Pz.expect 3 s_semi).bind ((Pz.field q3).bind ((Pz.field q4).bind ((Pz.field q5).bind (Pz.codes q6 (fun codes => (⟨o.name, o.oper.toNat, o.cal.toNat, o.pockets, o.passes, o.minutes, codes⟩ : Off))))))))))))))
theorem Pz.lin {n : NwI} {N : Nw} (e1 : N.offs.map (·.name) = n.offs.map (·.name)) {x : LinI} (h1 : isNameB x.name = true) (h2 : ∀ o ∈ n.offs, isNameB o.name = true) (h : linB n x = true) : Pz (fun ts i => linP ts N i) (linK n x) (toLin x) := by
 unfold linB at h
 simp only [Bool.and_eq_true] at h
 obtain ⟨⟨⟨⟨q1, q2⟩, q3⟩, q4⟩, q5⟩ := h
 have hm : ∀ y ∈ n.offs.map (·.name), isNameB y = true := fun y hy => by
  obtain ⟨o, ho, rfl⟩ := List.mem_map.1 hy
  exact h2 o ho
 have e : linK n x = [(1, w_line)] ++ ([(1, x.name)] ++ ([(3, s_colon)] ++ ([(1, nameAt (n.offs.map (·.name)) x.from_)] ++ ([(3, s_arrow)] ++ ([(1, nameAt (n.offs.map (·.name)) x.to_)] ++ ([(1, w_at)] ++ (decK x.at_ ++ ([(1, w_travel)] ++ (decK x.travel ++ ([(1, w_load)] ++ (decK x.load ++ [(3, s_semi)]))))))))))) := by
  unfold linK
  simp [List.append_assoc]
 rw [e]
 unfold linP
 rw [e1]
 exact (Pz.expect 1 w_line).bind ((Pz.name h1).bind ((Pz.expect 3 s_colon).bind ((Pz.refI q1 hm).bind ((Pz.expect 3 s_arrow).bind ((Pz.refI q2 hm).bind ((Pz.expect 1 w_at).bind ((Pz.nat q3).bind ((Pz.expect 1 w_travel).bind ((Pz.nat q4).bind ((Pz.expect 1 w_load).bind ((Pz.nat q5).bind ((Pz.expect 3 s_semi).last (g := fun _ => toLin x)))))))))))))
theorem Pz.cls {c : Cls} (h1 : isNameB c.name = true) (h : clsB c = true) : Pz clsP (clssK c) c := by
 unfold clsB at h
 simp only [Bool.and_eq_true] at h
 have e : clssK c = [(1, w_class)] ++ ([(1, c.name)] ++ ([(3, s_lb)] ++ (fieldK w_cut (decK c.cut) ++ (fieldK w_deliver (decK c.deliver) ++ [(3, s_rb)])))) := by
  unfold clssK headK
  simp [List.append_assoc]
 rw [e]
 exact (Pz.expect 1 w_class).bind ((Pz.name h1).bind ((Pz.expect 3 s_lb).bind ((Pz.field h.1).bind ((Pz.field h.2).bind ((Pz.expect 3 s_rb).last (g := fun _ => c))))))
theorem Pz.map {α β : Type} {P : List KT → Nat → PR α} {xs : List KT} {a : α} (h : Pz P xs a) (g : α → β) : Pz (fun ts i => (P ts i).bind fun c i => .ok (g c) i) xs (g a) := h.last
theorem sees0_flat {A : Type} {K : A → List KT} {k k' : Bs} (hK : ∀ x, ∃ r, K x = (1, k') :: r) (hk : k' ≠ k) {vs : List KT} (hv : seesP vs 1 k 0 = false) : ∀ l : List A, seesP (l.flatMap K ++ vs) 1 k 0 = false
 | [] => hv
 | x :: l => by
  obtain ⟨r, hr⟩ := hK x
  unfold seesP
  simp [hr, hk]
theorem zip_flat : ∀ (a : List Bs) (b : List Cal), (List.zipWith calK a b).flatten = (a.zip b).flatMap fun x => calK x.1 x.2
 | [], b => by simp
 | x :: a, [] => by simp
 | x :: a, y :: b => by
  simp only [List.zipWith_cons_cons, List.flatten_cons, List.zip_cons_cons, List.flatMap_cons, zip_flat a b]
theorem fold_cals : ∀ (l : List (Bs × Cal)) (n : Nw), l.foldl (fun n c => { n with cals := n.cals ++ [c.2], names := n.names ++ [c.1] }) n = { n with cals := n.cals ++ l.map (·.2), names := n.names ++ l.map (·.1) }
 | [], n => by simp
 | x :: l, n => by
  rw [List.foldl_cons, fold_cals l]
  simp
theorem fold_opers : ∀ (l : List Bs) (n : Nw), l.foldl (fun n c => { n with opers := n.opers ++ [c] }) n = { n with opers := n.opers ++ l }
 | [], n => by simp
 | x :: l, n => by
  rw [List.foldl_cons, fold_opers l]
  simp
theorem fold_offs : ∀ (l : List OffI) (n : Nw), l.foldl (fun n c => { n with offs := n.offs ++ [toOff c] }) n = { n with offs := n.offs ++ l.map toOff }
 | [], n => by simp
 | x :: l, n => by
  rw [List.foldl_cons, fold_offs l]
  simp
theorem fold_lins : ∀ (l : List LinI) (n : Nw), l.foldl (fun n c => { n with lins := n.lins ++ [toLin c] }) n = { n with lins := n.lins ++ l.map toLin }
 | [], n => by simp
 | x :: l, n => by
  rw [List.foldl_cons, fold_lins l]
  simp
theorem fold_clss : ∀ (l : List Cls) (n : Nw), l.foldl (fun n c => { n with clss := n.clss ++ [c] }) n = { n with clss := n.clss ++ l }
 | [], n => by simp
 | x :: l, n => by
  rw [List.foldl_cons, fold_clss l]
  simp
theorem net_print {n : NwI} (h : printB n = true) : ∃ L, netP (printK n) = .ok (toN n) L := by
 unfold printB namesB at h
 simp only [Bool.and_eq_true, decide_eq_true_eq] at h
 obtain ⟨⟨⟨⟨⟨q0, ⟨⟨⟨⟨q1, q2⟩, q3⟩, q4⟩, q5⟩⟩, q6⟩, q7⟩, q8⟩, q9⟩ := h
 have a1 := List.all_eq_true.1 q1
 have a2 := List.all_eq_true.1 q2
 have a3 := List.all_eq_true.1 q3
 have a4 := List.all_eq_true.1 q4
 have a5 := List.all_eq_true.1 q5
 have a6 := List.all_eq_true.1 q6
 have a7 := List.all_eq_true.1 q7
 have a8 := List.all_eq_true.1 q8
 have a9 := List.all_eq_true.1 q9
 obtain ⟨C, hC⟩ : ∃ C, C = (n.names.zip n.cals).flatMap fun x => calK x.1 x.2 := ⟨_, rfl⟩
 obtain ⟨O, hO⟩ : ∃ O, O = n.opers.flatMap operK := ⟨_, rfl⟩
 obtain ⟨F, hF⟩ : ∃ F, F = n.offs.flatMap (offK n) := ⟨_, rfl⟩
 obtain ⟨Q, hQ⟩ : ∃ Q, Q = n.lins.flatMap (linK n) := ⟨_, rfl⟩
 obtain ⟨R, hR⟩ : ∃ R, R = n.clss.flatMap clssK := ⟨_, rfl⟩
 have e : printK n = C ++ (O ++ (F ++ (Q ++ (R ++ [])))) := by
  unfold printK
  rw [zip_flat, ← hC, ← hO, ← hF, ← hQ, ← hR]
  simp [List.append_assoc]
 have kO : ∀ x, ∃ r, operK x = (1, w_operator) :: r := fun x => ⟨_, rfl⟩
 have kF : ∀ x, ∃ r, offK n x = (1, w_office) :: r := fun x => ⟨_, rfl⟩
 have kQ : ∀ x, ∃ r, linK n x = (1, w_line) :: r := fun x => ⟨_, rfl⟩
 have kR : ∀ x, ∃ r, clssK x = (1, w_class) :: r := fun x => ⟨_, rfl⟩
 have kC : ∀ x : Bs × Cal, ∃ r, calK x.1 x.2 = (1, w_calendar) :: r := fun x => ⟨_, rfl⟩
 have s0 : ∀ k, seesP [] 1 k 0 = false := fun k => rfl
 have hts : ∀ (A : Type) (K : A → List KT) (l : List A), (∀ x, 1 ≤ (K x).length) → ∀ us vs : List KT, l.length ≤ (us ++ (l.flatMap K ++ vs)).length := fun A K l hK us vs => by
  have := len_flatMap hK l
  simp only [List.length_append]
  omega
 rw [netP_eq, e]
 unfold netQ
 have p1 := (lp_list (key := w_calendar) (B := calS) (K := fun x : Bs × Cal => calK x.1 x.2) (add := fun s c => { s with cals := s.cals ++ [c.2], names := s.names ++ [c.1] }) (G := fun _ => True) kC (n.names.zip n.cals) (fun s x _ hx => ⟨(Pz.cal (a1 x.1 (List.of_mem_zip hx).1) (a6 x.2 (List.of_mem_zip hx).2)).map (g := fun c => ({ s with cals := s.cals ++ [c.2], names := s.names ++ [c.1] } : Nw)), trivial⟩) nw0 trivial
  (([] : List KT) ++ (C ++ (O ++ (F ++ (Q ++ (R ++ [])))))).length [] (O ++ (F ++ (Q ++ (R ++ [])))) (by rw [hC]; exact hts _ (fun x : Bs × Cal => calK x.1 x.2) _ (fun x => by obtain ⟨r, hr⟩ := kC x; rw [hr]; simp) _ _)
  (by rw [hO, hF, hQ, hR]; exact sees0_flat kO (by decide) (sees0_flat kF (by decide) (sees0_flat kQ (by decide) (sees0_flat kR (by decide) (s0 _) _) _) _) _)).1
 rw [← hC, fold_cals, show (n.names.zip n.cals).map (·.2) = n.cals by rw [List.map_snd_zip (by omega)], show (n.names.zip n.cals).map (·.1) = n.names by rw [List.map_fst_zip (by omega)]] at p1
 simp only [nw0, List.nil_append, List.length_nil, Nat.zero_add] at p1
 unfold sec
 simp only [nw0]
 rw [p1]
 simp only [PR.bind]
 generalize hN1 : (⟨n.cals, n.names, [], [], [], []⟩ : Nw) = N1
 have p2 := (lp_list (key := w_operator) (B := operS) (K := operK) (add := fun s c => { s with opers := s.opers ++ [c] }) (G := fun _ => True) kO n.opers (fun s x _ hx => ⟨(Pz.oper (a2 x hx)).map (g := fun c => ({ s with opers := s.opers ++ [c] } : Nw)), trivial⟩) N1 trivial
  (C ++ (O ++ (F ++ (Q ++ (R ++ []))))).length C (F ++ (Q ++ (R ++ []))) (by rw [hO]; exact hts _ operK _ (fun x => by obtain ⟨r, hr⟩ := kO x; rw [hr]; simp) _ _)
  (by rw [hF, hQ, hR]; exact sees0_flat kF (by decide) (sees0_flat kQ (by decide) (sees0_flat kR (by decide) (s0 _) _) _) _)).1
 rw [← hO, fold_opers] at p2
 rw [p2]
 simp only [PR.bind]
 generalize hN2 : ({ N1 with opers := N1.opers ++ n.opers } : Nw) = N2
 have o2 : N2.opers = n.opers ∧ N2.names = n.names := by rw [← hN2, ← hN1]; exact ⟨rfl, rfl⟩
 have p3 := (lp_list (key := w_office) (B := offS) (K := offK n) (add := fun s c => { s with offs := s.offs ++ [toOff c] }) (G := fun s => s.opers = n.opers ∧ s.names = n.names) kF n.offs (fun s x hG hx => ⟨(Pz.off hG.1 hG.2 (a3 x hx) a2 a1 (a7 x hx)).map (g := fun c => ({ s with offs := s.offs ++ [c] } : Nw)), hG⟩) N2 o2
  (C ++ (O ++ (F ++ (Q ++ (R ++ []))))).length (C ++ O) (Q ++ (R ++ [])) (by have := hts _ (offK n) n.offs (fun x => by obtain ⟨r, hr⟩ := kF x; rw [hr]; simp) (C ++ O) (Q ++ (R ++ [])); rw [← hF] at this; simpa [List.append_assoc] using this)
  (by rw [hQ, hR]; exact sees0_flat kQ (by decide) (sees0_flat kR (by decide) (s0 _) _) _)).1
 rw [← hF, fold_offs] at p3
 simp only [List.append_assoc, List.length_append] at p2 p3 ⊢
 rw [p3]
 simp only [PR.bind]
 generalize hN3 : ({ N2 with offs := N2.offs ++ n.offs.map toOff } : Nw) = N3
 have o3 : N3.offs.map (·.name) = n.offs.map (·.name) := by
  rw [← hN3, ← hN2, ← hN1]
  simp [toOff, Function.comp_def]
 have p4 := (lp_list (key := w_line) (B := linS) (K := linK n) (add := fun s c => { s with lins := s.lins ++ [toLin c] }) (G := fun s => s.offs.map (·.name) = n.offs.map (·.name)) kQ n.lins (fun s x hG hx => ⟨(Pz.lin hG (a4 x hx) a3 (a8 x hx)).map (g := fun c => ({ s with lins := s.lins ++ [c] } : Nw)), hG⟩) N3 o3
  (C ++ (O ++ (F ++ (Q ++ (R ++ []))))).length (C ++ O ++ F) (R ++ []) (by have := hts _ (linK n) n.lins (fun x => by obtain ⟨r, hr⟩ := kQ x; rw [hr]; simp) (C ++ O ++ F) (R ++ []); rw [← hQ] at this; simpa [List.append_assoc] using this)
  (by rw [hR]; exact sees0_flat kR (by decide) (s0 _) _)).1
 rw [← hQ, fold_lins] at p4
 simp only [List.append_assoc, List.length_append] at p4 ⊢
 rw [Nat.add_assoc C.length O.length F.length] at *
 rw [p4]
 simp only [PR.bind]
 generalize hN4 : ({ N3 with lins := N3.lins ++ n.lins.map toLin } : Nw) = N4
 have p5 := (lp_list (key := w_class) (B := clsS) (K := clssK) (add := fun s c => { s with clss := s.clss ++ [c] }) (G := fun _ => True) kR n.clss (fun s x _ hx => ⟨(Pz.cls (a5 x hx) (a9 x hx)).map (g := fun c => ({ s with clss := s.clss ++ [c] } : Nw)), trivial⟩) N4 trivial
  (C ++ (O ++ (F ++ (Q ++ (R ++ []))))).length (C ++ O ++ F ++ Q) [] (by have := hts _ clssK n.clss (fun x => by obtain ⟨r, hr⟩ := kR x; rw [hr]; simp) (C ++ O ++ F ++ Q) []; rw [← hR] at this; simpa [List.append_assoc] using this)
  (s0 _)).1
 rw [← hR, fold_clss] at p5
 simp only [List.append_assoc, List.length_append] at p5 ⊢
 rw [Nat.add_assoc C.length, Nat.add_assoc O.length F.length Q.length, p5]
 simp only [PR.bind]
 refine ⟨C.length + (O.length + (F.length + Q.length)) + R.length, ?_⟩
 unfold finP
 rw [decide_eq_false (by simp only [List.length_append, List.length_nil]; omega)]
 subst hN4 hN3 hN2 hN1
 rfl
theorem R_lexGo_lim (s : Bs) : ∀ (f p c : Nat) (l : List Tok), p ≤ s.length → s.length < p + f → c ≤ 3000 → 3000 < c + l.length → LexR (s.drop p) p l → ∃ q, lexGo s f p c = .err 2 q
 | 0, p, c, l, h1, h2, _, _, _ => by omega
 | f + 1, p, c, l, h1, h2, h3, h4, h => by
  have hg := gap_len false (s.drop p)
  simp only [List.length_drop] at hg
  unfold lexGo
  cases h with
  | nil q => simp only [List.length_nil] at h4; omega
  | cons q1 q2 q3 =>
   rename_i n k t l
   rw [List.length_drop] at q1
   simp only [List.length_cons] at h4
   rw [decide_eq_false (by omega), cond_false]
   by_cases hc : c = 3000
   ·rw [decide_eq_true hc]
    exact ⟨_, rfl⟩
   ·rw [decide_eq_false hc, cond_false]
    rw [List.drop_drop] at q2 q3
    rw [q2]
    simp only
    obtain ⟨_, t1, t2, t3⟩ := tokP_same q2 [] fun c hc => by simp at hc
    simp only [List.length_drop] at t3
    obtain ⟨q, hq⟩ := R_lexGo_lim s f (p + gap false (s.drop p) + n) (c + 1) l (by omega) (by omega) (by omega) (by omega) (by rw [Nat.add_assoc]; rw [Nat.add_assoc] at q3; exact q3)
    rw [hq]
    exact ⟨q, rfl⟩
theorem print_parse {n : NwI} (h : printB n = true) : (∃ q, lexP (printT n) = .err 2 q) ∨ parseP (printT n) = .ok (toN n) := by
 obtain ⟨l, e, hl⟩ := print_lex h
 obtain ⟨L, hL⟩ := net_print h
 by_cases h1 : (printT n).length ≤ 8000
 ·by_cases h2 : l.length ≤ 3000
  ·right
   have hx := lexP_iff.2 ⟨h1, h2, hl⟩
   unfold parseP
   rw [hx]
   simp only [e, hL]
  ·left
   unfold lexP
   rw [decide_eq_false (by omega)]
   exact R_lexGo_lim (printT n) ((printT n).length + 1) 0 0 l (Nat.zero_le _) (by omega) (by omega) (by omega) (by simpa using hl)
 ·left
  unfold lexP
  rw [decide_eq_true (by omega)]
  exact ⟨_, rfl⟩
end Go.Proofs.YtbedaolpfedacaaGreatDoor.Pl
namespace Go.Proofs.YtbedaolpfedacaaGreatDoor.Pl
open Go.Av Go.Av.Net
theorem LexR.det {r : Bs} {p : Nat} {l : List Tok} (h : LexR r p l) : ∀ {l' : List Tok}, LexR r p l' → l = l' := by
 induction h with
 | nil q =>
  intro l' h'
  cases h' with
  | nil _ => rfl
  | cons q1 _ _ => omega
 | cons q1 q2 q3 ih =>
  intro l' h'
  cases h' with
  | nil q => omega
  | cons r1 r2 r3 =>
   rw [q2] at r2
   cases r2
   rw [ih r3]
def ofOff (o : Off) : OffI := ⟨o.name, o.oper, o.cal, o.pockets, o.passes, o.minutes, o.codes⟩
def ofLin (l : Lin) : LinI := ⟨l.name, l.from_, l.to_, l.at_, l.travel, l.load⟩
def ofN (n : Nw) : NwI := ⟨n.cals, n.names, n.opers, n.offs.map ofOff, n.lins.map ofLin, n.clss⟩
theorem toN_ofN (n : Nw) : toN (ofN n) = n := by
 obtain ⟨c, m, o, f, l, k⟩ := n
 unfold toN ofN
 simp only [List.map_map]
 have h1 : (toOff ∘ ofOff) = id := by
  funext o
  simp [toOff, ofOff]
 have h2 : (toLin ∘ ofLin) = id := by
  funext o
  simp [toLin, ofLin]
 rw [h1, h2, List.map_id, List.map_id]
theorem map_id_of {α : Type} {f : α → α} : ∀ {l : List α}, (∀ x ∈ l, f x = x) → l.map f = l
 | [], _ => rfl
 | x :: l, h => by rw [List.map_cons, h x (by simp), map_id_of fun y hy => h y (by simp [hy])]
theorem ofN_toN {n : NwI} (h : printB n = true) : ofN (toN n) = n := by
 unfold printB at h
 simp only [Bool.and_eq_true, decide_eq_true_eq] at h
 obtain ⟨⟨⟨⟨⟨q0, q1⟩, q6⟩, q7⟩, q8⟩, q9⟩ := h
 obtain ⟨c, m, o, f, l, k⟩ := n
 unfold toN ofN
 simp only [List.map_map] at *
 congr 1
 ·refine map_id_of fun x hx => ?_
  have := List.all_eq_true.1 q7 x hx
  unfold offB at this
  simp only [Bool.and_eq_true] at this
  have h1 := (ref_at this.1.1.1.1.1).choose_spec.2.2.2.2
  have h2 := (ref_at this.1.1.1.1.2).choose_spec.2.2.2.2
  obtain ⟨a1, a2, a3, a4, a5, a6, a7⟩ := x
  simp only [Function.comp_apply, toOff, ofOff] at *
  rw [Int.toNat_of_nonneg h1, Int.toNat_of_nonneg h2]
 ·refine map_id_of fun x hx => ?_
  have := List.all_eq_true.1 q8 x hx
  unfold linB at this
  simp only [Bool.and_eq_true] at this
  have h1 := (ref_at this.1.1.1.1).choose_spec.2.2.2.2
  have h2 := (ref_at this.1.1.1.2).choose_spec.2.2.2.2
  obtain ⟨a1, a2, a3, a4, a5, a6⟩ := x
  simp only [Function.comp_apply, toLin, ofLin] at *
  rw [Int.toNat_of_nonneg h1, Int.toNat_of_nonneg h2]
theorem print_inj {n m : NwI} (hn : printB n = true) (hm : printB m = true) (h : printT n = printT m) : n = m := by
 obtain ⟨l, e, hl⟩ := print_lex hn
 obtain ⟨l', e', hl'⟩ := print_lex hm
 rw [h] at hl
 have hd := hl.det hl'
 subst hd
 obtain ⟨L, hL⟩ := net_print hn
 obtain ⟨L', hL'⟩ := net_print hm
 rw [← e, e', hL'] at hL
 have q := (PR.ok.inj hL).1
 rw [← ofN_toN hn, ← ofN_toN hm, q]
def nlC (s : Bs) : Nat := s.count 10
theorem nlC_app (a b : Bs) : nlC (a ++ b) = nlC a + nlC b := by unfold nlC; rw [List.count_append]
theorem nlC_none {s : Bs} (h : ∀ b ∈ s, b ≠ 10) : nlC s = 0 := by
 unfold nlC
 rw [List.count_eq_zero]
 intro hc
 exact h 10 hc rfl
theorem nl_word {x : Bs} (h : ∀ b ∈ x, wordB b = true) : nlC x = 0 := nlC_none fun b hb e => by
 have := h b hb
 subst e
 revert this
 decide
theorem name_word {x : Bs} (h : isNameB x = true) : ∀ b ∈ x, wordB b = true := fun b hb => by
 unfold isNameB at h
 simp only [Bool.and_eq_true] at h
 exact nmB_word (List.all_eq_true.1 h.1.2 b hb)
theorem dig_word {x : Bs} (h : ∀ b ∈ x, digB b = true) : ∀ b ∈ x, wordB b = true := fun b hb => by
 unfold wordB
 rw [h b hb, Bool.or_true]
theorem code_word {x : Bs} (h : isCodeB x = true) : ∀ b ∈ x, wordB b = true := fun b hb => by
 unfold isCodeB at h
 simp only [Bool.and_eq_true] at h
 have := List.all_eq_true.1 h.2 b hb
 unfold wordB
 simp only [Bool.or_eq_true] at this ⊢
 rcases this with h | h
 ·exact .inr h
 ·exact .inl (.inl (.inl h))
theorem kw_word : ∀ x ∈ keyWords, ∀ b ∈ x, wordB b = true := by decide
theorem nl_dec (n : Int) : nlC (decT n) = 0 := by
 unfold decT
 split
 ·rw [show (45 :: digN (-n).toNat) = [45] ++ digN (-n).toNat from rfl, nlC_app, nl_word (dig_word (digN_dig _))]
  rfl
 ·exact nl_word (dig_word (digN_dig _))
theorem nl_field {k : Bs} (hk : k ∈ keyWords) {v : Bs} (hv : nlC v = 0) : nlC (fieldT k v) = 1 := by
 unfold fieldT
 simp only [nlC_app, hv, nl_word (kw_word k hk)]
 rfl
theorem nl_head {k x : Bs} (hk : k ∈ keyWords) (hx : isNameB x = true) : nlC (headT k x) = 1 := by
 unfold headT
 simp only [nlC_app, nl_word (kw_word k hk), nl_word (name_word hx)]
 rfl
theorem nl_flat {α : Type} {f : α → Bs} {c : α → Nat} : ∀ {l : List α}, (∀ x ∈ l, nlC (f x) = c x) → nlC (l.flatMap f) = (l.map c).sum
 | [], _ => rfl
 | x :: l, h => by
  simp only [List.flatMap_cons, nlC_app, List.map_cons, List.sum_cons]
  rw [h x (by simp), nl_flat fun y hy => h y (by simp [hy])]
theorem sum_const {α : Type} (k : Nat) : ∀ l : List α, (l.map fun _ => k).sum = k * l.length
 | [] => rfl
 | x :: l => by
  simp only [List.map_cons, List.sum_cons, sum_const k l, List.length_cons, Nat.mul_add]
  omega
theorem nl_cal {x : Bs} (hx : isNameB x = true) (c : Cal) : nlC (calT x c) = 4 + c.hols.length := by
 unfold calT
 simp only [nlC_app, nl_head (show w_calendar ∈ keyWords by decide) hx, nl_field (show w_zone ∈ keyWords by decide) (nl_dec c.zone), nl_field (show w_week ∈ keyWords by decide) (nl_word (dig_word (week_dig c.week)))]
 rw [nl_flat (c := fun _ => 1) fun d _ => nl_field (by decide) (nl_dec d), sum_const, show nlC endT = 1 from rfl]
 omega
theorem nl_cals : ∀ {a : List Bs} {b : List Cal}, a.length = b.length → (∀ x ∈ a, isNameB x = true) → nlC (calsT a b) = 4 * b.length + (b.map fun c => c.hols.length).sum
 | [], [], _, _ => rfl
 | [], _ :: _, h, _ => by simp at h
 | _ :: _, [], h, _ => by simp at h
 | x :: a, c :: b, h, hn => by
  have ih := nl_cals (a := a) (b := b) (by simpa using h) fun y hy => hn y (by simp [hy])
  unfold calsT at ih ⊢
  simp only [List.zipWith_cons_cons, List.flatten_cons, nlC_app, ih, nl_cal (hn x (by simp)), List.length_cons, List.map_cons, List.sum_cons]
  omega
theorem nl_oper {x : Bs} (hx : isNameB x = true) : nlC (operT x) = 1 := by
 unfold operT
 simp only [nlC_app, nl_word (name_word hx), nl_word (kw_word w_operator (by decide))]
 rfl
theorem nl_codes {l : List Bs} (h : l.all isCodeB = true) : nlC (codesT l) = if l = [] then 0 else 1 := by
 cases l with
 | nil => rfl
 | cons c r =>
  rw [if_neg (by simp)]
  unfold codesT
  simp only [nlC_app, nl_word (kw_word w_codes (by decide))]
  rw [nl_flat (c := fun _ => 0) fun x hx => by
   rw [show (32 :: x) = [32] ++ x from rfl, nlC_app, nl_word (code_word (List.all_eq_true.1 h x hx))]
   rfl, sum_const]
  rw [Nat.zero_mul]
  rfl
theorem nl_off {n : NwI} {o : OffI} (h1 : isNameB o.name = true) (h2 : ∀ x ∈ n.opers, isNameB x = true) (h3 : ∀ x ∈ n.names, isNameB x = true) (h : offB n o = true) : nlC (offT n o) = 7 + if o.codes = [] then 0 else 1 := by
 unfold offB at h
 simp only [Bool.and_eq_true] at h
 obtain ⟨⟨⟨⟨⟨q1, q2⟩, q3⟩, q4⟩, q5⟩, q6⟩ := h
 unfold offT
 simp only [nlC_app, nl_head (show w_office ∈ keyWords by decide) h1, nl_field (show w_operator ∈ keyWords by decide) (nl_word (name_word (ref_name q1 h2))), nl_field (show w_calendar ∈ keyWords by decide) (nl_word (name_word (ref_name q2 h3))),
  nl_field (show w_pockets ∈ keyWords by decide) (nl_dec o.pockets), nl_field (show w_passes ∈ keyWords by decide) (nl_dec o.passes), nl_field (show w_minutes ∈ keyWords by decide) (nl_dec o.minutes), nl_codes q6, show nlC endT = 1 from rfl]
 omega
theorem nl_lin {n : NwI} {x : LinI} (h1 : isNameB x.name = true) (h2 : ∀ o ∈ n.offs, isNameB o.name = true) (h : linB n x = true) : nlC (linT n x) = 1 := by
 unfold linB at h
 simp only [Bool.and_eq_true] at h
 obtain ⟨⟨⟨⟨q1, q2⟩, q3⟩, q4⟩, q5⟩ := h
 have hm : ∀ y ∈ n.offs.map (·.name), isNameB y = true := fun y hy => by
  obtain ⟨o, ho, rfl⟩ := List.mem_map.1 hy
  exact h2 o ho
 unfold linT
 simp only [nlC_app, nl_word (name_word h1), nl_word (name_word (ref_name q1 hm)), nl_word (name_word (ref_name q2 hm)), nl_dec, nl_word (kw_word w_line (by decide)), nl_word (kw_word w_at (by decide)), nl_word (kw_word w_travel (by decide)), nl_word (kw_word w_load (by decide))]
 rfl
theorem nl_cls {c : Cls} (h1 : isNameB c.name = true) : nlC (clssT c) = 4 := by
 unfold clssT
 simp only [nlC_app, nl_head (show w_class ∈ keyWords by decide) h1, nl_field (show w_cut ∈ keyWords by decide) (nl_dec c.cut), nl_field (show w_deliver ∈ keyWords by decide) (nl_dec c.deliver), show nlC endT = 1 from rfl]
def wantN (n : NwI) : Nat := 4 * n.cals.length + (n.cals.map fun c => c.hols.length).sum + n.opers.length + (7 * n.offs.length + (n.offs.map fun o => if o.codes = [] then 0 else 1).sum) + n.lins.length + 4 * n.clss.length
theorem sum_add {α : Type} (k : Nat) (f : α → Nat) : ∀ l : List α, (l.map fun x => k + f x).sum = k * l.length + (l.map f).sum
 | [] => rfl
 | x :: l => by
  simp only [List.map_cons, List.sum_cons, sum_add k f l, List.length_cons, Nat.mul_add]
  omega
theorem nl_print {n : NwI} (h : printB n = true) : nlC (printT n) = wantN n := by
 unfold printB namesB at h
 simp only [Bool.and_eq_true, decide_eq_true_eq] at h
 obtain ⟨⟨⟨⟨⟨q0, ⟨⟨⟨⟨q1, q2⟩, q3⟩, q4⟩, q5⟩⟩, q6⟩, q7⟩, q8⟩, q9⟩ := h
 have a1 := List.all_eq_true.1 q1
 have a2 := List.all_eq_true.1 q2
 have a3 := List.all_eq_true.1 q3
 have a4 := List.all_eq_true.1 q4
 have a5 := List.all_eq_true.1 q5
 have a7 := List.all_eq_true.1 q7
 have a8 := List.all_eq_true.1 q8
 unfold printT wantN
 simp only [nlC_app]
 rw [nl_cals q0 a1, nl_flat (c := fun _ => 1) fun x hx => nl_oper (a2 x hx), nl_flat (c := fun o => 7 + if o.codes = [] then 0 else 1) fun o ho => nl_off (a3 o ho) a2 a1 (a7 o ho), nl_flat (c := fun _ => 1) fun x hx => nl_lin (a4 x hx) a3 (a8 x hx),
  nl_flat (c := fun _ => 4) fun c hc => nl_cls (a5 c hc), sum_const, sum_const, sum_const, sum_add]
 omega
def EndNl (s : Bs) : Prop := s = [] ∨ s.getLast? = some 10
theorem EndNl.app {a b : Bs} (ha : EndNl a) (hb : EndNl b) : EndNl (a ++ b) := by
 rcases hb with rfl | hb
 ·rw [List.append_nil]; exact ha
 ·right
  rw [List.getLast?_append, hb]
  rfl
theorem EndNl.of {a b : Bs} (hb : b.getLast? = some 10) : EndNl (a ++ b) := .inr (by rw [List.getLast?_append, hb]; rfl)
theorem EndNl.flat {α : Type} {f : α → Bs} : ∀ {l : List α}, (∀ x ∈ l, EndNl (f x)) → EndNl (l.flatMap f)
 | [], _ => .inl rfl
 | x :: l, h => by
  simp only [List.flatMap_cons]
  exact (h x (by simp)).app (EndNl.flat fun y hy => h y (by simp [hy]))
theorem end_cals : ∀ (a : List Bs) (b : List Cal), EndNl (calsT a b)
 | [], b => .inl (by simp [calsT])
 | x :: a, [] => .inl (by simp [calsT])
 | x :: a, c :: b => by
  have := end_cals a b
  unfold calsT at this ⊢
  simp only [List.zipWith_cons_cons, List.flatten_cons]
  exact EndNl.app (by unfold calT; exact EndNl.of rfl) this
theorem end_print (n : NwI) : EndNl (printT n) := by
 unfold printT
 refine ((((end_cals _ _).app (EndNl.flat fun x _ => ?_)).app (EndNl.flat fun x _ => ?_)).app (EndNl.flat fun x _ => ?_)).app (EndNl.flat fun x _ => ?_)
 ·unfold operT
  rw [← List.append_assoc]
  exact EndNl.of (a := w_operator ++ [32] ++ x) (b := [59, 10]) rfl
 ·unfold offT
  exact EndNl.of rfl
 ·unfold linT
  rw [← List.append_assoc]
  exact EndNl.of (b := [59, 10]) rfl
 ·unfold clssT
  exact EndNl.of rfl
theorem print_empty {n : NwI} (h : printB n = true) : wantN n = 0 ↔ printT n = [] := by
 rw [← nl_print h]
 constructor
 ·intro h0
  rcases end_print n with h1 | h1
  ·exact h1
  ·have hm := List.mem_of_getLast? h1
   have := List.count_pos_iff.2 hm
   unfold nlC at h0
   omega
 ·intro h0
  rw [h0]
  rfl
theorem ref_out {l : List Bs} {i : Int} (h : i < 0 ∨ (l.length : Int) ≤ i) : refB l i = false := by
 unfold refB
 rcases h with h | h
 ·rw [decide_eq_false (by omega)]
  rfl
 ·rw [List.getElem?_eq_none (by omega)]
  simp
theorem idx_app {x : Bs} : ∀ {l : List Bs} {k : Nat} (r : List Bs), idxOf x l = some k → idxOf x (l ++ r) = some k
 | [], k, r, h => by simp [idxOf] at h
 | y :: l, k, r, h => by
  simp only [List.cons_append, idxOf] at h ⊢
  by_cases hy : y = x
  ·simp only [hy, decide_true, cond_true] at h ⊢
   exact h
  ·simp only [hy, decide_false, cond_false, Option.map_eq_some_iff] at h ⊢
   obtain ⟨j, hj, rfl⟩ := h
   exact ⟨j, idx_app r hj, rfl⟩
theorem idx_some {x : Bs} : ∀ {l : List Bs}, x ∈ l → ∃ k, idxOf x l = some k ∧ k < l.length
 | [], h => by cases h
 | y :: l, h => by
  simp only [idxOf]
  by_cases hy : y = x
  ·exact ⟨0, by simp [hy], by simp⟩
  ·rcases List.mem_cons.1 h with e | h
   ·exact absurd e.symm hy
   ·obtain ⟨k, h1, h2⟩ := idx_some h
    exact ⟨k + 1, by simp [hy, h1], by simp; omega⟩
theorem ref_app {l r : List Bs} {i : Int} (h : refB l i = true) : refB (l ++ r) i = true := by
 obtain ⟨x, h1, _, _, h2, h3⟩ := ref_at h
 have hlt := (List.getElem?_eq_some_iff.1 h1).1
 unfold refB
 rw [decide_eq_true h3, List.getElem?_append_left hlt, h1]
 simp [idx_app r h2]
theorem ref_again {l : List Bs} {x : Bs} (h : x ∈ l) : refB (l ++ [x]) l.length = false := by
 obtain ⟨k, h1, h2⟩ := idx_some h
 unfold refB
 rw [Int.toNat_natCast, List.getElem?_append_right (Nat.le_refl _), Nat.sub_self]
 simp only [List.getElem?_cons_zero, idx_app [x] h1]
 rw [decide_eq_false (show ¬ (some k = some l.length) by simp; omega), Bool.and_false]
theorem lin_bad {n : NwI} {l : List LinI} {k : Nat} {x : LinI} (hk : l[k]? = some x) (h : linB n x = false) : printB { n with lins := l } = false := by
 have : l.all (linB { n with lins := l }) = false := List.all_eq_false.2 ⟨x, List.mem_of_getElem? hk, by
  show ¬ linB { n with lins := l } x = true
  have e : linB { n with lins := l } x = linB n x := rfl
  rw [e, h]
  simp⟩
 unfold printB
 simp only [this, Bool.and_false, Bool.false_and]
theorem bad_to {n : NwI} {k : Nat} {x : LinI} (hk : n.lins[k]? = some x) {to : Int} (h : to < 0 ∨ (n.offs.length : Int) ≤ to) : printB { n with lins := n.lins.set k { x with to_ := to } } = false := by
 have hlt := (List.getElem?_eq_some_iff.1 hk).1
 refine lin_bad (k := k) (x := { x with to_ := to }) (by rw [List.getElem?_set_self hlt]) ?_
 unfold linB
 simp only
 rw [ref_out (l := n.offs.map (·.name)) (i := to) (by simpa using h)]
 simp
theorem more_off {n : NwI} (h : printB n = true) {o : OffI} (ho : o ∈ n.offs) : printB { n with offs := n.offs ++ [o] } = true := by
 unfold printB namesB at h ⊢
 simp only [Bool.and_eq_true, decide_eq_true_eq, List.all_append] at h ⊢
 obtain ⟨⟨⟨⟨⟨q0, ⟨⟨⟨⟨q1, q2⟩, q3⟩, q4⟩, q5⟩⟩, q6⟩, q7⟩, q8⟩, q9⟩ := h
 refine ⟨⟨⟨⟨⟨q0, ⟨⟨⟨⟨q1, q2⟩, ⟨q3, ?_⟩⟩, q4⟩, q5⟩⟩, q6⟩, ⟨q7, ?_⟩⟩, ?_⟩, q9⟩
 ·simpa using List.all_eq_true.1 q3 o ho
 ·have := List.all_eq_true.1 q7 o ho
  simp only [List.all_cons, List.all_nil, Bool.and_true]
  exact this
 ·rw [List.all_eq_true]
  intro x hx
  have := List.all_eq_true.1 q8 x hx
  unfold linB at this ⊢
  simp only [Bool.and_eq_true, List.map_append] at this ⊢
  obtain ⟨⟨⟨⟨r1, r2⟩, r3⟩, r4⟩, r5⟩ := this
  exact ⟨⟨⟨⟨ref_app r1, ref_app r2⟩, r3⟩, r4⟩, r5⟩
theorem bad_from {n : NwI} {o : OffI} (ho : o ∈ n.offs) {k : Nat} {x : LinI} (hk : n.lins[k]? = some x) : printB { n with offs := n.offs ++ [o], lins := n.lins.set k { x with from_ := n.offs.length } } = false := by
 have hlt := (List.getElem?_eq_some_iff.1 hk).1
 refine lin_bad (n := { n with offs := n.offs ++ [o] }) (k := k) (x := { x with from_ := n.offs.length }) (by rw [List.getElem?_set_self hlt]) ?_
 unfold linB
 simp only [List.map_append, List.map_cons, List.map_nil]
 have := ref_again (l := n.offs.map (·.name)) (x := o.name) (List.mem_map.2 ⟨o, ho, rfl⟩)
 rw [List.length_map] at this
 rw [this]
 simp
end Go.Proofs.YtbedaolpfedacaaGreatDoor.Pl
namespace Go.Proofs.YtbedaolpfedacaaGreatDoor.Pl
open Go.Av Go.Av.Net
structure PN (n : NwI) : Prop where
 len : n.names.length = n.cals.length
 nm : ∀ x ∈ n.names, isNameB x = true
 op : ∀ x ∈ n.opers, isNameB x = true
 offn : ∀ o ∈ n.offs, isNameB o.name = true
 linn : ∀ l ∈ n.lins, isNameB l.name = true
 clsn : ∀ c ∈ n.clss, isNameB c.name = true
 cal : ∀ c ∈ n.cals, calB c = true
 off : ∀ o ∈ n.offs, offB n o = true
 lin : ∀ l ∈ n.lins, linB n l = true
 cls : ∀ c ∈ n.clss, clsB c = true
theorem print_iff {n : NwI} : printB n = true ↔ PN n := by
 unfold printB namesB
 simp only [Bool.and_eq_true, decide_eq_true_eq, List.all_eq_true]
 constructor
 ·rintro ⟨⟨⟨⟨⟨q0, ⟨⟨⟨⟨q1, q2⟩, q3⟩, q4⟩, q5⟩⟩, q6⟩, q7⟩, q8⟩, q9⟩
  exact ⟨q0, q1, q2, q3, q4, q5, q6, q7, q8, q9⟩
 ·rintro ⟨q0, q1, q2, q3, q4, q5, q6, q7, q8, q9⟩
  exact ⟨⟨⟨⟨⟨q0, ⟨⟨⟨⟨q1, q2⟩, q3⟩, q4⟩, q5⟩⟩, q6⟩, q7⟩, q8⟩, q9⟩
def TOK (ts : List KT) : Prop := ∀ t ∈ ts, t.1 = 2 → (∀ b ∈ t.2, digB b = true) ∧ t.2.length ≤ 8
theorem runP_le : ∀ s : Bs, (runP s).2 ≤ (runP s).1
 | [] => Nat.le_refl _
 | b :: r => by
  have := runP_le r
  unfold runP
  cases wordB b with
  | false => simp
  | true =>
   cases digB b <;> simp <;> omega
theorem runP_dig : ∀ s : Bs, (runP s).2 = (runP s).1 → ∀ b ∈ s.take (runP s).1, digB b = true
 | [], _, b, h => by simp [runP] at h
 | b :: r, h, c, hc => by
  have hl := runP_le r
  unfold runP at h hc
  cases hw : wordB b with
  | false => rw [hw] at hc; simp at hc
  | true =>
   rw [hw] at h hc
   simp only [cond_true, List.take_succ_cons, List.mem_cons] at h hc
   cases hd : digB b with
   | false => rw [hd] at h; simp only [cond_false] at h; omega
   | true =>
    rw [hd] at h
    simp only [cond_true] at h
    rcases hc with rfl | hc
    ·exact hd
    ·exact runP_dig r (by omega) c hc
theorem good_two {x : Bs} (h : Good 2 x) : (∀ b ∈ x, digB b = true) ∧ x.length ≤ 8 := by
 have h1 := h [] fun c hc => by simp at hc
 have e : srcT 2 x = x := rfl
 rw [e, List.append_nil] at h1
 unfold tokP at h1
 by_cases hn : 0 < numLen x
 ·rw [decide_eq_true hn, cond_true] at h1
  have hlen : numLen x = x.length := (Prod.mk.inj (Option.some.inj h1)).1
  have hx : numLen x = (runP x).1 ∧ (runP x).2 = (runP x).1 ∧ (runP x).1 ≤ 8 := by
   unfold numLen at hn ⊢
   cases hb : (!decide ((runP x).2 = (runP x).1) || decide (8 < (runP x).1)) with
   | true => rw [hb] at hn; simp at hn
   | false =>
    simp only [Bool.or_eq_false_iff, Bool.not_eq_false', decide_eq_true_eq, decide_eq_false_iff_not] at hb
    exact ⟨rfl, hb.1, by omega⟩
  have := runP_dig x hx.2.1
  rw [← hx.1, hlen, List.take_length] at this
  exact ⟨this, by omega⟩
 ·rw [decide_eq_false hn, cond_false] at h1
  exfalso
  revert h1
  cases decide (0 < nameLen x) <;> cases decide (0 < txtLen x) <;> cases decide (0 < symLen x) <;> simp
theorem tok_lex {s : Bs} {l : List Tok} (h : lexP s = .ok l) : TOK (kts l) := by
 obtain ⟨_, _, hl⟩ := lexP_iff.1 h
 intro t ht h2
 obtain ⟨u, hu, rfl⟩ := List.mem_map.1 ht
 have := (hl.pos.1 u hu).2.2
 simp only at h2
 rw [h2] at this
 exact good_two this
theorem decV_bound : ∀ (x : Bs) (n : Int), 0 ≤ n → (∀ b ∈ x, digB b = true) → 0 ≤ x.foldl (fun n b => 10 * n + ((b.toNat : Int) - 48)) n ∧ x.foldl (fun n b => 10 * n + ((b.toNat : Int) - 48)) n + 1 ≤ (n + 1) * 10 ^ x.length
 | [], n, hn, _ => by simp; omega
 | b :: x, n, hn, h => by
  have hb := h b (by simp)
  unfold digB at hb
  simp only [Bool.and_eq_true, decide_eq_true_eq] at hb
  obtain ⟨h1, h2⟩ := decV_bound x (10 * n + ((b.toNat : Int) - 48)) (by omega) fun c hc => h c (by simp [hc])
  simp only [List.foldl_cons, List.length_cons]
  refine ⟨h1, Int.le_trans h2 ?_⟩
  rw [Int.pow_succ, Int.mul_comm (10 ^ x.length) 10, ← Int.mul_assoc]
  refine Int.mul_le_mul_of_nonneg_right (by omega) ?_
  exact Int.pow_nonneg (by omega)
theorem decV_num {x : Bs} (h : ∀ b ∈ x, digB b = true) (h8 : x.length ≤ 8) : Pl.numB (decV x) = true := by
 obtain ⟨h1, h2⟩ := decV_bound x 0 (by omega) h
 have h3 : (10 : Int) ^ x.length ≤ 10 ^ 8 := by
  have : (10 : Nat) ^ x.length ≤ 10 ^ 8 := Nat.pow_le_pow_right (by omega) h8
  exact_mod_cast this
 unfold Pl.numB decV
 simp only [Bool.and_eq_true, decide_eq_true_eq]
 refine ⟨h1, ?_⟩
 have : (10 : Int) ^ 8 = 100000000 := by decide
 omega
def PostB {α : Type} (p : PR α) (Q : α → Prop) : Prop := match p with | .ok a _ => Q a | .fail _ _ => True
theorem PostB.bind {α β : Type} {p : PR α} {f : α → Nat → PR β} {Q : α → Prop} {R : β → Prop} (h : PostB p Q) (hf : ∀ a i, Q a → PostB (f a i) R) : PostB (p.bind f) R := by
 cases p with
 | ok a i => exact hf a i h
 | fail e i => trivial
theorem PostB.mono {α : Type} {p : PR α} {Q R : α → Prop} (h : PostB p Q) (hf : ∀ a, Q a → R a) : PostB p R := by
 cases p with
 | ok a i => exact hf a h
 | fail e i => trivial
section
variable {ts : List KT} (ht : TOK ts)
theorem pb_expect (k : Int) (x : Bs) (i : Nat) : PostB (expectP ts k x i) (fun _ => True) := by
 cases expectP ts k x i <;> trivial
theorem pb_name (i : Nat) : PostB (nameP ts i) (fun x => isNameB x = true) := by
 unfold nameP
 split
 ·trivial
 ·rename_i t _
  cases h : (decide (t.1 = 1) && isNameB t.2) with
  | true => simp only [cond_true, PostB]; simp at h; exact h.2
  | false => trivial
theorem pb_code (i : Nat) : PostB (codeP ts i) (fun x => isCodeB x = true) := by
 unfold codeP
 split
 ·trivial
 ·rename_i t _
  cases h : ((decide (t.1 = 1) || decide (t.1 = 2)) && isCodeB t.2) with
  | true => simp only [cond_true, PostB]; simp at h; exact h.2
  | false => trivial
theorem pb_week (i : Nat) : PostB (weekP ts i) (fun x => x.length = 7) := by
 unfold weekP
 split
 ·trivial
 ·rename_i t _
  cases h : (decide (t.1 = 2) && isWeekB t.2) with
  | true => simp only [cond_true, PostB]; simp [isWeekB] at h; simp [h.2.1]
  | false => trivial
include ht in
theorem pb_number (i : Nat) : PostB (numberP ts i) (fun x => Pl.numB x = true) := by
 unfold numberP
 split
 ·trivial
 ·rename_i t hi
  cases h : decide (t.1 = 2) with
  | true =>
   simp only [cond_true, PostB]
   obtain ⟨h1, h2⟩ := ht t (List.mem_of_getElem? hi) (by simpa using h)
   exact decV_num h1 h2
  | false => trivial
theorem neg_int {n : Int} (h : Pl.numB n = true) : Pl.intB (-n) = true := by
 unfold Pl.numB at h
 unfold Pl.intB
 simp only [Bool.and_eq_true, decide_eq_true_eq] at h ⊢
 omega
include ht in
theorem pb_int (i : Nat) : PostB (intP ts i) (fun x => Pl.intB x = true) := by
 unfold intP
 cases seesP ts 3 s_minus i with
 | true => exact (pb_number ht (i + 1)).bind fun a j h => neg_int h
 | false => exact (pb_number ht i).mono fun a h => num_int h
include ht in
theorem pb_field (w : Bs) (i : Nat) : PostB (fieldP ts w i) (fun x => Pl.numB x = true) := by
 unfold fieldP
 exact (pb_expect 1 w i).bind fun _ i _ => (pb_number ht i).bind fun x i hx => (pb_expect 3 s_semi i).bind fun _ i _ => hx
theorem idx_get {x : Bs} : ∀ {l : List Bs} {k : Nat}, idxOf x l = some k → l[k]? = some x
 | [], k, h => by cases h
 | y :: r, k, h => by
  unfold idxOf at h
  by_cases e : y = x
  ·simp [e] at h
   subst h
   simp [e]
  ·simp [e] at h
   obtain ⟨b, hb, rfl⟩ := h
   simpa using idx_get hb
theorem ref_nat {l : List Bs} {x : Bs} {k : Nat} (h : idxOf x l = some k) : refB l k = true := by
 unfold refB
 rw [Int.toNat_natCast, idx_get h, decide_eq_true (by omega)]
 simp [h]
theorem pb_ref (names : List Bs) (i : Nat) : PostB (refP ts names i) (fun k => refB names (k : Nat) = true) := by
 unfold refP
 refine (pb_name i).bind fun x i _ => ?_
 split
 ·rename_i k hk
  exact ref_nat hk
 ·trivial
theorem all_cons {α : Type} {p : α → Bool} {x : α} {l : List α} (hx : p x = true) (hl : l.all p = true) : (x :: l).all p = true := by
 rw [List.all_cons, hx, hl]
 rfl
include ht in
theorem pb_hols : ∀ (f i : Nat), PostB (holsP ts f i) (fun l => l.all Pl.intB = true)
 | 0, i => rfl
 | f + 1, i => by
  unfold holsP
  cases seesP ts 1 w_holiday i with
  | true => exact (pb_expect 1 w_holiday i).bind fun _ i _ => (pb_int ht i).bind fun x i hx => (pb_expect 3 s_semi i).bind fun _ i _ => (pb_hols f i).bind fun l i hl => all_cons hx hl
  | false => rfl
include ht in
theorem pb_cal (i : Nat) : PostB (calP ts i) (fun c => isNameB c.1 = true ∧ calB c.2 = true) := by
 unfold calP
 exact (pb_expect 1 w_calendar i).bind fun _ i _ => (pb_name i).bind fun name i hn => (pb_expect 3 s_lb i).bind fun _ i _ => (pb_expect 1 w_zone i).bind fun _ i _ => (pb_int ht i).bind fun zone i hz => (pb_expect 3 s_semi i).bind fun _ i _ =>
  (pb_expect 1 w_week i).bind fun _ i _ => (pb_week i).bind fun week i hw => (pb_expect 3 s_semi i).bind fun _ i _ => (pb_hols ht _ i).bind fun hols i hh => (pb_expect 3 s_rb i).bind fun _ i _ => ⟨hn, by unfold calB; simp only [hw, hz, hh, decide_true, Bool.and_self]⟩
theorem pb_oper (i : Nat) : PostB (operP ts i) (fun x => isNameB x = true) := by
 unfold operP
 exact (pb_expect 1 w_operator i).bind fun _ i _ => (pb_name i).bind fun name i hn => (pb_expect 3 s_semi i).bind fun _ i _ => hn
theorem pb_codes : ∀ (f i : Nat), PostB (codesP ts f i) (fun l => l.all isCodeB = true)
 | 0, i => rfl
 | f + 1, i => by
  unfold codesP
  cases seesP ts 3 s_semi i with
  | true => rfl
  | false => exact (pb_code i).bind fun x i hx => (pb_codes f i).bind fun l i hl => all_cons hx hl
theorem pb_codesAll (i : Nat) : PostB (codesAllP ts i) (fun l => l.all isCodeB = true) := by
 unfold codesAllP
 cases seesP ts 1 w_codes i with
 | true => exact (pb_expect 1 w_codes i).bind fun _ i _ => (pb_code i).bind fun c i hc => (pb_codes _ i).bind fun l i hl => (pb_expect 3 s_semi i).bind fun _ i _ => all_cons hc hl
 | false => rfl
include ht in
theorem pb_off (n : Nw) (i : Nat) : PostB (offP ts n i) (fun o => isNameB o.name = true ∧ offB (ofN n) (ofOff o) = true) := by
 unfold offP
 exact (pb_expect 1 w_office i).bind fun _ i _ => (pb_name i).bind fun name i h1 => (pb_expect 3 s_lb i).bind fun _ i _ => (pb_expect 1 w_operator i).bind fun _ i _ => (pb_ref n.opers i).bind fun oper i h2 => (pb_expect 3 s_semi i).bind fun _ i _ =>
  (pb_expect 1 w_calendar i).bind fun _ i _ => (pb_ref n.names i).bind fun cal i h3 => (pb_expect 3 s_semi i).bind fun _ i _ => (pb_field ht w_pockets i).bind fun a i h4 => (pb_field ht w_passes i).bind fun b i h5 => (pb_field ht w_minutes i).bind fun c i h6 =>
  (pb_codesAll i).bind fun codes i h7 => (pb_expect 3 s_rb i).bind fun _ i _ => ⟨h1, by unfold offB ofOff ofN; simp only [h2, h3, h4, h5, h6, h7, Bool.and_self]⟩
theorem ofN_names (n : Nw) : (ofN n).offs.map (·.name) = n.offs.map (·.name) := by
 unfold ofN
 simp [ofOff, Function.comp_def]
include ht in
theorem pb_lin (n : Nw) (i : Nat) : PostB (linP ts n i) (fun x => isNameB x.name = true ∧ linB (ofN n) (ofLin x) = true) := by
 unfold linP
 exact (pb_expect 1 w_line i).bind fun _ i _ => (pb_name i).bind fun name i h1 => (pb_expect 3 s_colon i).bind fun _ i _ => (pb_ref _ i).bind fun a i h2 => (pb_expect 3 s_arrow i).bind fun _ i _ => (pb_ref _ i).bind fun b i h3 =>
  (pb_expect 1 w_at i).bind fun _ i _ => (pb_number ht i).bind fun c i h4 => (pb_expect 1 w_travel i).bind fun _ i _ => (pb_number ht i).bind fun d i h5 => (pb_expect 1 w_load i).bind fun _ i _ => (pb_number ht i).bind fun e i h6 => (pb_expect 3 s_semi i).bind fun _ i _ =>
  ⟨h1, by unfold linB ofLin; rw [ofN_names]; simp only [h2, h3, h4, h5, h6, Bool.and_self]⟩
include ht in
theorem pb_cls (i : Nat) : PostB (clsP ts i) (fun c => isNameB c.name = true ∧ clsB c = true) := by
 unfold clsP
 exact (pb_expect 1 w_class i).bind fun _ i _ => (pb_name i).bind fun name i h1 => (pb_expect 3 s_lb i).bind fun _ i _ => (pb_field ht w_cut i).bind fun a i h2 => (pb_field ht w_deliver i).bind fun b i h3 => (pb_expect 3 s_rb i).bind fun _ i _ =>
  ⟨h1, by unfold clsB; simp only [h2, h3, Bool.and_self]⟩
theorem mem_snocP {α : Type} {Q : α → Prop} {x : α} {l : List α} (hl : ∀ y ∈ l, Q y) (hx : Q x) : ∀ y ∈ l ++ [x], Q y := fun y hy => by
 rcases List.mem_append.1 hy with hy | hy
 ·exact hl y hy
 ·rw [List.mem_singleton] at hy
  subst hy
  exact hx
include ht in
theorem pb_cals : ∀ (f : Nat) (n : Nw) (i : Nat), PN (ofN n) → n.offs = [] → n.lins = [] → PostB (calsP ts f n i) (fun n' => PN (ofN n') ∧ n'.offs = [] ∧ n'.lins = [])
 | 0, n, i, hn, h, h' => ⟨hn, h, h'⟩
 | f + 1, n, i, hn, h, h' => by
  unfold calsP
  cases seesP ts 1 w_calendar i with
  | true =>
   refine (pb_cal ht i).bind fun c i hc => pb_cals f _ i ⟨?_, mem_snocP hn.nm hc.1, hn.op, ?_, ?_, hn.clsn, mem_snocP hn.cal hc.2, ?_, ?_, hn.cls⟩ h h'
   ·have := hn.len
    unfold ofN at this ⊢
    simp only [List.length_append, List.length_singleton] at this ⊢
    omega
   all_goals (
    intro x hx
    unfold ofN at hx
    simp [h, h'] at hx)
  | false => exact ⟨hn, h, h'⟩
theorem pb_opers : ∀ (f : Nat) (n : Nw) (i : Nat), PN (ofN n) → n.offs = [] → n.lins = [] → PostB (opersP ts f n i) (fun n' => PN (ofN n') ∧ n'.offs = [] ∧ n'.lins = [])
 | 0, n, i, hn, h, h' => ⟨hn, h, h'⟩
 | f + 1, n, i, hn, h, h' => by
  unfold opersP
  cases seesP ts 1 w_operator i with
  | true =>
   refine (pb_oper i).bind fun c i hc => pb_opers f _ i ⟨hn.len, hn.nm, mem_snocP hn.op hc, ?_, ?_, hn.clsn, hn.cal, ?_, ?_, hn.cls⟩ h h'
   all_goals (
    intro x hx
    unfold ofN at hx
    simp [h, h'] at hx)
  | false => exact ⟨hn, h, h'⟩
include ht in
theorem pb_offs : ∀ (f : Nat) (n : Nw) (i : Nat), PN (ofN n) → n.lins = [] → PostB (offsP ts f n i) (fun n' => PN (ofN n') ∧ n'.lins = [])
 | 0, n, i, hn, h' => ⟨hn, h'⟩
 | f + 1, n, i, hn, h' => by
  unfold offsP
  cases seesP ts 1 w_office i with
  | true =>
   refine (pb_off ht n i).bind fun c i hc => pb_offs f _ i ?_ h'
   have e : ofN { n with offs := n.offs ++ [c] } = { ofN n with offs := (ofN n).offs ++ [ofOff c] } := by
    unfold ofN
    simp
   rw [e]
   refine ⟨hn.len, hn.nm, hn.op, mem_snocP hn.offn hc.1, hn.linn, hn.clsn, hn.cal, mem_snocP hn.off hc.2, ?_, hn.cls⟩
   intro x hx
   unfold ofN at hx
   simp [h'] at hx
  | false => exact ⟨hn, h'⟩
include ht in
theorem pb_lins : ∀ (f : Nat) (n : Nw) (i : Nat), PN (ofN n) → PostB (linsP ts f n i) (fun n' => PN (ofN n'))
 | 0, n, i, hn => hn
 | f + 1, n, i, hn => by
  unfold linsP
  cases seesP ts 1 w_line i with
  | true =>
   refine (pb_lin ht n i).bind fun c i hc => pb_lins f _ i ?_
   have e : ofN { n with lins := n.lins ++ [c] } = { ofN n with lins := (ofN n).lins ++ [ofLin c] } := by
    unfold ofN
    simp
   rw [e]
   exact ⟨hn.len, hn.nm, hn.op, hn.offn, mem_snocP hn.linn hc.1, hn.clsn, hn.cal, hn.off, mem_snocP hn.lin hc.2, hn.cls⟩
  | false => exact hn
include ht in
theorem pb_clss : ∀ (f : Nat) (n : Nw) (i : Nat), PN (ofN n) → PostB (clssP ts f n i) (fun n' => PN (ofN n'))
 | 0, n, i, hn => hn
 | f + 1, n, i, hn => by
  unfold clssP
  cases seesP ts 1 w_class i with
  | true =>
   refine (pb_cls ht i).bind fun c i hc => pb_clss f _ i ?_
   exact ⟨hn.len, hn.nm, hn.op, hn.offn, hn.linn, mem_snocP hn.clsn hc.1, hn.cal, hn.off, hn.lin, mem_snocP hn.cls hc.2⟩
  | false => exact hn
include ht in
theorem pb_net : PostB (netP ts) (fun n => PN (ofN n)) := by
 unfold netP
 have h0 : PN (ofN nw0) := by constructor <;> simp [ofN, nw0]
 refine (pb_cals ht _ _ 0 h0 rfl rfl).bind fun n1 i h1 => (pb_opers _ _ i h1.1 h1.2.1 h1.2.2).bind fun n2 i h2 => (pb_offs ht _ _ i h2.1 h2.2.2).bind fun n3 i h3 => (pb_lins ht _ _ i h3.1).bind fun n4 i h4 => (pb_clss ht _ _ i h4).bind fun n5 i h5 => ?_
 cases decide (i < ts.length) with
 | true => trivial
 | false => exact h5
end
theorem parse_printB {s : Bs} {n : Nw} (h : parseP s = .ok n) : printB (ofN n) = true := by
 unfold parseP at h
 cases hl : lexP s with
 | err e p => rw [hl] at h; cases h
 | ok l =>
  rw [hl] at h
  simp only at h
  have := pb_net (tok_lex hl)
  cases hn : netP (kts l) with
  | fail e i => rw [hn] at h; cases h
  | ok m i =>
   rw [hn] at h this
   cases h
   exact print_iff.2 this
end Go.Proofs.YtbedaolpfedacaaGreatDoor.Pl
