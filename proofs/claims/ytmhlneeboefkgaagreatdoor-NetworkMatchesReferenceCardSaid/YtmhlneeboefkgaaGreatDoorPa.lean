import Derived.Test.YtmhlneeboefkgaaGreatDoorN1
set_option linter.unusedVariables false
set_option linter.unusedSimpArgs false
namespace Go.Proofs.YtmhlneeboefkgaaGreatDoor.Pl
open Go.Av Go.Av.Net
/-! ### A parser reads from its place on; a beginning of the tokens tells what the whole does; tokens before it move its places -/
def Up {α : Type} (m : Nat) : PR α → Prop
 | .ok _ j => m ≤ j
 | .fail _ k => m ≤ k
theorem Up.bind {α β : Type} {m : Nat} {p : PR α} {f : α → Nat → PR β} (h : Up m p) (hf : ∀ a j, Up j (f a j)) : Up m (p.bind f) := by
 cases p with
 | ok a j =>
  have h2 := hf a j
  simp only [PR.bind]
  simp only [Up] at h
  cases hq : f a j <;> rw [hq] at h2 <;> simp only [Up] at h2 ⊢ <;> omega
 | fail e k => exact h
theorem Up.le {α : Type} {m n : Nat} {p : PR α} (h : Up m p) (hn : n ≤ m) : Up n p := by
 cases p <;> simp only [Up] at h ⊢ <;> omega
def Bd {α : Type} (i L : Nat) : PR α → Prop
 | .ok _ j => i ≤ j ∧ j ≤ L
 | .fail e k => i ≤ k ∧ (e ≠ 91 ∧ k < L ∨ e = 91 ∧ k = L)
theorem Bd.le {α : Type} {m n L : Nat} {p : PR α} (h : Bd m L p) (hn : n ≤ m) : Bd n L p := by
 cases p <;> simp only [Bd] at h ⊢ <;> omega
/-- 'p' is what a parser yields over a beginning of 'm' tokens, 'q' over the whole. -/
def Eb {α : Type} (m i : Nat) (p q : PR α) : Prop := Bd i m p ∧ match p with
 | .ok a j => (j < m → q = .ok a j) ∧ (j = m → Up m q)
 | .fail e k => (e ≠ 91 → q = .fail e k) ∧ (e = 91 → Up m q)
theorem Eb.le {α : Type} {m i j : Nat} {p q : PR α} (h : Eb m i p q) (hj : j ≤ i) : Eb m j p q := ⟨h.1.le hj, h.2⟩
theorem Eb.of_end {α : Type} {m : Nat} {p q : PR α} (h : Bd m m p) (hq : Up m q) : Eb m m p q := by
 refine ⟨h, ?_⟩
 cases p with
 | ok a j => simp only [Bd] at h; exact ⟨fun _ => by omega, fun _ => hq⟩
 | fail e k => simp only [Bd] at h; exact ⟨fun _ => by omega, fun _ => hq⟩
theorem Eb.bind {α β : Type} {m i : Nat} {p q : PR α} {f g : α → Nat → PR β} (h : Eb m i p q) (hfg : ∀ a j, p = .ok a j → i ≤ j → j ≤ m → Eb m j (f a j) (g a j)) (hg : ∀ b j, Up j (g b j)) : Eb m i (p.bind f) (q.bind g) := by
 obtain ⟨hb, h⟩ := h
 cases p with
 | fail e k =>
  refine ⟨hb, ?_⟩
  simp only [PR.bind]
  refine ⟨fun he => by rw [h.1 he], fun he => Up.bind (h.2 he) hg⟩
 | ok a j =>
  simp only [Bd] at hb
  simp only at h
  have h2 := hfg a j rfl hb.1 hb.2
  have hbd : Bd i m (f a j) := h2.1.le hb.1
  by_cases hj : j < m
  ·rw [h.1 hj]
   exact ⟨hbd, h2.2⟩
  ·have hj : j = m := by omega
   have hq := Up.bind (f := g) (h.2 hj) hg
   refine ⟨hbd, ?_⟩
   simp only [PR.bind]
   subst hj
   have h3 := h2.1
   cases hf : f a j with
   | ok b j' => rw [hf] at h3; simp only [Bd] at h3; exact ⟨fun _ => by omega, fun _ => hq⟩
   | fail e k => rw [hf] at h3; simp only [Bd] at h3; exact ⟨fun _ => by omega, fun _ => hq⟩
theorem Eb.ok {α : Type} {m i : Nat} (a : α) (hi : i ≤ m) : Eb m i (.ok a i) (.ok a i) :=
 ⟨⟨Nat.le_refl _, hi⟩, fun _ => rfl, fun h => by simp [Up, h]⟩
def _root_.Go.Av.Net.PR.sh {α : Type} (d : Nat) : PR α → PR α
 | .ok a i => .ok a (d + i)
 | .fail e i => .fail e (d + i)
theorem _root_.Go.Av.Net.PR.sh_bind {α β : Type} (d : Nat) (p : PR α) {f g : α → Nat → PR β} (h : ∀ a j, p = .ok a j → g a (d + j) = (f a j).sh d) : (p.sh d).bind g = (p.bind f).sh d := by
 cases p with
 | ok a j => exact h a j rfl
 | fail e k => rfl
structure Par {α : Type} (P : List KT → Nat → PR α) : Prop where
 up : ∀ ts i, Up i (P ts i)
 eb : ∀ ts us i, i ≤ ts.length → Eb ts.length i (P ts i) (P (ts ++ us) i)
 sh : ∀ ts us i, i ≤ ts.length → P (us ++ ts) (us.length + i) = (P ts i).sh us.length
theorem Par.bind {α β : Type} {P : List KT → Nat → PR α} {f : α → List KT → Nat → PR β} (h : Par P) (hf : ∀ a, Par (f a)) : Par (fun ts i => (P ts i).bind fun a j => f a ts j) where
 up ts i := (h.up ts i).bind fun a j => (hf a).up ts j
 eb ts us i hi := (h.eb ts us i hi).bind (fun a j _ _ hj => (hf a).eb ts us j hj) fun b j => (hf b).up _ j
 sh ts us i hi := by
  rw [h.sh ts us i hi]
  refine PR.sh_bind _ _ fun a j q => (hf a).sh ts us j ?_
  have hb := (h.eb ts [] i hi).1
  rw [q] at hb
  exact hb.2
theorem Par.ok {α : Type} (a : α) : Par (fun ts i => .ok a i) where
 up ts i := by simp [Up]
 eb ts us i hi := Eb.ok a hi
 sh ts us i _ := rfl
theorem get_app {ts us : List KT} {i : Nat} (hi : i < ts.length) : (ts ++ us)[i]? = ts[i]? := List.getElem?_append_left hi
theorem get_sh (ts us : List KT) (i : Nat) : (us ++ ts)[us.length + i]? = ts[i]? := by rw [List.getElem?_append_right (by omega)]; congr 1; omega
/-- An item: what the token at a place decides. -/
theorem Par.item {α : Type} {P : List KT → Nat → PR α} (g : KT → Except Int α) (hP : ∀ ts i, P ts i = match ts[i]? with | none => .fail 91 i | some t => match g t with | .ok a => .ok a (i + 1) | .error e => .fail e i)
  (hg : ∀ t e, g t = .error e → e ≠ 91) : Par P where
 up ts i := by
  rw [hP]
  cases ts[i]? with
  | none => simp [Up]
  | some t => simp only; cases g t <;> simp [Up]
 eb ts us i hi := by
  rw [hP, hP]
  by_cases c : i < ts.length
  ·rw [get_app c, List.getElem?_eq_getElem c]
   simp only
   cases h : g ts[i] with
   | ok a => exact ⟨⟨by omega, by omega⟩, fun _ => rfl, fun h => by simp only [Up]; omega⟩
   | error e => exact ⟨⟨by omega, .inl ⟨hg _ _ h, c⟩⟩, fun _ => rfl, fun q => absurd q (hg _ _ h)⟩
  ·have hi : i = ts.length := by omega
   rw [List.getElem?_eq_none (by omega)]
   subst hi
   refine Eb.of_end ⟨by omega, .inr ⟨rfl, rfl⟩⟩ ?_
   cases (ts ++ us)[ts.length]? with
   | none => simp [Up]
   | some t => simp only; cases g t <;> simp [Up]
 sh ts us i _ := by
  rw [hP, hP, get_sh]
  cases ts[i]? with
  | none => rfl
  | some t => simp only; cases g t <;> rfl
theorem sees_app {ts us : List KT} {k : Int} {x : Bs} {i : Nat} (hi : i < ts.length) : seesP (ts ++ us) k x i = seesP ts k x i := by
 unfold seesP; rw [get_app hi]
theorem sees_sh (ts us : List KT) (k : Int) (x : Bs) (i : Nat) : seesP (us ++ ts) k x (us.length + i) = seesP ts k x i := by
 unfold seesP; rw [get_sh]
theorem sees_end {ts : List KT} {k : Int} {x : Bs} {i : Nat} (hi : ts.length ≤ i) : seesP ts k x i = false := by
 unfold seesP; rw [List.getElem?_eq_none hi]
theorem sees_lt {ts : List KT} {k : Int} {x : Bs} {i : Nat} (h : seesP ts k x i = true) : i < ts.length := by
 by_cases c : i < ts.length
 ·exact c
 ·rw [sees_end (by omega)] at h; cases h
/-- A test of the next token. -/
theorem Par.cond {α : Type} {k : Int} {x : Bs} {A B : List KT → Nat → PR α} (hA : Par A) (hB : Par B) : Par (fun ts i => bif seesP ts k x i then A ts i else B ts i) where
 up ts i := by
  cases seesP ts k x i with
  | true => exact hA.up ts i
  | false => exact hB.up ts i
 eb ts us i hi := by
  by_cases c : i < ts.length
  ·rw [sees_app c]
   cases seesP ts k x i with
   | true => exact hA.eb ts us i hi
   | false => exact hB.eb ts us i hi
  ·have hi : i = ts.length := by omega
   subst hi
   rw [sees_end (ts := ts) (by omega)]
   refine Eb.of_end (hB.eb ts us _ (by omega)).1 ?_
   cases seesP (ts ++ us) k x ts.length with
   | true => exact hA.up _ _
   | false => exact hB.up _ _
 sh ts us i hi := by
  rw [sees_sh]
  cases seesP ts k x i with
  | true => exact hA.sh ts us i hi
  | false => exact hB.sh ts us i hi
theorem par_expect (k : Int) (x : Bs) : Par (fun ts i => expectP ts k x i) := by
 refine Par.item (fun t => bif decide (t.1 = k) && decide (t.2 = x) then .ok () else .error 90) (fun ts i => ?_) (fun t e h => ?_)
 ·simp only [expectP, seesP, wrongP]; cases ts[i]? with
  | none => rfl
  | some t => simp only; cases (decide (t.1 = k) && decide (t.2 = x)) <;> rfl
 ·cases q : (decide (t.1 = k) && decide (t.2 = x)) <;> simp [q] at h; omega
theorem par_name : Par nameP := by
 refine Par.item (fun t => bif decide (t.1 = 1) && isNameB t.2 then .ok t.2 else .error 90) (fun ts i => ?_) (fun t e h => ?_)
 ·simp only [nameP]; cases ts[i]? with
  | none => rfl
  | some t => simp only; cases (decide (t.1 = 1) && isNameB t.2) <;> rfl
 ·cases q : (decide (t.1 = 1) && isNameB t.2) <;> simp [q] at h; omega
theorem par_number : Par numberP := by
 refine Par.item (fun t => bif decide (t.1 = 2) then .ok (decV t.2) else .error 90) (fun ts i => ?_) (fun t e h => ?_)
 ·simp only [numberP]; cases ts[i]? with
  | none => rfl
  | some t => simp only; cases decide (t.1 = 2) <;> rfl
 ·cases q : decide (t.1 = 2) <;> simp [q] at h; omega
theorem par_week : Par weekP := by
 refine Par.item (fun t => bif decide (t.1 = 2) && isWeekB t.2 then .ok (t.2.map fun b => decide (b.toNat = 49)) else .error 90) (fun ts i => ?_) (fun t e h => ?_)
 ·simp only [weekP]; cases ts[i]? with
  | none => rfl
  | some t => simp only; cases (decide (t.1 = 2) && isWeekB t.2) <;> rfl
 ·cases q : (decide (t.1 = 2) && isWeekB t.2) <;> simp [q] at h; omega
theorem par_code : Par codeP := by
 refine Par.item (fun t => bif (decide (t.1 = 1) || decide (t.1 = 2)) && isCodeB t.2 then .ok t.2 else .error 90) (fun ts i => ?_) (fun t e h => ?_)
 ·simp only [codeP]; cases ts[i]? with
  | none => rfl
  | some t => simp only; cases ((decide (t.1 = 1) || decide (t.1 = 2)) && isCodeB t.2) <;> rfl
 ·cases q : ((decide (t.1 = 1) || decide (t.1 = 2)) && isCodeB t.2) <;> simp [q] at h; omega
theorem par_ref (names : List Bs) : Par (fun ts i => refP ts names i) := by
 refine Par.item (fun t => bif decide (t.1 = 1) && isNameB t.2 then (match idxOf t.2 names with | some k => .ok k | none => .error 110) else .error 90) (fun ts i => ?_) (fun t e h => ?_)
 ·simp only [refP, nameP]
  cases ts[i]? with
  | none => rfl
  | some t =>
   simp only
   cases (decide (t.1 = 1) && isNameB t.2) with
   | false => rfl
   | true => simp only [cond_true, PR.bind]; cases idxOf t.2 names <;> rfl
 ·cases q : (decide (t.1 = 1) && isNameB t.2) <;> simp [q] at h
  ·omega
  ·cases q2 : idxOf t.2 names <;> simp [q2] at h; omega
theorem par_int : Par intP := by
 have h : Par (fun ts i => bif seesP ts 3 s_minus i then (expectP ts 3 s_minus i).bind fun _ i => (numberP ts i).bind fun n i => .ok (-n) i else numberP ts i) :=
  Par.cond ((par_expect 3 s_minus).bind fun _ => par_number.bind fun n => Par.ok _) par_number
 have e : intP = (fun ts i => bif seesP ts 3 s_minus i then (expectP ts 3 s_minus i).bind fun _ i => (numberP ts i).bind fun n i => .ok (-n) i else numberP ts i) := by
  funext ts i
  unfold intP expectP
  cases seesP ts 3 s_minus i <;> rfl
 rw [e]; exact h
theorem par_field (w : Bs) : Par (fun ts i => fieldP ts w i) :=
 (par_expect 1 w).bind fun _ => par_number.bind fun n => (par_expect 3 s_semi).bind fun _ => Par.ok n
/-! ### Loops -/
/-- While a token is seen (or, until it is). -/
def lpP {σ : Type} (b : Bool) (k : Int) (x : Bs) (B : σ → List KT → Nat → PR σ) (ts : List KT) : Nat → σ → Nat → PR σ
 | 0, s, i => .ok s i
 | f + 1, s, i => bif (seesP ts k x i == b) then (B s ts i).bind fun s i => lpP b k x B ts f s i else .ok s i
section
variable {σ : Type} {b : Bool} {k : Int} {x : Bs} {B : σ → List KT → Nat → PR σ} (hB : ∀ s, Par (B s)) (hS : ∀ s ts i s' j, B s ts i = .ok s' j → i < j)
def ex (b : Bool) : Nat := bif b then 0 else 1
include hB in
theorem lp_up (ts : List KT) : ∀ (f : Nat) (s : σ) (i : Nat), Up i (lpP b k x B ts f s i)
 | 0, s, i => by simp [lpP, Up]
 | f + 1, s, i => by
  unfold lpP
  cases (seesP ts k x i == b) with
  | true => exact ((hB s).up ts i).bind fun s j => lp_up ts f s j
  | false => simp [Up]
include hB hS in
theorem lp_fuel (ts : List KT) : ∀ (f g : Nat) (s : σ) (i : Nat), i ≤ ts.length → ts.length - i + ex b ≤ f → ts.length - i + ex b ≤ g → lpP b k x B ts f s i = lpP b k x B ts g s i
 | 0, 0, s, i, _, _, _ => rfl
 | 0, g + 1, s, i, hi, h, _ => by
  cases b with
  | false => simp [ex] at h
  | true => simp [ex] at h; simp only [lpP]; rw [sees_end (by omega)]; rfl
 | f + 1, 0, s, i, hi, _, h => by
  cases b with
  | false => simp [ex] at h
  | true => simp [ex] at h; simp only [lpP]; rw [sees_end (by omega)]; rfl
 | f + 1, g + 1, s, i, hi, h1, h2 => by
  unfold lpP
  cases c : (seesP ts k x i == b) with
  | false => rfl
  | true =>
   simp only [cond_true]
   cases q : B s ts i with
   | fail e m => rfl
   | ok s' j =>
    have := hS s ts i s' j q
    have hb := ((hB s).eb ts [] i hi).1
    rw [q] at hb
    simp only [Bd] at hb
    simp only [PR.bind]
    exact lp_fuel ts f g s' j hb.2 (by omega) (by omega)
include hB hS in
theorem lp_eb (ts us : List KT) : ∀ (f g : Nat) (s : σ) (i : Nat), i ≤ ts.length → ts.length - i + ex b ≤ f → (ts ++ us).length - i + ex b ≤ g → Eb ts.length i (lpP b k x B ts f s i) (lpP b k x B (ts ++ us) g s i) := by
 intro f
 induction f with
 | zero =>
  intro g s i hi h1 h2
  have : i = ts.length := by omega
  subst this
  exact Eb.of_end ⟨Nat.le_refl _, Nat.le_refl _⟩ (lp_up hB _ _ _ _)
 | succ f ih =>
  intro g s i hi h1 h2
  by_cases c : i < ts.length
  ·cases g with
   | zero => simp at h2; omega
   | succ g =>
    unfold lpP
    rw [sees_app c]
    cases (seesP ts k x i == b) with
    | false => exact Eb.ok s hi
    | true =>
     exact ((hB s).eb ts us i hi).bind (fun a j hq hj hm => ih g a j hm (by have := hS _ _ _ _ _ hq; omega) (by have := hS _ _ _ _ _ hq; simp only [List.length_append] at *; omega)) fun a j => lp_up hB _ _ _ _
  ·have : i = ts.length := by omega
   subst this
   refine Eb.of_end ?_ (lp_up hB _ _ _ _)
   unfold lpP
   rw [sees_end (by omega)]
   cases b with
   | true => exact ⟨Nat.le_refl _, Nat.le_refl _⟩
   | false =>
    simp only [beq_self_eq_true, cond_true]
    have h3 := ((hB s).eb ts us ts.length (by omega)).1
    cases q : B s ts ts.length with
    | fail e m => rw [q] at h3; exact h3
    | ok s' j => rw [q] at h3; simp only [Bd] at h3; have := hS _ _ _ _ _ q; omega
include hB in
theorem lp_sh (ts us : List KT) : ∀ (f : Nat) (s : σ) (i : Nat), i ≤ ts.length → lpP b k x B (us ++ ts) f s (us.length + i) = (lpP b k x B ts f s i).sh us.length
 | 0, s, i, _ => rfl
 | f + 1, s, i, hi => by
  unfold lpP
  rw [sees_sh]
  cases (seesP ts k x i == b) with
  | false => rfl
  | true =>
   simp only [cond_true]
   rw [(hB s).sh ts us i hi]
   refine PR.sh_bind _ _ fun a j q => lp_sh ts us f a j ?_
   have hb := ((hB s).eb ts [] i hi).1
   rw [q] at hb
   exact hb.2
include hB hS in
theorem par_lp (s : σ) (F : Nat → Nat) (hF : ∀ n, n + ex b ≤ F n) : Par (fun ts i => lpP b k x B ts (F ts.length) s i) where
 up ts i := lp_up hB ts _ _ _
 eb ts us i hi := lp_eb hB hS ts us _ _ s i hi (by have := hF ts.length; omega) (by have := hF (ts ++ us).length; omega)
 sh ts us i hi := by
  rw [lp_fuel hB hS (us ++ ts) _ (F (us ++ ts).length + F ts.length) s _ (by simp; omega) (by have := hF (us ++ ts).length; simp only [List.length_append] at *; omega) (by have := hF (us ++ ts).length; simp only [List.length_append] at *; omega),
   lp_fuel hB hS ts (F ts.length) (F (us ++ ts).length + F ts.length) s i hi (by have := hF ts.length; omega) (by have := hF ts.length; omega)]
  exact lp_sh hB ts us _ s i hi
end
end Go.Proofs.YtmhlneeboefkgaaGreatDoor.Pl

set_option linter.unusedVariables false
set_option linter.unusedSimpArgs false
namespace Go.Proofs.YtmhlneeboefkgaaGreatDoor.Pl
open Go.Av Go.Av.Net
theorem PR.bind_ok {α β : Type} {p : PR α} {f : α → Nat → PR β} {b : β} {j : Nat} (h : p.bind f = .ok b j) : ∃ a i, p = .ok a i ∧ f a i = .ok b j := by
 cases p with
 | ok a i => exact ⟨a, i, rfl, h⟩
 | fail e k => cases h
theorem PR.asso {α β γ : Type} (x : PR α) (f : α → Nat → PR β) (g : β → Nat → PR γ) : (x.bind f).bind g = x.bind fun a i => (f a i).bind g := by cases x <;> rfl
theorem PR.bind_id {α : Type} (x : PR α) : (x.bind fun a i => .ok a i) = x := by cases x <;> rfl
theorem PR.bind_congr {α β : Type} {x : PR α} {f g : α → Nat → PR β} (h : ∀ a i, x = .ok a i → f a i = g a i) : x.bind f = x.bind g := by
 cases x with
 | ok a i => exact h a i rfl
 | fail e k => rfl
theorem expect_to {ts : List KT} {k : Int} {x : Bs} {i j : Nat} {a : Unit} (h : expectP ts k x i = .ok a j) : j = i + 1 := by
 unfold expectP wrongP at h
 cases hs : seesP ts k x i with
 | true => rw [hs] at h; simp only [cond_true, PR.ok.injEq] at h; omega
 | false => rw [hs] at h; simp only [cond_false] at h; split at h <;> cases h
theorem code_to {ts : List KT} {i j : Nat} {a : Bs} (h : codeP ts i = .ok a j) : j = i + 1 := by
 unfold codeP at h
 split at h
 ·cases h
 ·rename_i t _
  cases hs : ((decide (t.1 = 1) || decide (t.1 = 2)) && isCodeB t.2) <;> rw [hs] at h <;> simp only [cond_true, cond_false, PR.ok.injEq, reduceCtorEq] at h; omega
theorem Up.lt {α : Type} {m j : Nat} {p : PR α} {a : α} (h : Up m p) (hp : p = .ok a j) : m ≤ j := by rw [hp] at h; exact h
/-- What begins with a token that is asked for goes on by one at least. -/
theorem lt_expect {α : Type} {ts : List KT} {k : Int} {x : Bs} {i j : Nat} {a : α} {f : Unit → Nat → PR α} (h : (expectP ts k x i).bind f = .ok a j) (hf : ∀ a j, Up j (f a j)) : i < j := by
 obtain ⟨u, i', h1, h2⟩ := PR.bind_ok h
 have e := expect_to h1
 have := (hf u i').lt h2
 omega
def holB (l : List Int) (ts : List KT) (i : Nat) : PR (List Int) := (expectP ts 1 w_holiday i).bind fun _ i => (intP ts i).bind fun n i => (expectP ts 3 s_semi i).bind fun _ i => .ok (l ++ [n]) i
theorem par_holB (l : List Int) : Par (holB l) := (par_expect 1 w_holiday).bind fun _ => par_int.bind fun n => (par_expect 3 s_semi).bind fun _ => Par.ok _
theorem hols_lp (ts : List KT) : ∀ (f : Nat) (l : List Int) (i : Nat), lpP true 1 w_holiday holB ts f l i = (holsP ts f i).bind fun r i => .ok (l ++ r) i
 | 0, l, i => by simp [lpP, holsP, PR.bind]
 | f + 1, l, i => by
  unfold lpP holsP
  cases seesP ts 1 w_holiday i with
  | false => simp [PR.bind]
  | true =>
   simp only [beq_self_eq_true, cond_true, holB, PR.asso]
   refine PR.bind_congr fun _ i _ => PR.bind_congr fun n i _ => PR.bind_congr fun _ i _ => ?_
   simp only [PR.bind]
   rw [hols_lp ts f]
   refine PR.bind_congr fun r i _ => ?_
   simp [PR.bind]
theorem par_hols : Par (fun ts i => holsP ts ts.length i) := by
 have h := par_lp (b := true) (k := 1) (x := w_holiday) par_holB (fun s ts i s' j h => lt_expect h fun a j => (par_int.bind fun n => (par_expect 3 s_semi).bind fun _ => Par.ok (s ++ [n])).up ts j) [] (fun n => n) (by simp [ex])
 have e : (fun ts i => holsP ts ts.length i) = (fun (ts : List KT) i => lpP true 1 w_holiday holB ts ts.length [] i) := by
  funext ts i
  rw [hols_lp]
  simp [PR.bind_id]
 rw [e]; exact h
def codB (l : List Bs) (ts : List KT) (i : Nat) : PR (List Bs) := (codeP ts i).bind fun c i => .ok (l ++ [c]) i
theorem par_codB (l : List Bs) : Par (codB l) := par_code.bind fun _ => Par.ok _
theorem codes_lp (ts : List KT) : ∀ (f : Nat) (l : List Bs) (i : Nat), lpP false 3 s_semi codB ts f l i = (codesP ts f i).bind fun r i => .ok (l ++ r) i
 | 0, l, i => by simp [lpP, codesP, PR.bind]
 | f + 1, l, i => by
  unfold lpP codesP
  cases seesP ts 3 s_semi i with
  | true => simp [PR.bind]
  | false =>
   simp only [beq_self_eq_true, cond_true, cond_false, codB, PR.asso]
   refine PR.bind_congr fun c i _ => ?_
   simp only [PR.bind]
   rw [codes_lp ts f]
   refine PR.bind_congr fun r i _ => ?_
   simp [PR.bind]
theorem par_codes : Par (fun ts i => codesP ts (ts.length + 1) i) := by
 have h := par_lp (b := false) (k := 3) (x := s_semi) par_codB (fun s ts i s' j h => by obtain ⟨u, i', h1, h2⟩ := PR.bind_ok h; have := code_to h1; cases h2; omega) [] (fun n => n + 1) (by simp [ex])
 have e : (fun ts i => codesP ts (ts.length + 1) i) = (fun (ts : List KT) i => lpP false 3 s_semi codB ts (ts.length + 1) [] i) := by
  funext ts i
  rw [codes_lp]
  simp [PR.bind_id]
 rw [e]; exact h
theorem par_codesAll : Par codesAllP :=
 Par.cond ((par_expect 1 w_codes).bind fun _ => par_code.bind fun c => par_codes.bind fun l => (par_expect 3 s_semi).bind fun _ => Par.ok _) (Par.ok [])
/-! ### Things: the last token is one that is asked for -/
structure Clo {α : Type} (P : List KT → Nat → PR α) : Prop extends Par P where
 st : ∀ ts i a j, P ts i = .ok a j → i < j
 ext : ∀ ts us i a j, i ≤ ts.length → P ts i = .ok a j → P (ts ++ us) i = .ok a j
 cut : ∀ ts us i a j, i ≤ ts.length → P (ts ++ us) i = .ok a j → (j ≤ ts.length → P ts i = .ok a j) ∧ (ts.length < j → ∃ k, P ts i = .fail 91 k)
theorem Clo.at_end {α : Type} {P : List KT → Nat → PR α} (h : Clo P) (ts : List KT) : ∃ k, P ts ts.length = .fail 91 k := by
 have hb := (h.eb ts [] ts.length (Nat.le_refl _)).1
 cases q : P ts ts.length with
 | ok a j => have := h.st _ _ _ _ q; rw [q] at hb; simp only [Bd] at hb; omega
 | fail e k =>
  rw [q] at hb; simp only [Bd] at hb
  rcases hb.2 with h1 | h1
  ·omega
  ·exact ⟨k, by rw [h1.1]⟩
theorem Par.clo {α β : Type} {P : List KT → Nat → PR α} {f : α → List KT → Nat → PR β} (h : Par P) (hf : ∀ a, Clo (f a)) : Clo (fun ts i => (P ts i).bind fun a j => f a ts j) := by
 refine ⟨h.bind fun a => (hf a).toPar, fun ts i a j q => ?_, fun ts us i a j hi q => ?_, fun ts us i b j hi q => ?_⟩
 ·obtain ⟨c, k, h1, h2⟩ := PR.bind_ok q
  have := (hf c).st _ _ _ _ h2
  have := (h.up ts i).lt h1
  omega
 ·obtain ⟨c, k, h1, h2⟩ := PR.bind_ok q
  have hE := h.eb ts us i hi
  rw [h1] at hE
  obtain ⟨hb, e1, e2⟩ := hE
  simp only [Bd] at hb
  have hs := (hf c).st _ _ _ _ h2
  have hb2 := ((hf c).eb ts [] k hb.2).1
  rw [h2] at hb2
  simp only [Bd] at hb2
  rw [e1 (by omega)]
  exact (hf c).ext ts us k a j hb.2 h2
 ·obtain ⟨c, k, h1, h2⟩ := PR.bind_ok q
  have hE := h.eb ts us i hi
  have hs := (hf c).st _ _ _ _ h2
  cases hp : P ts i with
  | ok a' k' =>
   rw [hp] at hE
   obtain ⟨hb, e1, e2⟩ := hE
   simp only [Bd] at hb
   by_cases c1 : k' < ts.length
   ·have := e1 c1
    rw [h1] at this
    cases this
    exact (hf c).cut ts us k b j hb.2 h2
   ·have : k' = ts.length := by omega
    subst this
    have := (e2 rfl).lt h1
    refine ⟨fun _ => by omega, fun _ => ?_⟩
    exact (hf a').at_end ts
  | fail e k' =>
   rw [hp] at hE
   obtain ⟨hb, e1, e2⟩ := hE
   by_cases c1 : e = 91
   ·subst c1
    have := (e2 rfl).lt h1
    exact ⟨fun _ => by omega, fun _ => ⟨k', rfl⟩⟩
   ·rw [e1 c1] at h1; cases h1
theorem clo_expect {α : Type} (k : Int) (x : Bs) (a : α) : Clo (fun ts i => (expectP ts k x i).bind fun _ i => .ok a i) := by
 refine ⟨(par_expect k x).bind fun _ => Par.ok a, fun ts i b j q => ?_, fun ts us i b j hi q => ?_, fun ts us i b j hi q => ?_⟩
 ·obtain ⟨u, i', h1, h2⟩ := PR.bind_ok q
  have := expect_to h1; cases h2; omega
 ·obtain ⟨u, i', h1, h2⟩ := PR.bind_ok q
  have hc : i < ts.length := by
   unfold expectP wrongP at h1
   cases hs : seesP ts k x i with
   | true => exact sees_lt hs
   | false => rw [hs] at h1; simp only [cond_false] at h1; split at h1 <;> cases h1
  have e : expectP (ts ++ us) k x i = expectP ts k x i := by unfold expectP wrongP; rw [sees_app hc, get_app hc]
  rw [e]; exact q
 ·obtain ⟨u, i', h1, h2⟩ := PR.bind_ok q
  have := expect_to h1; cases h2
  by_cases hc : i < ts.length
  ·have e : expectP (ts ++ us) k x i = expectP ts k x i := by unfold expectP wrongP; rw [sees_app hc, get_app hc]
   rw [e] at q
   exact ⟨fun _ => q, fun _ => by omega⟩
  ·refine ⟨fun _ => by omega, fun _ => ⟨i, ?_⟩⟩
   unfold expectP wrongP
   rw [sees_end (by omega), List.getElem?_eq_none (by omega)]
   rfl
theorem Clo.map {α β : Type} {P : List KT → Nat → PR α} (h : Clo P) (g : α → β) : Clo (fun ts i => (P ts i).bind fun a j => .ok (g a) j) := by
 refine ⟨h.toPar.bind fun a => Par.ok _, fun ts i a j q => ?_, fun ts us i a j hi q => ?_, fun ts us i b j hi q => ?_⟩
 ·obtain ⟨c, k, h1, h2⟩ := PR.bind_ok q
  cases h2; exact h.st _ _ _ _ h1
 ·obtain ⟨c, k, h1, h2⟩ := PR.bind_ok q
  rw [h.ext ts us i c k hi h1]; exact h2
 ·obtain ⟨c, k, h1, h2⟩ := PR.bind_ok q
  cases h2
  obtain ⟨c1, c2⟩ := h.cut ts us i c j hi h1
  refine ⟨fun hj => by rw [c1 hj]; rfl, fun hj => ?_⟩
  obtain ⟨k, hk⟩ := c2 hj
  exact ⟨k, by rw [hk]; rfl⟩
theorem clo_cal : Clo calP :=
 (par_expect 1 w_calendar).clo fun _ => par_name.clo fun name => (par_expect 3 s_lb).clo fun _ => (par_expect 1 w_zone).clo fun _ => par_int.clo fun zone => (par_expect 3 s_semi).clo fun _ =>
  (par_expect 1 w_week).clo fun _ => par_week.clo fun week => (par_expect 3 s_semi).clo fun _ => par_hols.clo fun hols => clo_expect 3 s_rb ((name, ⟨zone, week, hols⟩) : Bs × Cal)
theorem clo_oper : Clo operP := (par_expect 1 w_operator).clo fun _ => par_name.clo fun name => clo_expect 3 s_semi name
theorem clo_off (n : Nw) : Clo (fun ts i => offP ts n i) :=
 (par_expect 1 w_office).clo fun _ => par_name.clo fun name => (par_expect 3 s_lb).clo fun _ => (par_expect 1 w_operator).clo fun _ => (par_ref n.opers).clo fun oper => (par_expect 3 s_semi).clo fun _ =>
  (par_expect 1 w_calendar).clo fun _ => (par_ref n.names).clo fun cal => (par_expect 3 s_semi).clo fun _ => (par_field w_pockets).clo fun a => (par_field w_passes).clo fun b => (par_field w_minutes).clo fun c =>
  par_codesAll.clo fun codes => clo_expect 3 s_rb (⟨name, oper, cal, a, b, c, codes⟩ : Off)
theorem clo_lin (n : Nw) : Clo (fun ts i => linP ts n i) :=
 (par_expect 1 w_line).clo fun _ => par_name.clo fun name => (par_expect 3 s_colon).clo fun _ => (par_ref _).clo fun a => (par_expect 3 s_arrow).clo fun _ => (par_ref _).clo fun b =>
  (par_expect 1 w_at).clo fun _ => par_number.clo fun c => (par_expect 1 w_travel).clo fun _ => par_number.clo fun d => (par_expect 1 w_load).clo fun _ => par_number.clo fun e => clo_expect 3 s_semi (⟨name, a, b, c, d, e⟩ : Lin)
theorem clo_cls : Clo clsP :=
 (par_expect 1 w_class).clo fun _ => par_name.clo fun name => (par_expect 3 s_lb).clo fun _ => (par_field w_cut).clo fun a => (par_field w_deliver).clo fun b => clo_expect 3 s_rb (⟨name, a, b⟩ : Cls)
/-! ### Sections -/
def calS (n : Nw) (ts : List KT) (i : Nat) : PR Nw := (calP ts i).bind fun c i => .ok { n with cals := n.cals ++ [c.2], names := n.names ++ [c.1] } i
def operS (n : Nw) (ts : List KT) (i : Nat) : PR Nw := (operP ts i).bind fun c i => .ok { n with opers := n.opers ++ [c] } i
def offS (n : Nw) (ts : List KT) (i : Nat) : PR Nw := (offP ts n i).bind fun c i => .ok { n with offs := n.offs ++ [c] } i
def linS (n : Nw) (ts : List KT) (i : Nat) : PR Nw := (linP ts n i).bind fun c i => .ok { n with lins := n.lins ++ [c] } i
def clsS (n : Nw) (ts : List KT) (i : Nat) : PR Nw := (clsP ts i).bind fun c i => .ok { n with clss := n.clss ++ [c] } i
theorem clo_calS (n : Nw) : Clo (calS n) := clo_cal.map _
theorem clo_operS (n : Nw) : Clo (operS n) := clo_oper.map _
theorem clo_offS (n : Nw) : Clo (offS n) := (clo_off n).map _
theorem clo_linS (n : Nw) : Clo (linS n) := (clo_lin n).map _
theorem clo_clsS (n : Nw) : Clo (clsS n) := clo_cls.map _
theorem cals_lp (ts : List KT) : ∀ (f : Nat) (n : Nw) (i : Nat), calsP ts f n i = lpP true 1 w_calendar calS ts f n i
 | 0, n, i => rfl
 | f + 1, n, i => by
  unfold lpP calsP
  cases seesP ts 1 w_calendar i with
  | false => rfl
  | true => simp only [beq_self_eq_true, cond_true, calS, PR.asso]; exact PR.bind_congr fun c i _ => cals_lp ts f _ i
theorem opers_lp (ts : List KT) : ∀ (f : Nat) (n : Nw) (i : Nat), opersP ts f n i = lpP true 1 w_operator operS ts f n i
 | 0, n, i => rfl
 | f + 1, n, i => by
  unfold lpP opersP
  cases seesP ts 1 w_operator i with
  | false => rfl
  | true => simp only [beq_self_eq_true, cond_true, operS, PR.asso]; exact PR.bind_congr fun c i _ => opers_lp ts f _ i
theorem offs_lp (ts : List KT) : ∀ (f : Nat) (n : Nw) (i : Nat), offsP ts f n i = lpP true 1 w_office offS ts f n i
 | 0, n, i => rfl
 | f + 1, n, i => by
  unfold lpP offsP
  cases seesP ts 1 w_office i with
  | false => rfl
  | true => simp only [beq_self_eq_true, cond_true, offS, PR.asso]; exact PR.bind_congr fun c i _ => offs_lp ts f _ i
theorem lins_lp (ts : List KT) : ∀ (f : Nat) (n : Nw) (i : Nat), linsP ts f n i = lpP true 1 w_line linS ts f n i
 | 0, n, i => rfl
 | f + 1, n, i => by
  unfold lpP linsP
  cases seesP ts 1 w_line i with
  | false => rfl
  | true => simp only [beq_self_eq_true, cond_true, linS, PR.asso]; exact PR.bind_congr fun c i _ => lins_lp ts f _ i
theorem clss_lp (ts : List KT) : ∀ (f : Nat) (n : Nw) (i : Nat), clssP ts f n i = lpP true 1 w_class clsS ts f n i
 | 0, n, i => rfl
 | f + 1, n, i => by
  unfold lpP clssP
  cases seesP ts 1 w_class i with
  | false => rfl
  | true => simp only [beq_self_eq_true, cond_true, clsS, PR.asso]; exact PR.bind_congr fun c i _ => clss_lp ts f _ i
def sec (k : Bs) (B : Nw → List KT → Nat → PR Nw) (n : Nw) (ts : List KT) (i : Nat) : PR Nw := lpP true 1 k B ts ts.length n i
theorem par_sec {k : Bs} {B : Nw → List KT → Nat → PR Nw} (hB : ∀ n, Clo (B n)) (n : Nw) : Par (sec k B n) :=
 par_lp (b := true) (k := 1) (x := k) (fun s => (hB s).toPar) (fun s ts i s' j h => (hB s).st _ _ _ _ h) n (fun n => n) (by simp [ex])
def finP (n : Nw) (ts : List KT) (i : Nat) : PR Nw := bif decide (i < ts.length) then .fail 90 i else .ok n i
theorem par_fin (n : Nw) : Par (finP n) where
 up ts i := by unfold finP; cases decide (i < ts.length) <;> simp [Up]
 eb ts us i hi := by
  unfold finP
  by_cases c : i < ts.length
  ·rw [decide_eq_true c, decide_eq_true (by simp; omega)]
   exact ⟨⟨Nat.le_refl _, .inl ⟨by decide, c⟩⟩, fun _ => rfl, fun h => by cases h⟩
  ·have : i = ts.length := by omega
   subst this
   rw [decide_eq_false (by omega)]
   refine Eb.of_end ⟨Nat.le_refl _, Nat.le_refl _⟩ ?_
   cases decide (ts.length < (ts ++ us).length) <;> simp [Up]
 sh ts us i hi := by
  unfold finP
  rw [show decide (us.length + i < (us ++ ts).length) = decide (i < ts.length) by simp]
  cases decide (i < ts.length) <;> rfl
/-- The network that the tokens from a place on are. -/
def netQ (ts : List KT) (i : Nat) : PR Nw :=
 (sec w_calendar calS nw0 ts i).bind fun n i => (sec w_operator operS n ts i).bind fun n i => (sec w_office offS n ts i).bind fun n i => (sec w_line linS n ts i).bind fun n i => (sec w_class clsS n ts i).bind fun n i => finP n ts i
theorem netP_eq (ts : List KT) : netP ts = netQ ts 0 := by
 unfold netP netQ sec
 simp only [cals_lp, opers_lp, offs_lp, lins_lp, clss_lp]
 rfl
theorem par_net : Par netQ := (par_sec clo_calS nw0).bind fun n => (par_sec clo_operS n).bind fun n => (par_sec clo_offS n).bind fun n => (par_sec clo_linS n).bind fun n => (par_sec clo_clsS n).bind fun n => par_fin n
/-- An error that is not the end: the tokens up to it have it too, and those before it none, or the end. -/
theorem net_first {ts : List KT} {e : Int} {k : Nat} (h : netP ts = .fail e k) : (e = 91 ∧ k = ts.length) ∨ (k < ts.length ∧ e ≠ 91 ∧ netP (ts.take (k + 1)) = .fail e k ∧ ((∃ n j, netP (ts.take k) = .ok n j) ∨ ∃ j, netP (ts.take k) = .fail 91 j)) := by
 rw [netP_eq] at h
 have hb := (par_net.eb ts [] 0 (Nat.zero_le _)).1
 rw [h] at hb
 simp only [Bd] at hb
 rcases hb.2 with ⟨h1, h2⟩ | h1
 ·refine .inr ⟨h2, h1, ?_, ?_⟩
  ·have hE := par_net.eb (ts.take (k + 1)) (ts.drop (k + 1)) 0 (Nat.zero_le _)
   rw [List.take_append_drop, h] at hE
   rw [netP_eq]
   obtain ⟨hbd, hE⟩ := hE
   cases q : netQ (ts.take (k + 1)) 0 with
   | ok n j =>
    rw [q] at hE hbd
    simp only [Bd, List.length_take] at hbd
    simp only [List.length_take] at hE
    by_cases c : j < min (k + 1) ts.length
    ·have := hE.1 c; cases this
    ·have := hE.2 (by omega); simp only [Up] at this; omega
   | fail e' j =>
    rw [q] at hE hbd
    simp only [List.length_take] at hE
    by_cases c : e' = 91
    ·have := hE.2 c; simp only [Up] at this; omega
    ·have := hE.1 c; cases this; rfl
  ·have hE := par_net.eb (ts.take k) (ts.drop k) 0 (Nat.zero_le _)
   rw [List.take_append_drop, h] at hE
   rw [netP_eq]
   obtain ⟨hbd, hE⟩ := hE
   cases q : netQ (ts.take k) 0 with
   | ok n j => exact .inl ⟨n, j, rfl⟩
   | fail e' j =>
    rw [q] at hE hbd
    by_cases c : e' = 91
    ·exact .inr ⟨j, by rw [c]⟩
    ·have := hE.1 c
     cases this
     simp only [Bd, List.length_take] at hbd
     omega
 ·exact .inl h1
end Go.Proofs.YtmhlneeboefkgaaGreatDoor.Pl

set_option linter.unusedVariables false
set_option linter.unusedSimpArgs false
namespace Go.Proofs.YtmhlneeboefkgaaGreatDoor.Pl
open Go.Av Go.Av.Net
/-! ### Beginnings of a text that is parsed -/
/-- The ends of the things of a section, and the network at each. -/
def lpE (k : Bs) (B : Nw → List KT → Nat → PR Nw) (ts : List KT) : Nat → Nw → Nat → List (Nat × Nw)
 | 0, _, _ => []
 | f + 1, n, i => bif seesP ts 1 k i then (match B n ts i with | .ok s j => (j, s) :: lpE k B ts f s j | .fail _ _ => []) else []
theorem Eb.ok_lt {α : Type} {m i j : Nat} {p : PR α} {a : α} (h : Eb m i p (.ok a j)) (hj : j < m) : p = .ok a j := by
 obtain ⟨hb, h⟩ := h
 cases p with
 | ok b k =>
  by_cases c : k < m
  ·exact (h.1 c).symm
  ·have := h.2 (by simp only [Bd] at hb; omega); simp only [Up] at this; omega
 | fail e k =>
  by_cases c : e = 91
  ·have := h.2 c; simp only [Up] at this; omega
  ·have := h.1 c; cases this
section
variable {k : Bs} {B : Nw → List KT → Nat → PR Nw} (hB : ∀ n, Clo (B n))
include hB in
theorem lpE_gt (ts : List KT) : ∀ (f : Nat) (n : Nw) (i : Nat), ∀ x ∈ lpE k B ts f n i, i < x.1
 | 0, n, i, x, hx => by simp [lpE] at hx
 | f + 1, n, i, x, hx => by
  unfold lpE at hx
  cases c : seesP ts 1 k i with
  | false => rw [c] at hx; simp at hx
  | true =>
   rw [c] at hx
   simp only [cond_true] at hx
   cases q : B n ts i with
   | fail e m => rw [q] at hx; simp at hx
   | ok s j =>
    rw [q] at hx
    have := (hB n).st _ _ _ _ q
    rcases List.mem_cons.1 hx with rfl | hx
    ·exact this
    ·have := lpE_gt ts f s j x hx; omega
include hB in
theorem lpE_last (ts : List KT) : ∀ (f : Nat) (n n' : Nw) (i j : Nat), lpP true 1 k B ts f n i = .ok n' j → (j, n') ∈ (i, n) :: lpE k B ts f n i ∧ (∀ x ∈ (i, n) :: lpE k B ts f n i, x.1 ≤ j) ∧ ((i, n) :: lpE k B ts f n i).Pairwise (fun a b => a.1 < b.1)
 | 0, n, n', i, j, h => by cases h; simp [lpE]
 | f + 1, n, n', i, j, h => by
  unfold lpP at h
  unfold lpE
  cases c : seesP ts 1 k i with
  | false => rw [c] at h; cases h; simp
  | true =>
   rw [c] at h
   simp only [beq_self_eq_true, cond_true] at h ⊢
   obtain ⟨s, j1, h1, h2⟩ := PR.bind_ok h
   rw [h1]
   simp only
   have h0 := (hB n).st _ _ _ _ h1
   obtain ⟨q1, q2, q3⟩ := lpE_last ts f s n' j1 j h2
   refine ⟨List.mem_cons_of_mem _ q1, fun x hx => ?_, ?_⟩
   ·rcases List.mem_cons.1 hx with rfl | hx
    ·have := q2 _ (List.mem_cons_self ..); simp only at *; omega
    ·exact q2 x hx
   ·refine List.pairwise_cons.2 ⟨fun x hx => ?_, q3⟩
    rcases List.mem_cons.1 hx with rfl | hx
    ·exact h0
    ·have := lpE_gt hB ts f s j1 x hx; simp only; omega
theorem lp_end (ts : List KT) : ∀ (f : Nat) (n : Nw), lpP true 1 k B ts f n ts.length = .ok n ts.length
 | 0, n => rfl
 | f + 1, n => by unfold lpP; rw [sees_end (Nat.le_refl _)]; rfl
include hB in
theorem lp_cut (ts us : List KT) : ∀ (g f : Nat) (n n' : Nw) (i j : Nat), i ≤ ts.length → ts.length - i ≤ f → lpP true 1 k B (ts ++ us) g n i = .ok n' j → ts.length ≤ j →
  (∃ x ∈ (i, n) :: lpE k B (ts ++ us) g n i, x.1 = ts.length ∧ lpP true 1 k B ts f n i = .ok x.2 ts.length) ∨ ((∀ x ∈ (i, n) :: lpE k B (ts ++ us) g n i, x.1 ≠ ts.length) ∧ ∃ m, lpP true 1 k B ts f n i = .fail 91 m) := by
 intro g
 induction g with
 | zero =>
  intro f n n' i j hi hf h hj
  cases h
  have : i = ts.length := by omega
  subst this
  exact .inl ⟨_, List.mem_cons_self .., rfl, lp_end ts f n⟩
 | succ g ih =>
  intro f n n' i j hi hf h hj
  by_cases c : i < ts.length
  ·obtain ⟨f, rfl⟩ : ∃ f', f = f' + 1 := ⟨f - 1, by omega⟩
   unfold lpP at h ⊢
   unfold lpE
   rw [sees_app c] at *
   cases c2 : seesP ts 1 k i with
   | false => rw [c2] at h; cases h; omega
   | true =>
    rw [c2] at h
    simp only [beq_self_eq_true, cond_true] at h ⊢
    obtain ⟨s, j1, h1, h2⟩ := PR.bind_ok h
    have h0 := (hB n).st _ _ _ _ h1
    obtain ⟨q1, q2⟩ := (hB n).cut ts us i s j1 hi h1
    rw [h1]
    simp only
    by_cases c3 : j1 ≤ ts.length
    ·rw [q1 c3]
     simp only [PR.bind]
     rcases ih f s n' j1 j c3 (by omega) h2 hj with ⟨x, hx, r1, r2⟩ | ⟨r1, r2⟩
     ·exact .inl ⟨x, List.mem_cons_of_mem _ hx, r1, r2⟩
     ·refine .inr ⟨fun x hx => ?_, r2⟩
      rcases List.mem_cons.1 hx with rfl | hx
      ·simp only; omega
      ·exact r1 x hx
    ·obtain ⟨m, hm⟩ := q2 (by omega)
     rw [hm]
     refine .inr ⟨fun x hx => ?_, ⟨m, rfl⟩⟩
     rcases List.mem_cons.1 hx with rfl | hx
     ·simp only; omega
     ·rcases List.mem_cons.1 hx with rfl | hx
      ·simp only; omega
      ·have := lpE_gt hB _ _ _ _ x hx; omega
  ·have : i = ts.length := by omega
   subst this
   exact .inl ⟨_, List.mem_cons_self .., rfl, lp_end ts f n⟩
end
inductive Th where
 | cal (n : Bs) (c : Cal)
 | oper (n : Bs)
 | off (o : Off)
 | lin (l : Lin)
 | cls (c : Cls)
/-- The things of a network in their order. -/
def flat (n : Nw) : List Th := List.zipWith Th.cal n.names n.cals ++ (n.opers.map Th.oper ++ (n.offs.map Th.off ++ (n.lins.map Th.lin ++ n.clss.map Th.cls)))
structure Ph where
 key : Bs
 B : Nw → List KT → Nat → PR Nw
 lv : Nw → Prop
structure PhOK (p : Ph) : Prop where
 clo : ∀ n, Clo (p.B n)
 nms : ∀ s, p.lv s → s.names.length = s.cals.length
 step : ∀ s ts i s' j, p.lv s → p.B s ts i = .ok s' j → p.lv s' ∧ ∃ t, flat s' = flat s ++ [t]
def run : List Ph → List KT → Nw → Nat → PR Nw
 | [], ts, n, i => finP n ts i
 | p :: r, ts, n, i => (sec p.key p.B n ts i).bind fun n i => run r ts n i
def runE : List Ph → List KT → Nw → Nat → List (Nat × Nw)
 | [], _, _, _ => []
 | p :: r, ts, n, i => lpE p.key p.B ts ts.length n i ++ (match sec p.key p.B n ts i with | .ok n j => runE r ts n j | .fail _ _ => [])
inductive Chn : List Ph → Prop
 | nil : Chn []
 | one {p} : PhOK p → Chn [p]
 | cons {p q r} : PhOK p → (∀ n, p.lv n → q.lv n) → Chn (q :: r) → Chn (p :: q :: r)
theorem Chn.ok {p : Ph} {r : List Ph} (h : Chn (p :: r)) : PhOK p := by cases h <;> assumption
theorem Chn.tail {p : Ph} {r : List Ph} (h : Chn (p :: r)) : Chn r := by cases h <;> first | assumption | exact .nil
theorem run_end : ∀ (r : List Ph) (ts : List KT) (n : Nw), run r ts n ts.length = .ok n ts.length
 | [], ts, n => by unfold run finP; rw [decide_eq_false (by omega)]; rfl
 | p :: r, ts, n => by
  unfold run sec
  rw [lp_end]
  exact run_end r ts n
theorem runE_gt : ∀ (r : List Ph), Chn r → ∀ (ts : List KT) (n : Nw) (i : Nat), ∀ x ∈ runE r ts n i, i < x.1
 | [], _, ts, n, i, x, hx => by simp [runE] at hx
 | p :: r, h, ts, n, i, x, hx => by
  unfold runE at hx
  rcases List.mem_append.1 hx with hx | hx
  ·exact lpE_gt h.ok.clo _ _ _ _ x hx
  ·cases q : sec p.key p.B n ts i with
   | fail e k => rw [q] at hx; simp at hx
   | ok n' j =>
    rw [q] at hx
    have h1 := runE_gt r h.tail ts n' j x hx
    have h2 := (par_sec h.ok.clo n (k := p.key)).up ts i
    rw [q] at h2
    simp only [Up] at h2
    omega
theorem runE_sorted : ∀ (r : List Ph), Chn r → ∀ (ts : List KT) (n N : Nw) (i L : Nat), run r ts n i = .ok N L → (runE r ts n i).Pairwise (fun a b => a.1 < b.1) ∧ ∀ x ∈ runE r ts n i, x.1 ≤ L
 | [], _, ts, n, N, i, L, _ => by simp [runE]
 | p :: r, h, ts, n, N, i, L, hr => by
  unfold run at hr
  obtain ⟨n', j, h1, h2⟩ := PR.bind_ok hr
  unfold runE
  rw [h1]
  simp only
  obtain ⟨q1, q2, q3⟩ := lpE_last h.ok.clo ts _ _ _ _ _ h1
  obtain ⟨r1, r2⟩ := runE_sorted r h.tail ts n' N j L h2
  have hjL : j ≤ L := by
   clear r1 r2
   have : ∀ (r : List Ph), Chn r → ∀ n j, Up j (run r ts n j) := by
    intro r
    induction r with
    | nil => intro _ n j; exact (par_fin n).up ts j
    | cons p r ih => intro hc n j; exact ((par_sec hc.ok.clo n).up ts j).bind fun a j => ih hc.tail a j
   exact (this r h.tail n' j).lt h2
  refine ⟨List.pairwise_append.2 ⟨(List.pairwise_cons.1 q3).2, r1, fun a ha b hb => ?_⟩, fun x hx => ?_⟩
  ·have := q2 a (List.mem_cons_of_mem _ ha)
   have := runE_gt r h.tail ts n' j b hb
   omega
  ·rcases List.mem_append.1 hx with hx | hx
   ·have := q2 x (List.mem_cons_of_mem _ hx); omega
   ·exact r2 x hx
theorem run_cut (ts us : List KT) : ∀ (r : List Ph), Chn r → ∀ (n N : Nw) (i L : Nat), i ≤ ts.length → ts.length ≤ L → run r (ts ++ us) n i = .ok N L → L = (ts ++ us).length →
  (∃ x ∈ (i, n) :: runE r (ts ++ us) n i, x.1 = ts.length ∧ run r ts n i = .ok x.2 ts.length) ∨ ((∀ x ∈ (i, n) :: runE r (ts ++ us) n i, x.1 ≠ ts.length) ∧ ∃ m, run r ts n i = .fail 91 m)
 | [], _, n, N, i, L, hi, hL, h, hLL => by
  unfold run finP at h
  by_cases c : i < (ts ++ us).length
  ·rw [decide_eq_true c] at h; cases h
  ·have : i = ts.length := by simp at c; omega
   subst this
   exact .inl ⟨_, List.mem_cons_self .., rfl, run_end [] ts n⟩
 | p :: r, hc, n, N, i, L, hi, hL, h, hLL => by
  unfold run at h ⊢
  obtain ⟨n', j, h1, h2⟩ := PR.bind_ok h
  unfold runE
  rw [h1]
  simp only
  obtain ⟨q1, q2, q3⟩ := lpE_last hc.ok.clo (ts ++ us) _ _ _ _ _ h1
  by_cases c : j < ts.length
  ·have hE := (par_sec hc.ok.clo n (k := p.key)).eb ts us i hi
   rw [h1] at hE
   rw [hE.ok_lt c]
   simp only [PR.bind]
   rcases run_cut ts us r hc.tail n' N j L (by omega) hL h2 hLL with ⟨x, hx, r1, r2⟩ | ⟨r1, r2⟩
   ·refine .inl ⟨x, ?_, r1, r2⟩
    rcases List.mem_cons.1 hx with rfl | hx
    ·simp only at r1; omega
    ·exact List.mem_cons_of_mem _ (List.mem_append_right _ hx)
   ·refine .inr ⟨fun x hx => ?_, r2⟩
    rw [← List.cons_append] at hx
    rcases List.mem_append.1 hx with hx | hx
    ·have := q2 x hx; omega
    ·exact r1 x (List.mem_cons_of_mem _ hx)
  ·rcases lp_cut hc.ok.clo ts us _ ts.length n n' i j hi (by omega) h1 (by omega) with ⟨x, hx, r1, r2⟩ | ⟨r1, m, r2⟩
   ·refine .inl ⟨x, ?_, r1, ?_⟩
    ·rw [← List.cons_append]; exact List.mem_append_left _ hx
    ·unfold sec
     rw [r2]
     exact run_end r ts x.2
   ·refine .inr ⟨fun x hx => ?_, m, by unfold sec; rw [r2]; rfl⟩
    rw [← List.cons_append] at hx
    rcases List.mem_append.1 hx with hx | hx
    ·exact r1 x hx
    ·have := runE_gt r hc.tail (ts ++ us) n' j x hx; omega
/-- Each network is the one before it with a thing more. -/
inductive Steps : Nw → List (Nat × Nw) → Nw → Prop
 | nil (n) : Steps n [] n
 | cons {n j s t r N} : flat s = flat n ++ [t] → s.names.length = s.cals.length → Steps s r N → Steps n ((j, s) :: r) N
theorem Steps.app {n m N : Nw} {a b : List (Nat × Nw)} (h : Steps n a m) (h2 : Steps m b N) : Steps n (a ++ b) N := by
 induction h with
 | nil => exact h2
 | cons q q2 _ ih => exact .cons q q2 (ih h2)
theorem lp_steps {p : Ph} (hp : PhOK p) (ts : List KT) : ∀ (f : Nat) (n n' : Nw) (i j : Nat), p.lv n → lpP true 1 p.key p.B ts f n i = .ok n' j → p.lv n' ∧ Steps n (lpE p.key p.B ts f n i) n'
 | 0, n, n', i, j, hl, h => by cases h; exact ⟨hl, .nil _⟩
 | f + 1, n, n', i, j, hl, h => by
  unfold lpP at h
  unfold lpE
  cases c : seesP ts 1 p.key i with
  | false => rw [c] at h; cases h; exact ⟨hl, .nil _⟩
  | true =>
   rw [c] at h
   simp only [beq_self_eq_true, cond_true] at h ⊢
   obtain ⟨s, j1, h1, h2⟩ := PR.bind_ok h
   rw [h1]
   obtain ⟨k1, t, k2⟩ := hp.step _ _ _ _ _ hl h1
   obtain ⟨k3, k4⟩ := lp_steps hp ts f s n' j1 j k1 h2
   exact ⟨k3, .cons k2 (hp.nms _ k1) k4⟩
theorem run_steps (ts : List KT) : ∀ (r : List Ph), Chn r → ∀ (n N : Nw) (i L : Nat), (∀ p, r.head? = some p → p.lv n) → run r ts n i = .ok N L → Steps n (runE r ts n i) N
 | [], _, n, N, i, L, _, h => by
  unfold run finP at h
  cases c : decide (i < ts.length) <;> rw [c] at h <;> cases h
  exact .nil _
 | p :: r, hc, n, N, i, L, hl, h => by
  unfold run at h
  obtain ⟨n', j, h1, h2⟩ := PR.bind_ok h
  unfold runE
  rw [h1]
  obtain ⟨k1, k2⟩ := lp_steps hc.ok ts _ _ _ _ _ (hl p rfl) h1
  refine k2.app (run_steps ts r hc.tail n' N j L (fun q hq => ?_) h2)
  cases hc with
  | one _ => cases hq
  | cons _ h3 _ => cases hq; exact h3 _ k1
theorem Steps.get {n N : Nw} {E : List (Nat × Nw)} (h : Steps n E N) : (flat N).length = (flat n).length + E.length ∧ (∃ x, flat N = flat n ++ x) ∧ ∀ (k : Nat) (hk : k < E.length), flat E[k].2 = (flat N).take ((flat n).length + k + 1) ∧ E[k].2.names.length = E[k].2.cals.length := by
 induction h with
 | nil n => simp
 | @cons n j s t r N q q0 _ ih =>
  obtain ⟨h1, ⟨x, h2⟩, h3⟩ := ih
  rw [q] at h1 h2
  refine ⟨by simp at h1 ⊢; omega, ⟨[t] ++ x, by rw [h2]; simp⟩, fun k hk => ?_⟩
  cases k with
  | zero =>
   simp only [List.getElem_cons_zero]
   refine ⟨?_, q0⟩
   rw [q, h2]
   rw [List.take_append_of_le_length (by simp)]
   rw [List.take_of_length_le (by simp)]
  | succ k =>
   simp only [List.getElem_cons_succ]
   refine ⟨?_, (h3 k (by simpa using hk)).2⟩
   rw [(h3 k (by simpa using hk)).1, q]
   simp only [List.length_append, List.length_singleton]
   congr 1; omega
def getC : Th → Option Cal | .cal _ c => some c | _ => none
def getN : Th → Option Bs | .cal n _ => some n | _ => none
def getP : Th → Option Bs | .oper n => some n | _ => none
def getO : Th → Option Off | .off n => some n | _ => none
def getL : Th → Option Lin | .lin n => some n | _ => none
def getK : Th → Option Cls | .cls n => some n | _ => none
theorem flat_inj {a b : Nw} (ha : a.names.length = a.cals.length) (hb : b.names.length = b.cals.length) (h : flat a = flat b) : a = b := by
 have key : ∀ (n : Nw), n.names.length = n.cals.length → (flat n).filterMap getC = n.cals ∧ (flat n).filterMap getN = n.names ∧ (flat n).filterMap getP = n.opers ∧ (flat n).filterMap getO = n.offs ∧ (flat n).filterMap getL = n.lins ∧ (flat n).filterMap getK = n.clss := by
  intro n hn
  obtain ⟨c, nm, o, f, l, k⟩ := n
  simp only at hn
  have e1 : ∀ (a : List Bs) (b : List Cal), a.length = b.length → (List.zipWith Th.cal a b).filterMap getC = b ∧ (List.zipWith Th.cal a b).filterMap getN = a ∧ (List.zipWith Th.cal a b).filterMap getP = [] ∧ (List.zipWith Th.cal a b).filterMap getO = [] ∧ (List.zipWith Th.cal a b).filterMap getL = [] ∧ (List.zipWith Th.cal a b).filterMap getK = [] := by
   intro a
   induction a with
   | nil => intro b hb; cases b with
    | nil => simp
    | cons _ _ => simp at hb
   | cons x a ih => intro b hb; cases b with
    | nil => simp at hb
    | cons y b =>
     obtain ⟨i1, i2, i3, i4, i5, i6⟩ := ih b (by simpa using hb)
     refine ⟨?_, ?_, ?_, ?_, ?_, ?_⟩ <;> simp only [List.zipWith_cons_cons, List.filterMap_cons, i1, i2, i3, i4, i5, i6] <;> rfl
  obtain ⟨i1, i2, i3, i4, i5, i6⟩ := e1 nm c hn
  have nl : ∀ {α β : Type} (l : List α), l.filterMap (fun _ => (none : Option β)) = [] := fun l => by simp
  have sm : ∀ {α : Type} (l : List α), l.filterMap (fun x => some x) = l := fun l => by simp
  simp only [flat, List.filterMap_append, List.filterMap_map, i1, i2, i3, i4, i5, i6, List.nil_append]
  refine ⟨?_, ?_, ?_, ?_, ?_, ?_⟩ <;> simp only [Function.comp_def, getC, getN, getP, getO, getL, getK, nl, sm, List.append_nil, List.nil_append]
 obtain ⟨a1, a2, a3, a4, a5, a6⟩ := key a ha
 obtain ⟨b1, b2, b3, b4, b5, b6⟩ := key b hb
 rw [h] at a1 a2 a3 a4 a5 a6
 cases a; cases b
 simp only at *
 subst a1 a2 a3 a4 a5 a6
 simp only [b1, b2, b3, b4, b5, b6]
def szN (n : Nw) : Nat := n.cals.length + n.opers.length + n.offs.length + n.lins.length + n.clss.length
/-- The network of the first things. -/
def firstN (n : Nw) (k : Nat) : Nw :=
 let c1 := min k n.cals.length
 let k1 := k - c1
 let c2 := min k1 n.opers.length
 let k2 := k1 - c2
 let c3 := min k2 n.offs.length
 let k3 := k2 - c3
 let c4 := min k3 n.lins.length
 let k4 := k3 - c4
 ⟨n.cals.take c1, n.names.take c1, n.opers.take c2, n.offs.take c3, n.lins.take c4, n.clss.take (min k4 n.clss.length)⟩
theorem flat_len (n : Nw) (h : n.names.length = n.cals.length) : (flat n).length = szN n := by
 simp only [flat, szN, List.length_append, List.length_zipWith, List.length_map]; omega
theorem flat_first (n : Nw) (h : n.names.length = n.cals.length) (k : Nat) : flat (firstN n k) = (flat n).take k := by
 have tm : ∀ {α : Type} (l : List α) (k : Nat), l.take (min k l.length) = l.take k := fun l k => by
  rcases Nat.le_total k l.length with c | c
  ·rw [Nat.min_eq_left c]
  ·rw [Nat.min_eq_right c, List.take_of_length_le (Nat.le_refl _), List.take_of_length_le c]
 have sb : ∀ k l : Nat, k - min k l = k - l := by omega
 have tn : n.names.take (min k n.cals.length) = n.names.take k := by rw [← h]; exact tm _ _
 simp only [flat, firstN, tm, tn, sb, List.take_append, List.length_zipWith, List.length_map, List.take_zipWith, List.map_take, h, Nat.min_self]
def phs : List Ph := [
 ⟨w_calendar, calS, fun n => n.names.length = n.cals.length ∧ n.opers = [] ∧ n.offs = [] ∧ n.lins = [] ∧ n.clss = []⟩,
 ⟨w_operator, operS, fun n => n.names.length = n.cals.length ∧ n.offs = [] ∧ n.lins = [] ∧ n.clss = []⟩,
 ⟨w_office, offS, fun n => n.names.length = n.cals.length ∧ n.lins = [] ∧ n.clss = []⟩,
 ⟨w_line, linS, fun n => n.names.length = n.cals.length ∧ n.clss = []⟩,
 ⟨w_class, clsS, fun n => n.names.length = n.cals.length⟩]
theorem netQ_run (ts : List KT) (i : Nat) : netQ ts i = run phs ts nw0 i := rfl
theorem zw_snoc (a : List Bs) (b : List Cal) (x : Bs) (y : Cal) (h : a.length = b.length) : List.zipWith Th.cal (a ++ [x]) (b ++ [y]) = List.zipWith Th.cal a b ++ [Th.cal x y] := by
 rw [List.zipWith_append h]; rfl
theorem chn : Chn phs := by
 refine .cons ⟨clo_calS, fun s h => h.1, fun s ts i s' j h q => ?_⟩ (fun n h => ⟨h.1, h.2.2⟩) (.cons ⟨clo_operS, fun s h => h.1, fun s ts i s' j h q => ?_⟩ (fun n h => ⟨h.1, h.2.2⟩) (.cons ⟨clo_offS, fun s h => h.1, fun s ts i s' j h q => ?_⟩ (fun n h => ⟨h.1, h.2.2⟩) (.cons ⟨clo_linS, fun s h => h.1, fun s ts i s' j h q => ?_⟩ (fun n h => h.1) (.one ⟨clo_clsS, fun s h => h, fun s ts i s' j h q => ?_⟩))))
 ·obtain ⟨c, k, h1, h2⟩ := PR.bind_ok q
  obtain ⟨h, a, b, d, e⟩ := h
  cases h2
  refine ⟨⟨by simp [h], a, b, d, e⟩, .cal c.1 c.2, ?_⟩
  simp only [flat, a, b, d, e, zw_snoc _ _ _ _ h, List.map_nil, List.append_nil]
 ·obtain ⟨c, k, h1, h2⟩ := PR.bind_ok q
  obtain ⟨h, b, d, e⟩ := h
  cases h2
  refine ⟨⟨h, b, d, e⟩, .oper c, ?_⟩
  simp [flat, b, d, e]
 ·obtain ⟨c, k, h1, h2⟩ := PR.bind_ok q
  obtain ⟨h, d, e⟩ := h
  cases h2
  refine ⟨⟨h, d, e⟩, .off c, ?_⟩
  simp [flat, d, e]
 ·obtain ⟨c, k, h1, h2⟩ := PR.bind_ok q
  obtain ⟨h, e⟩ := h
  cases h2
  refine ⟨⟨h, e⟩, .lin c, ?_⟩
  simp [flat, e]
 ·obtain ⟨c, k, h1, h2⟩ := PR.bind_ok q
  cases h2
  refine ⟨h, .cls c, ?_⟩
  simp [flat]
theorem firstN_nms (n : Nw) (h : n.names.length = n.cals.length) (k : Nat) : (firstN n k).names.length = (firstN n k).cals.length := by
 simp [firstN, h]
theorem net_begin {ts : List KT} {N : Nw} {L : Nat} (h : netP ts = .ok N L) (hN : N.names.length = N.cals.length) : L = ts.length ∧ ∃ E : List (Nat × Nw), E.length = szN N ∧ E.Pairwise (fun a b => a.1 < b.1) ∧ (∀ x ∈ E, 0 < x.1 ∧ x.1 ≤ ts.length) ∧ (∀ (k : Nat) (hk : k < E.length), E[k].2 = firstN N (k + 1)) ∧
  ∀ m, 0 < m → m ≤ ts.length → (∃ x ∈ E, x.1 = m ∧ netP (ts.take m) = .ok x.2 m) ∨ ((∀ x ∈ E, x.1 ≠ m) ∧ ∃ j, netP (ts.take m) = .fail 91 j ∧ m ≤ j) := by
 rw [netP_eq, netQ_run] at h
 have hL : L = ts.length := by
  rw [← netQ_run] at h
  have h00 := h
  unfold netQ at h
  obtain ⟨n1, j1, _, h⟩ := PR.bind_ok h
  obtain ⟨n2, j2, _, h⟩ := PR.bind_ok h
  obtain ⟨n3, j3, _, h⟩ := PR.bind_ok h
  obtain ⟨n4, j4, _, h⟩ := PR.bind_ok h
  obtain ⟨n5, j5, h1, h⟩ := PR.bind_ok h
  have hb := (par_net.eb ts [] 0 (Nat.zero_le _)).1
  have h0 := h00
  unfold finP at h
  by_cases c : j5 < ts.length
  ·rw [decide_eq_true c] at h; cases h
  ·rw [decide_eq_false c] at h
   cases h
   rw [h0] at hb
   simp only [Bd] at hb
   omega
 subst hL
 refine ⟨rfl, runE phs ts nw0 0, ?_⟩
 obtain ⟨s1, s2⟩ := runE_sorted phs chn ts nw0 N 0 _ h
 have st := run_steps ts phs chn nw0 N 0 _ (fun p hp => by cases hp; exact ⟨rfl, rfl, rfl, rfl, rfl⟩) h
 obtain ⟨g1, _, g3⟩ := st.get
 have e0 : (flat nw0).length = 0 := rfl
 refine ⟨by rw [← flat_len N hN]; omega, s1, fun x hx => ⟨runE_gt phs chn ts nw0 0 x hx, s2 x hx⟩, fun k hk => ?_, fun m hm hmL => ?_⟩
 ·obtain ⟨q1, q2⟩ := g3 k hk
  refine flat_inj q2 (firstN_nms N hN _) ?_
  rw [flat_first N hN, q1, e0]
  congr 1; omega
 ·have hl : (ts.take m).length = m := by simp; omega
  have hc := run_cut (ts.take m) (ts.drop m) phs chn nw0 N 0 ts.length (Nat.zero_le _) (by rw [hl]; exact hmL) (by rw [List.take_append_drop]; exact h) (by rw [List.take_append_drop])
  rw [List.take_append_drop, hl] at hc
  rw [netP_eq, netQ_run]
  rcases hc with ⟨x, hx, r1, r2⟩ | ⟨r1, j, r2⟩
  ·rcases List.mem_cons.1 hx with rfl | hx
   ·simp only at r1; omega
   ·exact .inl ⟨x, hx, r1, r2⟩
  ·refine .inr ⟨fun x hx => r1 x (List.mem_cons_of_mem _ hx), j, r2, ?_⟩
   have hb := (par_net.eb (ts.take m) [] 0 (Nat.zero_le _)).1
   rw [netQ_run, r2] at hb
   simp only [Bd] at hb
   omega
end Go.Proofs.YtmhlneeboefkgaaGreatDoor.Pl

set_option linter.unusedVariables false
set_option linter.unusedSimpArgs false
namespace Go.Proofs.YtmhlneeboefkgaaGreatDoor.Pl
open Go.Av Go.Av.Net
/-! ### Tokens -/
def srcT (k : Int) (t : Bs) : Bs := bif decide (k = 4) then 34 :: (t ++ [34]) else t
theorem runP_app : ∀ (a r : Bs), (∀ b ∈ a, wordB b = true) → (∀ c, r.head? = some c → wordB c = false) → runP (a ++ r) = (a.length, (a.filter digB).length)
 | [], r, _, hr => by
  cases r with
  | nil => rfl
  | cons c r => simp only [List.nil_append, runP]; rw [hr c rfl]; rfl
 | b :: a, r, ha, hr => by
  simp only [List.cons_append, runP]
  rw [ha b (List.mem_cons_self ..), runP_app a r (fun x hx => ha x (List.mem_cons_of_mem _ hx)) hr]
  simp only [cond_true, List.length_cons, List.filter_cons]
  cases digB b <;> simp
theorem runP_self : ∀ (s : Bs), (∀ b ∈ s.take (runP s).1, wordB b = true) ∧ (∀ c, (s.drop (runP s).1).head? = some c → wordB c = false) ∧ (runP s).1 ≤ s.length ∧ (runP s).2 = ((s.take (runP s).1).filter digB).length
 | [] => by simp [runP]
 | b :: r => by
  obtain ⟨h1, h2, h3, h4⟩ := runP_self r
  unfold runP
  cases hw : wordB b with
  | false => simp only [cond_false, List.take_zero, List.drop_zero, List.head?_cons, Option.some.injEq]; simp [hw]
  | true =>
   simp only [cond_true, List.take_succ_cons, List.drop_succ_cons, List.length_cons]
   refine ⟨fun x hx => ?_, h2, by omega, ?_⟩
   ·rcases List.mem_cons.1 hx with rfl | hx
    ·exact hw
    ·exact h1 x hx
   ·rw [List.filter_cons, h4]
    cases digB b <;> simp
theorem wordB_facts : wordB 34 = false ∧ wordB 32 = false ∧ wordB 9 = false ∧ wordB 10 = false ∧ wordB 13 = false ∧ wordB 37 = false ∧ wordB 62 = false := by decide
/-- A text with the same run. -/
theorem runP_same (s r' : Bs) (n : Nat) (hn : n = (runP s).1) (hr : ∀ c, r'.head? = some c → wordB c = false) : runP (s.take n ++ r') = runP s := by
 obtain ⟨h1, h2, h3, h4⟩ := runP_self s
 subst hn
 rw [runP_app _ _ h1 hr, ← h4]
 refine Prod.ext ?_ rfl
 simp; omega
theorem txt_bd : ∀ (f i : Nat) (r : Bs), 0 < txt f i r → i + 1 ≤ txt f i r ∧ txt f i r ≤ i + r.length
 | 0, i, r, h => by simp [txt] at h
 | f + 1, i, [], h => by simp [txt] at h
 | f + 1, i, b :: r, h => by
  unfold txt at h ⊢
  by_cases h1 : b.toNat = 34
  ·rw [decide_eq_true h1, cond_true] at *; simp only [List.length_cons]; omega
  ·rw [decide_eq_false h1, cond_false] at *
   cases q : (decide (b.toNat < 32) || decide (126 < b.toNat)) with
   | true => rw [q] at h; simp at h
   | false =>
    rw [q] at h
    simp only [cond_false] at h ⊢
    have := txt_bd f (i + 1) r h
    simp only [List.length_cons]; omega
theorem txt_same : ∀ (f i : Nat) (r r' : Bs), 0 < txt f i r → txt f i (r.take (txt f i r - i) ++ r') = txt f i r ∧ r.take (txt f i r - i) = r.take (txt f i r - i - 1) ++ [34]
 | 0, i, r, r', h => by simp [txt] at h
 | f + 1, i, [], r', h => by simp [txt] at h
 | f + 1, i, b :: r, r', h => by
  have hb := txt_bd (f + 1) i (b :: r) h
  by_cases h1 : b.toNat = 34
  ·have e : txt (f + 1) i (b :: r) = i + 1 := by unfold txt; rw [decide_eq_true h1, cond_true]
   rw [e]
   have eb : b = 34 := UInt8.toNat_inj.1 h1
   rw [show i + 1 - i = 1 by omega]
   simp only [List.take_succ_cons, List.take_zero, List.cons_append, List.nil_append]
   refine ⟨?_, by simp [eb]⟩
   unfold txt; rw [decide_eq_true h1, cond_true]
  ·cases q : (decide (b.toNat < 32) || decide (126 < b.toNat)) with
   | true => unfold txt at h; rw [decide_eq_false h1, q] at h; simp at h
   | false =>
    have e : ∀ x, txt (f + 1) i (b :: x) = txt f (i + 1) x := fun x => by rw [show txt (f + 1) i (b :: x) = bif decide (b.toNat = 34) then i + 1 else bif decide (b.toNat < 32) || decide (126 < b.toNat) then 0 else txt f (i + 1) x from rfl, decide_eq_false h1, q]; rfl
    rw [e] at h hb ⊢
    have hb2 := txt_bd f (i + 1) r h
    obtain ⟨i1, i2⟩ := txt_same f (i + 1) r r' h
    generalize txt f (i + 1) r = n at *
    obtain ⟨m, rfl⟩ : ∃ m, n = i + 1 + m + 1 := ⟨n - i - 2, by omega⟩
    rw [show i + 1 + m + 1 - i = m + 1 + 1 by omega, show m + 1 + 1 - 1 = m + 1 by omega]
    rw [show i + 1 + m + 1 - (i + 1) = m + 1 by omega] at i1 i2
    rw [show m + 1 - 1 = m by omega] at i2
    simp only [List.take_succ_cons, List.cons_append, e]
    exact ⟨i1, by rw [i2]⟩
theorem num_of (s : Bs) (h : 0 < numLen s) : numLen s = (runP s).1 := by
 unfold numLen at *
 cases q : (!decide ((runP s).2 = (runP s).1) || decide (8 < (runP s).1)) with
 | true => rw [q] at h; simp at h
 | false => rfl
theorem name_of (s : Bs) (h : 0 < nameLen s) : nameLen s = (runP s).1 := by
 unfold nameLen at *
 cases q : (decide ((runP s).2 = (runP s).1) || decide (20 < (runP s).1) || decide (s.headD 0 = 95)) with
 | true => rw [q] at h; simp at h
 | false => rfl
theorem num_eq {s s' : Bs} (h : runP s' = runP s) : numLen s' = numLen s := by unfold numLen; rw [h]
theorem name_eq {s s' : Bs} (h : runP s' = runP s) (hh : s'.headD 0 = s.headD 0) : nameLen s' = nameLen s := by unfold nameLen; rw [h, hh]
theorem headD_take {s r' : Bs} {n : Nat} (h : 0 < n) (hs : n ≤ s.length) : (s.take n ++ r').headD 0 = s.headD 0 := by
 cases s with
 | nil => simp at hs; omega
 | cons b s => cases n with
  | zero => omega
  | succ n => rfl
theorem runP_nw {s : Bs} (h : ∀ c, s.head? = some c → wordB c = false) : runP s = (0, 0) := by
 cases s with
 | nil => rfl
 | cons c s => unfold runP; rw [h c rfl]; rfl
theorem num_nw {s : Bs} (h : runP s = (0, 0)) : numLen s = 0 ∧ nameLen s = 0 := by
 unfold numLen nameLen; rw [h]; simp
theorem sym_same (s r' : Bs) (hs : 0 < symLen s) (hr : ∀ c, r'.head? = some c → c ≠ 62 ∨ (s.drop (symLen s)).head? = some c) :
  symLen (s.take (symLen s) ++ r') = symLen s ∧ symLen s ≤ s.length ∧ ∃ x ∈ syms, s.take (symLen s) = x := by
 cases hq : syms.find? (fun x => x.isPrefixOf s) with
 | none => unfold symLen at hs; rw [hq] at hs; simp at hs
 | some x =>
  have hl : symLen s = x.length := by unfold symLen; rw [hq]
  have hp := List.find?_some hq
  have hm := List.mem_of_find?_eq_some hq
  rw [List.isPrefixOf_iff_prefix] at hp
  obtain ⟨r, rfl⟩ := hp
  rw [hl] at hr ⊢
  simp only [List.take_left, List.drop_left] at *
  refine ⟨?_, by simp, x, hm, rfl⟩
  clear hl hs
  by_cases hd : x = [45]
  ·subst hd
   have h1 : ∀ c, r'.head? = some c → c ≠ 62 := by
    intro c hc
    rcases hr c hc with h | h
    ·exact h
    ·intro e
     subst e
     cases r with
     | nil => simp at h
     | cons d r =>
      simp at h
      subst h
      simp [syms, List.find?] at hq
   unfold symLen
   cases r' with
   | nil => decide
   | cons c r' =>
    have := h1 c rfl
    have h2 : ((62 : UInt8) == c) = false := by simpa using fun e => this e.symm
    simp [syms, List.find?, List.isPrefixOf, h2]
  ·simp only [syms, List.mem_cons, List.not_mem_nil, or_false] at hm
   unfold symLen
   rcases hm with rfl | rfl | rfl | rfl | rfl | rfl | rfl | rfl | rfl | rfl | rfl | rfl | rfl
   all_goals first | (exact absurd rfl hd) | simp [syms, List.find?, List.isPrefixOf]
/-- The token with which a text begins is told by its bytes and the next one. -/
theorem tokP_same {s : Bs} {n : Nat} {k : Int} {t : Bs} (h : tokP s = some (n, k, t)) (r' : Bs) (hr : ∀ c, r'.head? = some c → (wordB c = false ∧ c ≠ 62) ∨ (s.drop n).head? = some c) :
  tokP (s.take n ++ r') = some (n, k, t) ∧ s.take n = srcT k t ∧ 1 ≤ n ∧ n ≤ s.length := by
 obtain ⟨w1, w2, w3, w4⟩ := runP_self s
 unfold tokP at h
 by_cases c1 : 0 < numLen s
 ·rw [decide_eq_true c1, cond_true] at h
  simp only [Option.some.injEq, Prod.mk.injEq] at h
  obtain ⟨rfl, rfl, rfl⟩ := h
  have e := num_of s c1
  have hr' : runP (s.take (numLen s) ++ r') = runP s := runP_same s r' _ e fun c hc => by
   rcases hr c hc with h | h
   ·exact h.1
   ·exact w2 c (by rw [← e]; exact h)
  refine ⟨?_, rfl, c1, by omega⟩
  unfold tokP
  rw [num_eq hr', decide_eq_true c1, cond_true, List.take_append_of_le_length (by simp; omega), List.take_take, Nat.min_self]
 ·rw [decide_eq_false c1, cond_false] at h
  by_cases c2 : 0 < nameLen s
  ·rw [decide_eq_true c2, cond_true] at h
   simp only [Option.some.injEq, Prod.mk.injEq] at h
   obtain ⟨rfl, rfl, rfl⟩ := h
   have e := name_of s c2
   have hr' : runP (s.take (nameLen s) ++ r') = runP s := runP_same s r' _ e fun c hc => by
    rcases hr c hc with h | h
    ·exact h.1
    ·exact w2 c (by rw [← e]; exact h)
   refine ⟨?_, rfl, c2, by omega⟩
   unfold tokP
   rw [num_eq hr', decide_eq_false c1, cond_false, name_eq hr' (headD_take c2 (by omega)), decide_eq_true c2, cond_true, List.take_append_of_le_length (by simp; omega), List.take_take, Nat.min_self]
  ·rw [decide_eq_false c2, cond_false] at h
   by_cases c3 : 0 < txtLen s
   ·rw [decide_eq_true c3, cond_true] at h
    simp only [Option.some.injEq, Prod.mk.injEq] at h
    obtain ⟨hn, rfl, rfl⟩ := h
    cases s with
    | nil => simp [txtLen] at c3
    | cons b s =>
     have e : ∀ x, txtLen (b :: x) = bif decide (b.toNat = 34) then txt 201 1 x else 0 := fun x => rfl
     by_cases hb : b.toNat = 34
     ·rw [decide_eq_true hb] at e
      simp only [cond_true] at e
      have eb : b = 34 := UInt8.toNat_inj.1 hb
      rw [e] at c3 hn
      obtain ⟨t1, t2⟩ := txt_same 201 1 s r' c3
      have t3 := txt_bd 201 1 s c3
      subst hn
      rw [e] at *
      generalize hm : txt 201 1 s = m at *
      obtain ⟨m, rfl⟩ : ∃ m', m = m' + 2 := ⟨m - 2, by omega⟩
      rw [show m + 2 - 1 = m + 1 by omega] at t1 t2 ⊢
      rw [show m + 1 - 1 = m by omega] at t2
      have hw : ∀ x, runP (b :: x) = (0, 0) := fun x => runP_nw fun c hc => by cases hc; rw [eb]; exact wordB_facts.1
      have hz := fun x => num_nw (hw x)
      refine ⟨?_, ?_, by omega, by simp; omega⟩
      ·rw [show (b :: s).take (m + 2) ++ r' = b :: (s.take (m + 1) ++ r') from rfl]
       unfold tokP
       rw [(hz _).1, (hz _).2, e]
       have e2 : txt 201 1 (s.take (m + 1) ++ r') = m + 2 := t1
       have e3 : List.take (m + 1) s ++ r' = (s.take m ++ [34]) ++ r' := by rw [t2]
       rw [e2]
       have hlen : (s.take m).length = m := by simp; omega
       simp only [Nat.lt_irrefl, decide_false, cond_false, Nat.zero_lt_succ, decide_true, cond_true, Nat.add_sub_cancel, show m + 2 - 1 = m + 1 by omega, List.take_succ_cons, List.drop_succ_cons, List.drop_zero]
       rw [e3, List.append_assoc, List.take_append_of_le_length (by omega), List.take_of_length_le (by omega)]
      ·simp only [List.take_succ_cons, List.drop_succ_cons, List.drop_zero, srcT, decide_true, cond_true]
       rw [t2, eb]
     ·rw [decide_eq_false hb] at e
      rw [e] at c3
      simp at c3
   ·rw [decide_eq_false c3, cond_false] at h
    by_cases c4 : 0 < symLen s
    ·rw [decide_eq_true c4, cond_true] at h
     simp only [Option.some.injEq, Prod.mk.injEq] at h
     obtain ⟨rfl, rfl, rfl⟩ := h
     obtain ⟨s1, s2, x, s3, s4⟩ := sym_same s r' c4 fun c hc => (hr c hc).imp (·.2) id
     refine ⟨?_, rfl, c4, s2⟩
     have hx : ∀ x ∈ syms, ∀ r, (∀ c, (x ++ r).head? = some c → wordB c = false) ∧ txtLen (x ++ r) = 0 := by
      intro x hx r
      simp only [syms, List.mem_cons, List.not_mem_nil, or_false] at hx
      rcases hx with rfl | rfl | rfl | rfl | rfl | rfl | rfl | rfl | rfl | rfl | rfl | rfl | rfl
      all_goals exact ⟨fun c hc => by cases hc; decide, rfl⟩
     obtain ⟨x1, x2⟩ := hx x s3 r'
     have hz := num_nw (runP_nw x1)
     unfold tokP
     rw [s4] at s1 ⊢
     rw [hz.1, hz.2, x2, s1]
     have hlen : x.length = symLen s := by rw [← s4]; simp; omega
     simp only [Nat.lt_irrefl, decide_false, cond_false, c4, decide_true, cond_true]
     rw [List.take_append_of_le_length (by omega), List.take_of_length_le (by omega)]
    ·rw [decide_eq_false c4, cond_false] at h
     cases h
/-- What follows ends a token. -/
def Bnd (r : Bs) : Prop := ∀ c, r.head? = some c → wordB c = false ∧ c ≠ 62
def Good (k : Int) (t : Bs) : Prop := ∀ r, Bnd r → tokP (srcT k t ++ r) = some ((srcT k t).length, k, t)
theorem tokP_good {s : Bs} {n : Nat} {k : Int} {t : Bs} (h : tokP s = some (n, k, t)) : Good k t ∧ (srcT k t).length = n := by
 obtain ⟨_, h1, h2, h3⟩ := tokP_same h [] fun c hc => by simp at hc
 have hl : (srcT k t).length = n := by rw [← h1]; simp; omega
 refine ⟨fun r hr => ?_, hl⟩
 rw [← h1]
 rw [(tokP_same h r fun c hc => .inl (hr c hc)).1]
 congr 2
 simp; omega
theorem good_pos {k : Int} {t : Bs} (h : Good k t) : 1 ≤ (srcT k t).length := by
 have := h [] (fun c hc => by simp at hc)
 obtain ⟨_, h1, h2, h3⟩ := tokP_same this [] fun c hc => by simp at hc
 exact h2
/-- A token does not begin as a gap does. -/
theorem tokP_head {b : UInt8} {r : Bs} {x : Nat × Int × Bs} (h : tokP (b :: r) = some x) : blankB b = false ∧ b ≠ 37 := by
 have key : ∀ b : UInt8, (b = 32 ∨ b = 9 ∨ b = 10 ∨ b = 13 ∨ b = 37) → tokP (b :: r) = none := by
  intro b hb
  have hw : runP (b :: r) = (0, 0) := runP_nw fun c hc => by
   cases hc
   rcases hb with rfl | rfl | rfl | rfl | rfl <;> decide
  have hz := num_nw hw
  unfold tokP
  rw [hz.1, hz.2]
  rcases hb with rfl | rfl | rfl | rfl | rfl <;> rfl
 have hn : ∀ b' : UInt8, (b' = 32 ∨ b' = 9 ∨ b' = 10 ∨ b' = 13 ∨ b' = 37) → b ≠ b' := fun b' hb' e => by
  rw [e, key b' hb'] at h; cases h
 refine ⟨?_, hn 37 (by simp)⟩
 have e : ∀ (m : UInt8), b ≠ m → decide (b.toNat = m.toNat) = false := fun m hm => decide_eq_false fun q => hm (UInt8.toNat_inj.1 q)
 have e1 := e 32 (hn 32 (by simp))
 have e2 := e 9 (hn 9 (by simp))
 have e3 := e 10 (hn 10 (by simp))
 have e4 := e 13 (hn 13 (by simp))
 unfold blankB
 rw [show (32 : UInt8).toNat = 32 from rfl] at e1
 rw [show (9 : UInt8).toNat = 9 from rfl] at e2
 rw [show (10 : UInt8).toNat = 10 from rfl] at e3
 rw [show (13 : UInt8).toNat = 13 from rfl] at e4
 rw [e1, e2, e3, e4]
 rfl
end Go.Proofs.YtmhlneeboefkgaaGreatDoor.Pl

set_option linter.unusedVariables false
set_option linter.unusedSimpArgs false
namespace Go.Proofs.YtmhlneeboefkgaaGreatDoor.Pl
open Go.Av Go.Av.Net
/-! ### The lexer as a relation -/
inductive LexR : Bs → Nat → List Tok → Prop
 | nil {r p} : gap false r = r.length → LexR r p []
 | cons {r p n k t l} : gap false r < r.length → tokP (r.drop (gap false r)) = some (n, k, t) → LexR (r.drop (gap false r + n)) (p + gap false r + n) l → LexR r p (⟨k, t, p + gap false r⟩ :: l)
theorem gap_len : ∀ (b : Bool) (s : Bs), gap b s ≤ s.length
 | _, [] => by simp [gap]
 | false, b :: r => by
  have h1 := gap_len false r
  have h2 := gap_len true r
  unfold gap
  cases blankB b <;> simp
  ·cases decide (b.toNat = 37) <;> simp <;> omega
  ·omega
 | true, b :: r => by
  have h1 := gap_len false r
  have h2 := gap_len true r
  unfold gap
  cases decide (b.toNat = 10) <;> simp <;> omega
theorem lexGo_R (s : Bs) : ∀ (f p c : Nat) (l : List Tok), p ≤ s.length → s.length < p + f → c ≤ 3000 → lexGo s f p c = .ok l → LexR (s.drop p) p l ∧ c + l.length ≤ 3000
 | 0, p, c, l, h1, h2, h3, h => by omega
 | f + 1, p, c, l, h1, h2, h3, h => by
  have hg := gap_len false (s.drop p)
  simp only [List.length_drop] at hg
  unfold lexGo at h
  by_cases c1 : p + gap false (s.drop p) = s.length
  ·rw [decide_eq_true c1, cond_true] at h
   cases h
   exact ⟨.nil (by simp; omega), by simpa using h3⟩
  ·rw [decide_eq_false c1, cond_false] at h
   by_cases c2 : c = 3000
   ·rw [decide_eq_true c2, cond_true] at h; cases h
   ·rw [decide_eq_false c2, cond_false] at h
    cases ht : tokP (s.drop (p + gap false (s.drop p))) with
    | none => rw [ht] at h; cases h
    | some x =>
     obtain ⟨n, k, t⟩ := x
     rw [ht] at h
     simp only at h
     obtain ⟨_, t1, t2, t3⟩ := tokP_same ht [] fun c hc => by simp at hc
     simp only [List.length_drop] at t3
     cases hr : lexGo s f (p + gap false (s.drop p) + n) (c + 1) with
     | err e q => rw [hr] at h; cases h
     | ok r =>
      rw [hr] at h
      cases h
      obtain ⟨i1, i2⟩ := lexGo_R s f _ (c + 1) r (by omega) (by omega) (by omega) hr
      refine ⟨.cons (by simp; omega) (by rw [List.drop_drop]; exact ht) ?_, by simp only [List.length_cons]; omega⟩
      rw [List.drop_drop, ← Nat.add_assoc]
      exact i1
theorem R_lexGo (s : Bs) : ∀ (f p c : Nat) (l : List Tok), p ≤ s.length → s.length < p + f → c + l.length ≤ 3000 → LexR (s.drop p) p l → lexGo s f p c = .ok l
 | 0, p, c, l, h1, h2, h3, h => by omega
 | f + 1, p, c, l, h1, h2, h3, h => by
  have hg := gap_len false (s.drop p)
  simp only [List.length_drop] at hg
  unfold lexGo
  cases h with
  | nil q =>
   rw [List.length_drop] at q
   rw [decide_eq_true (by omega), cond_true]
  | cons q1 q2 q3 =>
   rename_i n k t l
   rw [List.length_drop] at q1
   simp only [List.length_cons] at h3
   rw [decide_eq_false (by omega), cond_false, decide_eq_false (by omega), cond_false]
   rw [List.drop_drop] at q2 q3
   rw [q2]
   simp only
   obtain ⟨_, t1, t2, t3⟩ := tokP_same q2 [] fun c hc => by simp at hc
   simp only [List.length_drop] at t3
   rw [R_lexGo s f (p + gap false (s.drop p) + n) (c + 1) l (by omega) (by omega) (by omega) (by rw [Nat.add_assoc]; rw [Nat.add_assoc] at q3; exact q3)]
   rfl
theorem lexP_iff {s : Bs} {l : List Tok} : lexP s = .ok l ↔ s.length ≤ 8000 ∧ l.length ≤ 3000 ∧ LexR s 0 l := by
 unfold lexP
 constructor
 ·intro h
  by_cases c : 8000 < s.length
  ·rw [decide_eq_true c] at h; cases h
  ·rw [decide_eq_false c, cond_false] at h
   obtain ⟨h1, h2⟩ := lexGo_R s (s.length + 1) 0 0 l (by omega) (by omega) (by omega) h
   exact ⟨by omega, by omega, h1⟩
 ·intro ⟨h1, h2, h3⟩
  rw [decide_eq_false (by omega), cond_false]
  exact R_lexGo s _ 0 0 l (by omega) (by omega) (by omega) h3
theorem gap_take : ∀ (b : Bool) (r : Bs) (m : Nat), gap b (r.take m) = min (gap b r) m
 | _, _, 0 => by simp [gap]
 | _, [], m + 1 => by simp [gap]
 | false, b :: r, m + 1 => by
  simp only [List.take_succ_cons]
  unfold gap
  rw [gap_take false r m, gap_take true r m]
  cases blankB b <;> simp only [cond_true, cond_false]
  ·cases decide (b.toNat = 37) <;> simp only [cond_true, cond_false] <;> omega
  ·omega
 | true, b :: r, m + 1 => by
  simp only [List.take_succ_cons]
  unfold gap
  rw [gap_take false r m, gap_take true r m]
  cases decide (b.toNat = 10) <;> simp only [cond_true, cond_false] <;> omega
theorem gap_app_lt : ∀ (b : Bool) (r x : Bs), gap b r < r.length → gap b (r ++ x) = gap b r
 | _, [], x, h => by simp at h
 | false, b :: r, x, h => by
  have i1 := gap_app_lt false r x
  have i2 := gap_app_lt true r x
  simp only [List.cons_append]
  unfold gap at h ⊢
  cases q : blankB b <;> rw [q] at h <;> simp only [cond_true, cond_false, List.length_cons] at h ⊢
  ·cases q2 : decide (b.toNat = 37) <;> rw [q2] at h <;> simp only [cond_true, cond_false] at h ⊢
   rw [i2 (by omega)]
  ·rw [i1 (by omega)]
 | true, b :: r, x, h => by
  have i1 := gap_app_lt false r x
  have i2 := gap_app_lt true r x
  simp only [List.cons_append]
  unfold gap at h ⊢
  cases q : decide (b.toNat = 10) <;> rw [q] at h <;> simp only [cond_true, cond_false, List.length_cons] at h ⊢
  ·rw [i2 (by omega)]
  ·rw [i1 (by omega)]
theorem gap_app_nl : ∀ (b : Bool) (r x : Bs), gap b r = r.length → gap b (r ++ 10 :: x) = r.length + 1 + gap false x
 | false, [], x, h => by simp [gap, blankB]; omega
 | true, [], x, h => by simp [gap]; omega
 | false, b :: r, x, h => by
  have i1 := gap_app_nl false r x
  have i2 := gap_app_nl true r x
  simp only [List.cons_append]
  generalize gap false x = z at *
  unfold gap at h ⊢
  cases q : blankB b <;> rw [q] at h <;> simp only [cond_true, cond_false, List.length_cons] at h ⊢
  ·cases q2 : decide (b.toNat = 37) <;> rw [q2] at h <;> simp only [cond_true, cond_false] at h ⊢
   ·omega
   ·rw [i2 (by omega)]; omega
  ·rw [i1 (by omega)]; omega
 | true, b :: r, x, h => by
  have i1 := gap_app_nl false r x
  have i2 := gap_app_nl true r x
  simp only [List.cons_append]
  generalize gap false x = z at *
  unfold gap at h ⊢
  cases q : decide (b.toNat = 10) <;> rw [q] at h <;> simp only [cond_true, cond_false, List.length_cons] at h ⊢
  ·rw [i2 (by omega)]; omega
  ·rw [i1 (by omega)]; omega
def Tok.src (t : Tok) : Bs := srcT t.kind t.text
def Tok.sh (d : Nat) (t : Tok) : Tok := ⟨t.kind, t.text, d + t.pos⟩
theorem LexR.pos {r : Bs} {p : Nat} {l : List Tok} (h : LexR r p l) : (∀ t ∈ l, p ≤ t.pos ∧ t.pos + (Tok.src t).length ≤ p + r.length ∧ Good t.kind t.text) ∧ l.Pairwise (fun a b => a.pos + (Tok.src a).length ≤ b.pos) := by
 induction h with
 | nil => simp
 | @cons r p n k t l q1 q2 q3 ih =>
  obtain ⟨i1, i2⟩ := ih
  obtain ⟨g1, g2⟩ := tokP_good q2
  obtain ⟨_, _, t2, t3⟩ := tokP_same q2 [] fun c hc => by simp at hc
  simp only [List.length_drop] at t3 i1
  refine ⟨fun x hx => ?_, List.pairwise_cons.2 ⟨fun x hx => ?_, i2⟩⟩
  ·rcases List.mem_cons.1 hx with rfl | hx
   ·refine ⟨by simp only; omega, ?_, g1⟩
    simp only [Tok.src]
    rw [g2]; omega
   ·obtain ⟨j1, j2, j3⟩ := i1 x hx
    exact ⟨by omega, by omega, j3⟩
  ·obtain ⟨j1, j2, j3⟩ := i1 x hx
   simp only [Tok.src] at *
   rw [g2]; omega
theorem LexR.take {r : Bs} {p : Nat} {l : List Tok} (h : LexR r p l) : ∀ m, m ≤ r.length → (∀ t ∈ l, t.pos + (Tok.src t).length ≤ p + m ∨ p + m ≤ t.pos) → LexR (r.take m) p (l.takeWhile fun t => decide (t.pos < p + m)) := by
 induction h with
 | @nil r p q =>
  intro m hm ht
  refine .nil ?_
  rw [gap_take, List.length_take]; omega
 | @cons r p n k t l q1 q2 q3 ih =>
  intro m hm ht
  have hp := q3.pos
  obtain ⟨g1, g2⟩ := tokP_good q2
  obtain ⟨_, t1, t2, t3⟩ := tokP_same q2 [] fun c hc => by simp at hc
  simp only [List.length_drop] at t3
  rw [List.takeWhile_cons]
  by_cases c : gap false r < m
  ·have hle : gap false r + n ≤ m := by
    have := ht _ (List.mem_cons_self ..)
    simp only [Tok.src] at this
    rw [g2] at this
    omega
   simp only [show p + gap false r < p + m by omega, decide_true, if_true]
   have e : gap false (r.take m) = gap false r := by rw [gap_take]; omega
   have q2' : tokP ((r.take m).drop (gap false (r.take m))) = some (n, k, t) := by
    rw [e, List.drop_take]
    have := (tokP_same q2 (((r.drop (gap false r)).take (m - gap false r)).drop n) fun c hc => ?_).1
    ·rw [show (r.drop (gap false r)).take n = ((r.drop (gap false r)).take (m - gap false r)).take n by rw [List.take_take, Nat.min_eq_left (by omega)], List.take_append_drop] at this
     exact this
    ·refine .inr ?_
     rw [List.drop_take] at hc
     cases hq : ((r.drop (gap false r)).drop n) with
     | nil => rw [hq] at hc; simp at hc
     | cons a b =>
      rw [hq] at hc
      cases hz : m - gap false r - n with
      | zero => rw [hz] at hc; simp at hc
      | succ z => rw [hz] at hc; simpa using hc
   have i := ih (m - gap false r - n) (by simp; omega) fun x hx => by
    rcases ht x (List.mem_cons_of_mem _ hx) with h | h <;> omega
   rw [show p + gap false r + n + (m - gap false r - n) = p + m by omega] at i
   rw [← e]
   refine .cons (by rw [e]; simp; omega) q2' ?_
   rw [e, List.drop_take, show m - (gap false r + n) = m - gap false r - n by omega]
   exact i
  ·simp only [show ¬ p + gap false r < p + m by omega, decide_false, Bool.false_eq_true, if_false]
   refine .nil ?_
   rw [gap_take, List.length_take]; omega
theorem takeWhile_take : ∀ (l : List Tok) (i x : Nat), (∀ (j : Nat) (h : j < l.length), j < i → l[j].pos < x) → (∀ (j : Nat) (h : j < l.length), i ≤ j → x ≤ l[j].pos) → l.takeWhile (fun t => decide (t.pos < x)) = l.take i
 | [], i, x, _, _ => by simp
 | t :: l, 0, x, _, h2 => by
  have := h2 0 (by simp) (Nat.le_refl _)
  simp only [List.getElem_cons_zero] at this
  rw [List.takeWhile_cons]
  simp [show ¬ t.pos < x by omega]
 | t :: l, i + 1, x, h1, h2 => by
  have := h1 0 (by simp) (by omega)
  simp only [List.getElem_cons_zero] at this
  rw [List.takeWhile_cons]
  simp only [this, decide_true, if_true, List.take_succ_cons]
  rw [takeWhile_take l i x (fun j h hj => by have := h1 (j + 1) (by simpa using h) (by omega); simpa using this) (fun j h hj => by have := h2 (j + 1) (by simpa using h) (by omega); simpa using this)]
theorem LexR.at_ {r : Bs} {p : Nat} {l : List Tok} (h : LexR r p l) {i j : Nat} (hi : i < l.length) (hj : j < l.length) (hij : i < j) : l[i].pos + (Tok.src l[i]).length ≤ l[j].pos := (List.pairwise_iff_getElem.1 h.pos.2) i j hi hj hij
theorem src_pos {r : Bs} {p : Nat} {l : List Tok} (h : LexR r p l) {t : Tok} (ht : t ∈ l) : 1 ≤ (Tok.src t).length := good_pos (h.pos.1 t ht).2.2
/-- The text up to the end of a token, and up to its beginning. -/
theorem lex_upto {s : Bs} {l : List Tok} (h : lexP s = .ok l) {i : Nat} (hi : i < l.length) :
  lexP (s.take (l[i].pos + (Tok.src l[i]).length)) = .ok (l.take (i + 1)) ∧ lexP (s.take l[i].pos) = .ok (l.take i) ∧ l[i].pos + (Tok.src l[i]).length ≤ s.length := by
 obtain ⟨h1, h2, h3⟩ := lexP_iff.1 h
 have hp := h3.pos.1 l[i] (List.getElem_mem hi)
 have hs := src_pos h3 (List.getElem_mem hi)
 have cases_ : ∀ (m : Nat), (∀ (j : Nat) (hj : j < l.length), j < i → l[j].pos + (Tok.src l[j]).length ≤ m) → True := fun _ _ => trivial
 refine ⟨lexP_iff.2 ⟨by simp; omega, by simp; omega, ?_⟩, lexP_iff.2 ⟨by simp; omega, by simp; omega, ?_⟩, by omega⟩
 ·have := h3.take (l[i].pos + (Tok.src l[i]).length) (by omega) fun t ht => by
   obtain ⟨j, hj, rfl⟩ := List.mem_iff_getElem.1 ht
   rcases Nat.lt_trichotomy j i with c | c | c
   ·have := h3.at_ hj hi c; omega
   ·subst c; omega
   ·have := h3.at_ hi hj c; omega
  rw [takeWhile_take l (i + 1)] at this
  ·exact this
  ·intro j hj hji
   rcases Nat.lt_or_ge j i with c | c
   ·have := h3.at_ hj hi c; omega
   ·have : j = i := by omega
    subst this; omega
  ·intro j hj hji
   have := h3.at_ hi hj (by omega); omega
 ·have := h3.take l[i].pos (by omega) fun t ht => by
   obtain ⟨j, hj, rfl⟩ := List.mem_iff_getElem.1 ht
   rcases Nat.lt_trichotomy j i with c | c | c
   ·have := h3.at_ hj hi c; omega
   ·subst c; omega
   ·have := h3.at_ hi hj c; omega
  rw [takeWhile_take l i] at this
  ·exact this
  ·intro j hj hji
   have := h3.at_ hj hi hji
   have := src_pos h3 (List.getElem_mem hj)
   omega
  ·intro j hj hji
   rcases Nat.lt_or_ge i j with c | c
   ·have := h3.at_ hi hj c; omega
   ·have : j = i := by omega
    subst this; omega
/-! ### Texts put together -/
def GapOK (G : Bs) : Prop := (∀ x, gap false (G ++ x) = G.length + gap false x) ∧ Bnd G ∧ G ≠ []
theorem LexR.gapped {G : Bs} (hG : GapOK G) {r : Bs} {p : Nat} {l : List Tok} (h : LexR r (p + G.length) l) : LexR (G ++ r) p l := by
 have e := hG.1 r
 cases h with
 | nil q => exact .nil (by rw [e, q]; simp)
 | @cons r p n k t l q1 q2 q3 =>
  have d : ∀ k, (G ++ r).drop (G.length + k) = r.drop k := fun k => by rw [List.drop_append, List.drop_eq_nil_of_le (by omega)]; simp
  rw [Nat.add_assoc p, ← e] at q3 ⊢
  refine .cons (by rw [e]; simp; omega) (by rw [e, d]; exact q2) ?_
  rw [e, Nat.add_assoc, d]
  rw [e] at q3
  exact q3
theorem gap_tok {k : Int} {t r : Bs} (h : Good k t) (hr : Bnd r) : gap false (srcT k t ++ r) = 0 := by
 have := h r hr
 have hp := good_pos h
 cases hs : srcT k t with
 | nil => rw [hs] at hp; simp at hp
 | cons b s =>
  rw [hs] at this
  obtain ⟨h1, h2⟩ := tokP_head (b := b) (r := s ++ r) this
  have h3 : decide (b.toNat = 37) = false := decide_eq_false fun e => h2 (UInt8.toNat_inj.1 e)
  simp only [List.cons_append]
  unfold gap
  rw [h1, h3]; rfl
theorem LexR.tok {k : Int} {t r : Bs} (h : Good k t) (hr : Bnd r) {p : Nat} {l : List Tok} (hl : LexR r (p + (srcT k t).length) l) : LexR (srcT k t ++ r) p (⟨k, t, p⟩ :: l) := by
 have e := gap_tok h hr
 have hp := good_pos h
 have := LexR.cons (r := srcT k t ++ r) (p := p) (n := (srcT k t).length) (k := k) (t := t) (l := l) (by rw [e]; simp; omega) (by rw [e]; exact h r hr) (by rw [e]; simpa using hl)
 rw [e] at this
 exact this
theorem LexR.shift {r : Bs} {p : Nat} {l : List Tok} (h : LexR r p l) (d : Nat) : LexR r (d + p) (l.map (Tok.sh d)) := by
 induction h with
 | nil q => exact .nil q
 | @cons r p n k t l q1 q2 q3 ih =>
  have := LexR.cons (p := d + p) q1 q2 (l := l.map (Tok.sh d)) (by rw [show d + p + gap false r + n = d + (p + gap false r + n) by omega]; exact ih)
  rw [show d + p + gap false r = d + (p + gap false r) by omega] at this
  exact this
theorem LexR.more {r x : Bs} {p : Nat} {l l2 : List Tok} (h : LexR r p l) (h2 : LexR x (p + r.length + 1) l2) : LexR (r ++ 10 :: x) p (l ++ l2) := by
 induction h with
 | @nil r p q =>
  rw [show r ++ 10 :: x = (r ++ [10]) ++ x by simp]
  refine LexR.gapped ⟨fun y => ?_, fun c hc => ?_, by simp⟩ (by simpa [Nat.add_assoc] using h2)
  ·rw [show r ++ [10] ++ y = r ++ 10 :: y by simp, gap_app_nl false r y q]; simp
  ·cases r with
   | nil => cases hc; exact ⟨by decide, by decide⟩
   | cons b r =>
    obtain rfl : b = c := by simpa using hc
    have hb : blankB b = true ∨ b.toNat = 37 := by
     unfold gap at q
     cases q1 : blankB b with
     | true => exact .inl rfl
     | false =>
      cases q2 : decide (b.toNat = 37) with
      | true => exact .inr (of_decide_eq_true q2)
      | false => rw [q1, q2] at q; simp at q
    have e : ∀ m : UInt8, b.toNat = m.toNat → b = m := fun m h => UInt8.toNat_inj.1 h
    rcases hb with hb | hb
    ·simp only [blankB, Bool.or_eq_true, decide_eq_true_eq] at hb
     rcases hb with ((hb | hb) | hb) | hb
     ·rw [e 32 hb]; exact ⟨by decide, by decide⟩
     ·rw [e 9 hb]; exact ⟨by decide, by decide⟩
     ·rw [e 10 hb]; exact ⟨by decide, by decide⟩
     ·rw [e 13 hb]; exact ⟨by decide, by decide⟩
    ·rw [e 37 hb]; exact ⟨by decide, by decide⟩
 | @cons r p n k t l q1 q2 q3 ih =>
  obtain ⟨_, _, t2, t3⟩ := tokP_same q2 [] fun c hc => by simp at hc
  simp only [List.length_drop] at t3
  have e := gap_app_lt false r (10 :: x) q1
  have q2' : tokP ((r ++ 10 :: x).drop (gap false r)) = some (n, k, t) := by
   rw [List.drop_append_of_le_length (by omega)]
   have := (tokP_same q2 ((r.drop (gap false r)).drop n ++ 10 :: x) fun c hc => ?_).1
   ·rw [← List.append_assoc, List.take_append_drop] at this
    exact this
   ·cases hq : ((r.drop (gap false r)).drop n) with
    | nil => rw [hq] at hc; cases hc; exact .inl ⟨by decide, by decide⟩
    | cons a b => rw [hq] at hc; exact .inr hc
  have i := ih (by simp only [List.length_drop]; rw [show p + gap false r + n + (r.length - (gap false r + n)) = p + r.length by omega]; exact h2)
  rw [← e]
  refine .cons (by rw [e]; simp; omega) (by rw [e]; exact q2') ?_
  rw [e, List.drop_append_of_le_length (by omega)]
  exact i
/-! ### Tokens of given texts -/
theorem good_word {x : Bs} (h1 : ∀ b ∈ x, wordB b = true) (h2 : ∃ b ∈ x, digB b = false) (h3 : x.length ≤ 20) (h4 : x.headD 0 ≠ 95) : Good 1 x := by
 intro r hr
 have e := runP_app x r h1 fun c hc => (hr c hc).1
 have hx : 1 ≤ x.length := by obtain ⟨b, hb, _⟩ := h2; exact List.length_pos_of_mem hb
 have hf : (x.filter digB).length ≠ x.length := by
  intro q
  obtain ⟨b, hb, hd⟩ := h2
  have := List.filter_eq_self.1 (List.Sublist.eq_of_length (List.filter_sublist) q) b hb
  rw [hd] at this; cases this
 have hn : numLen (x ++ r) = 0 := by unfold numLen; rw [e]; simp [hf]
 have hm : nameLen (x ++ r) = x.length := by
  unfold nameLen; rw [e]
  have hh : (x ++ r).headD 0 = x.headD 0 := by cases x with
   | nil => simp at hx
   | cons => rfl
  simp only [hf, hh, h4, decide_false, Bool.false_or, Bool.or_false, show ¬ 20 < x.length by omega]; rfl
 unfold tokP srcT
 simp only [show ¬ (1 : Int) = 4 by decide, decide_false, cond_false, hn, hm, Nat.lt_irrefl, hx, show 0 < x.length by omega, decide_true, cond_true, List.take_left]
theorem good_num {x : Bs} (h1 : ∀ b ∈ x, digB b = true) (h2 : 1 ≤ x.length) (h3 : x.length ≤ 8) : Good 2 x := by
 intro r hr
 have e := runP_app x r (fun b hb => by unfold wordB; rw [h1 b hb]; simp) fun c hc => (hr c hc).1
 rw [List.filter_eq_self.2 h1] at e
 have hn : numLen (x ++ r) = x.length := by unfold numLen; rw [e]; simp [show ¬ 8 < x.length by omega]
 unfold tokP srcT
 simp only [show ¬ (2 : Int) = 4 by decide, decide_false, cond_false, hn, show 0 < x.length by omega, decide_true, cond_true, List.take_left]
theorem nmB_word {b : UInt8} (h : (smallB b || digB b || decide (b.toNat = 95)) = true) : wordB b = true := by
 unfold wordB smallB at *
 simp only [Bool.or_eq_true] at h ⊢
 rcases h with (h | h) | h
 ·exact .inl (.inl (.inr h))
 ·exact .inr h
 ·exact .inl (.inr h)
theorem good_name {x : Bs} (h : isNameB x = true) : Good 1 x := by
 unfold isNameB at h
 simp only [Bool.and_eq_true, decide_eq_true_eq, List.all_eq_true] at h
 obtain ⟨⟨⟨⟨h1, h2⟩, h3⟩, h4⟩, h5⟩ := h
 cases x with
 | nil => simp at h1
 | cons b x =>
  simp only [List.headD_cons] at h3
  refine good_word (fun c hc => nmB_word (h4 c hc)) ⟨b, List.mem_cons_self .., ?_⟩ (by omega) ?_
  ·unfold smallB at h3
   unfold digB
   simp only [Bool.and_eq_true, decide_eq_true_eq] at h3
   simp; omega
  ·simp only [List.headD_cons]
   intro e
   subst e
   exact absurd h3 (by decide)
theorem good_sym {x : Bs} (h : x ∈ [s_lb, s_rb, s_semi, s_colon]) : ∀ r, tokP (x ++ r) = some (x.length, 3, x) := by
 intro r
 simp only [List.mem_cons, List.not_mem_nil, or_false] at h
 have key : ∀ c : UInt8, wordB c = false → runP (c :: r) = (0, 0) := fun c hc => runP_nw fun d hd => by cases hd; exact hc
 rcases h with rfl | rfl | rfl | rfl
 all_goals
  unfold tokP
  first
  | rw [show s_lb ++ r = 123 :: r from rfl, (num_nw (key 123 (by decide))).1, (num_nw (key 123 (by decide))).2]
  | rw [show s_rb ++ r = 125 :: r from rfl, (num_nw (key 125 (by decide))).1, (num_nw (key 125 (by decide))).2]
  | rw [show s_semi ++ r = 59 :: r from rfl, (num_nw (key 59 (by decide))).1, (num_nw (key 59 (by decide))).2]
  | rw [show s_colon ++ r = 58 :: r from rfl, (num_nw (key 58 (by decide))).1, (num_nw (key 58 (by decide))).2]
  rfl
end Go.Proofs.YtmhlneeboefkgaaGreatDoor.Pl

set_option linter.unusedVariables false
set_option linter.unusedSimpArgs false
namespace Go.Proofs.YtmhlneeboefkgaaGreatDoor.Pl
open Go.Av Go.Av.Net
/-! ### Sizes -/
theorem lp_inv {σ : Type} {b : Bool} {k : Int} {x : Bs} {B : σ → List KT → Nat → PR σ} (q : σ → Nat) (Q : σ → Prop) (ts : List KT) (h : ∀ s i s' j, i ≤ ts.length → B s ts i = .ok s' j → j ≤ ts.length ∧ q s' + i ≤ q s + j ∧ (Q s → Q s')) :
  ∀ (f : Nat) (s : σ) (i : Nat) (s' : σ) (j : Nat), i ≤ ts.length → lpP b k x B ts f s i = .ok s' j → j ≤ ts.length ∧ q s' + i ≤ q s + j ∧ (Q s → Q s')
 | 0, s, i, s', j, hi, e => by cases e; exact ⟨hi, by omega, id⟩
 | f + 1, s, i, s', j, hi, e => by
  unfold lpP at e
  cases c : (seesP ts k x i == b) with
  | false => rw [c] at e; cases e; exact ⟨hi, by omega, id⟩
  | true =>
   rw [c] at e
   simp only [cond_true] at e
   obtain ⟨s1, j1, e1, e2⟩ := PR.bind_ok e
   obtain ⟨h0, h1, h2⟩ := h s i s1 j1 hi e1
   obtain ⟨h3, h4, h5⟩ := lp_inv q Q ts h f s1 j1 s' j h0 e2
   exact ⟨h3, by omega, fun q => h5 (h2 q)⟩
theorem Par.ok_le {α : Type} {P : List KT → Nat → PR α} (h : Par P) {ts : List KT} {i j : Nat} {a : α} (hi : i ≤ ts.length) (e : P ts i = .ok a j) : i ≤ j ∧ j ≤ ts.length := by
 have hb := (h.eb ts [] i hi).1
 rw [e] at hb
 exact hb
theorem hols_len {ts : List KT} {i j : Nat} {l : List Int} (hi : i ≤ ts.length) (e : holsP ts ts.length i = .ok l j) : l.length ≤ ts.length := by
 have h : lpP true 1 w_holiday holB ts ts.length [] i = .ok l j := by rw [hols_lp, e]; simp [PR.bind]
 have := lp_inv List.length (fun _ => True) ts (fun s i s' j hi e => by
  have hle := (par_holB s).ok_le hi e
  have hlt : i < j := lt_expect e fun a j => (par_int.bind fun n => (par_expect 3 s_semi).bind fun _ => Par.ok (s ++ [n])).up ts j
  unfold holB at e
  obtain ⟨_, _, _, e⟩ := PR.bind_ok e
  obtain ⟨_, _, _, e⟩ := PR.bind_ok e
  obtain ⟨_, _, _, e⟩ := PR.bind_ok e
  cases e
  exact ⟨hle.2, by simp; omega, id⟩) _ _ _ _ _ hi h
 simp only [List.length_nil] at this
 omega
theorem codes_len {ts : List KT} {i j : Nat} {l : List Bs} (hi : i ≤ ts.length) (e : codesP ts (ts.length + 1) i = .ok l j) : l.length + i ≤ j := by
 have h : lpP false 3 s_semi codB ts (ts.length + 1) [] i = .ok l j := by rw [codes_lp, e]; simp [PR.bind]
 have := lp_inv List.length (fun _ => True) ts (fun s i s' j hi e => by
  have hle := (par_codB s).ok_le hi e
  unfold codB at e
  obtain ⟨_, _, e1, e⟩ := PR.bind_ok e
  have := code_to e1
  cases e
  exact ⟨hle.2, by simp; omega, id⟩) _ _ _ _ _ hi h
 simp only [List.length_nil] at this
 omega
theorem codesAll_len {ts : List KT} {i j : Nat} {l : List Bs} (hi : i ≤ ts.length) (e : codesAllP ts i = .ok l j) : l.length ≤ ts.length := by
 have hj := par_codesAll.ok_le hi e
 unfold codesAllP at e
 cases c : seesP ts 1 w_codes i with
 | false => rw [c] at e; cases e; simp
 | true =>
  rw [c] at e
  simp only [cond_true] at e
  obtain ⟨_, j1, e1, e⟩ := PR.bind_ok e
  have l1 := ((par_expect 1 w_codes).ok_le hi e1).2
  obtain ⟨_, j2, e2, e⟩ := PR.bind_ok e
  have l2 := (par_code.ok_le l1 e2).2
  have := code_to e2
  obtain ⟨_, j3, e3, e⟩ := PR.bind_ok e
  have l3 := codes_len l2 e3
  have l4 := (par_codes.ok_le l2 e3).2
  obtain ⟨_, _, _, e⟩ := PR.bind_ok e
  cases e
  simp only [List.length_cons]
  omega
structure Szs (L : Nat) (n : Nw) : Prop where
 hols : ∀ c ∈ n.cals, c.hols.length ≤ L
 codes : ∀ o ∈ n.offs, o.codes.length ≤ L
theorem cal_hols {ts : List KT} {i j : Nat} {c : Bs × Cal} (hi : i ≤ ts.length) (e : calP ts i = .ok c j) : c.2.hols.length ≤ ts.length := by
 unfold calP at e
 obtain ⟨_, j1, e1, e⟩ := PR.bind_ok e
 have l := ((par_expect 1 w_calendar).ok_le hi e1).2
 obtain ⟨_, j2, e1, e⟩ := PR.bind_ok e
 have l := (par_name.ok_le l e1).2
 obtain ⟨_, j3, e1, e⟩ := PR.bind_ok e
 have l := ((par_expect 3 s_lb).ok_le l e1).2
 obtain ⟨_, j4, e1, e⟩ := PR.bind_ok e
 have l := ((par_expect 1 w_zone).ok_le l e1).2
 obtain ⟨_, j5, e1, e⟩ := PR.bind_ok e
 have l := (par_int.ok_le l e1).2
 obtain ⟨_, j6, e1, e⟩ := PR.bind_ok e
 have l := ((par_expect 3 s_semi).ok_le l e1).2
 obtain ⟨_, j7, e1, e⟩ := PR.bind_ok e
 have l := ((par_expect 1 w_week).ok_le l e1).2
 obtain ⟨_, j8, e1, e⟩ := PR.bind_ok e
 have l := (par_week.ok_le l e1).2
 obtain ⟨_, j9, e1, e⟩ := PR.bind_ok e
 have l := ((par_expect 3 s_semi).ok_le l e1).2
 obtain ⟨hs, j10, e1, e⟩ := PR.bind_ok e
 have := hols_len l e1
 obtain ⟨_, j11, _, e⟩ := PR.bind_ok e
 cases e
 exact this
theorem off_codes {ts : List KT} {n : Nw} {i j : Nat} {c : Off} (hi : i ≤ ts.length) (e : offP ts n i = .ok c j) : c.codes.length ≤ ts.length := by
 unfold offP at e
 obtain ⟨_, j1, e1, e⟩ := PR.bind_ok e
 have l := ((par_expect 1 w_office).ok_le hi e1).2
 obtain ⟨_, j2, e1, e⟩ := PR.bind_ok e
 have l := (par_name.ok_le l e1).2
 obtain ⟨_, j3, e1, e⟩ := PR.bind_ok e
 have l := ((par_expect 3 s_lb).ok_le l e1).2
 obtain ⟨_, j4, e1, e⟩ := PR.bind_ok e
 have l := ((par_expect 1 w_operator).ok_le l e1).2
 obtain ⟨_, j5, e1, e⟩ := PR.bind_ok e
 have l := ((par_ref _).ok_le l e1).2
 obtain ⟨_, j6, e1, e⟩ := PR.bind_ok e
 have l := ((par_expect 3 s_semi).ok_le l e1).2
 obtain ⟨_, j7, e1, e⟩ := PR.bind_ok e
 have l := ((par_expect 1 w_calendar).ok_le l e1).2
 obtain ⟨_, j8, e1, e⟩ := PR.bind_ok e
 have l := ((par_ref _).ok_le l e1).2
 obtain ⟨_, j9, e1, e⟩ := PR.bind_ok e
 have l := ((par_expect 3 s_semi).ok_le l e1).2
 obtain ⟨_, j10, e1, e⟩ := PR.bind_ok e
 have l := ((par_field w_pockets).ok_le l e1).2
 obtain ⟨_, j11, e1, e⟩ := PR.bind_ok e
 have l := ((par_field w_passes).ok_le l e1).2
 obtain ⟨_, j12, e1, e⟩ := PR.bind_ok e
 have l := ((par_field w_minutes).ok_le l e1).2
 obtain ⟨_, j13, e1, e⟩ := PR.bind_ok e
 have := codesAll_len l e1
 obtain ⟨_, j14, _, e⟩ := PR.bind_ok e
 cases e
 exact this
theorem mem_snoc {α : Type} {Q : α → Prop} {x : α} {l : List α} (hl : ∀ y ∈ l, Q y) (hx : Q x) : ∀ y ∈ l ++ [x], Q y := by
 intro y hy
 rcases List.mem_append.1 hy with hy | hy
 ·exact hl y hy
 ·rw [List.mem_singleton.1 hy]; exact hx
theorem net_small {ts : List KT} {N : Nw} {L : Nat} (h : netP ts = .ok N L) : szN N ≤ ts.length ∧ Szs ts.length N := by
 rw [netP_eq] at h
 unfold netQ sec at h
 obtain ⟨n1, j1, e1, h⟩ := PR.bind_ok h
 obtain ⟨n2, j2, e2, h⟩ := PR.bind_ok h
 obtain ⟨n3, j3, e3, h⟩ := PR.bind_ok h
 obtain ⟨n4, j4, e4, h⟩ := PR.bind_ok h
 obtain ⟨n5, j5, e5, h⟩ := PR.bind_ok h
 obtain ⟨a0, a1, a2⟩ := lp_inv szN (Szs ts.length) ts (fun s i s' j hi e => by
  have h1 := (clo_calS s).toPar.ok_le hi e
  have h2 := (clo_calS s).st _ _ _ _ e
  obtain ⟨c, k, e1, e⟩ := PR.bind_ok e
  cases e
  have := cal_hols hi e1
  exact ⟨h1.2, by simp [szN]; omega, fun q => ⟨mem_snoc q.hols this, q.codes⟩⟩) _ _ _ _ _ (Nat.zero_le _) e1
 obtain ⟨b0, b1, b2⟩ := lp_inv szN (Szs ts.length) ts (fun s i s' j hi e => by
  have h1 := (clo_operS s).toPar.ok_le hi e
  have h2 := (clo_operS s).st _ _ _ _ e
  obtain ⟨c, k, e1, e⟩ := PR.bind_ok e
  cases e
  exact ⟨h1.2, by simp [szN]; omega, fun q => ⟨q.hols, q.codes⟩⟩) _ _ _ _ _ a0 e2
 obtain ⟨c0, c1, c2⟩ := lp_inv szN (Szs ts.length) ts (fun s i s' j hi e => by
  have h1 := (clo_offS s).toPar.ok_le hi e
  have h2 := (clo_offS s).st _ _ _ _ e
  obtain ⟨c, k, e1, e⟩ := PR.bind_ok e
  cases e
  have := off_codes hi e1
  exact ⟨h1.2, by simp [szN]; omega, fun q => ⟨q.hols, mem_snoc q.codes this⟩⟩) _ _ _ _ _ b0 e3
 obtain ⟨d0, d1, d2⟩ := lp_inv szN (Szs ts.length) ts (fun s i s' j hi e => by
  have h1 := (clo_linS s).toPar.ok_le hi e
  have h2 := (clo_linS s).st _ _ _ _ e
  obtain ⟨c, k, e1, e⟩ := PR.bind_ok e
  cases e
  exact ⟨h1.2, by simp [szN]; omega, fun q => ⟨q.hols, q.codes⟩⟩) _ _ _ _ _ c0 e4
 obtain ⟨f0, f1, f2⟩ := lp_inv szN (Szs ts.length) ts (fun s i s' j hi e => by
  have h1 := (clo_clsS s).toPar.ok_le hi e
  have h2 := (clo_clsS s).st _ _ _ _ e
  obtain ⟨c, k, e1, e⟩ := PR.bind_ok e
  cases e
  exact ⟨h1.2, by simp [szN]; omega, fun q => ⟨q.hols, q.codes⟩⟩) _ _ _ _ _ d0 e5
 unfold finP at h
 cases c : decide (j5 < ts.length) <;> rw [c] at h <;> cases h
 have z : szN nw0 = 0 := rfl
 exact ⟨by omega, f2 (d2 (c2 (b2 (a2 ⟨by simp [nw0], by simp [nw0]⟩))))⟩
end Go.Proofs.YtmhlneeboefkgaaGreatDoor.Pl

set_option linter.unusedVariables false
set_option linter.unusedSimpArgs false
namespace Go.Proofs.YtmhlneeboefkgaaGreatDoor.Pl
open Go.Av Go.Av.Net
/-! ### The reference's lexer: the longest piece that is a token -/
def symL : List Bs := [[123], [125], [40], [41], [91], [93], [44], [59], [58], [61], [45, 62], [46], [45]]
def symB (s : Bs) : Bool := symL.any (fun x => decide (x = s))
def inner (b : UInt8) : Bool := decide (32 ≤ b.toNat) && decide (b.toNat ≤ 126) && !decide (b.toNat = 34)
def quotB (s : Bs) : Bool := decide (2 ≤ s.length) && decide (s.length ≤ 202) && decide ((s.headD 0).toNat = 34) && decide ((s.getD (s.length - 1) 0).toNat = 34) && ((s.take (s.length - 1)).drop 1).all inner
def runK (s : Bs) : Int :=
 bif !s.all wordB || decide (s.length = 0) || decide ((s.headD 0).toNat = 95) then 0
 else bif s.all digB && decide (s.length ≤ 8) then 2 else bif !s.all digB && decide (s.length ≤ 20) then 1 else 0
def kindR (s : Bs) : Int × Bs := bif symB s then (3, s) else bif quotB s then (4, (s.take (s.length - 1)).drop 1) else bif decide (runK s = 0) then (0, []) else (runK s, s)
/-- The piece of 'n' bytes is a token that does not go on. -/
def okR (s : Bs) (n : Nat) : Bool := !decide ((kindR (s.take n)).1 = 0) && !((decide ((kindR (s.take n)).1 = 1) || decide ((kindR (s.take n)).1 = 2)) && decide (n < s.length) && wordB (s.getD n 0))
theorem sym_facts : ∀ x ∈ syms, symB x = true ∧ wordB (x.headD 0) = false ∧ (x.headD 0).toNat ≠ 34 ∧ 1 ≤ x.length ∧ x.length ≤ 2 := by decide
theorem symB_mem {s : Bs} (h : symB s = true) : s ∈ syms := by
 simp only [symB, symL, List.any_cons, List.any_nil, Bool.or_eq_true, decide_eq_true_eq, Bool.or_false] at h
 rcases h with h | h | h | h | h | h | h | h | h | h | h | h | h <;> subst h <;> decide
theorem symB_false {s : Bs} (h : wordB (s.headD 0) = true ∨ (s.headD 0).toNat = 34) : symB s = false := by
 rw [Bool.eq_false_iff]
 intro q
 obtain ⟨_, h2, h3, _⟩ := sym_facts s (symB_mem q)
 rcases h with h | h
 ·rw [h] at h2; cases h2
 ·exact h3 h
theorem digB_word {b : UInt8} (h : digB b = true) : wordB b = true := by unfold wordB; rw [h]; simp
theorem all_filter {s : Bs} : (s.filter digB).length = s.length ↔ s.all digB = true := by
 constructor
 ·intro h
  rw [List.all_eq_true]
  exact List.filter_eq_self.1 (List.filter_sublist.eq_of_length h)
 ·intro h
  rw [List.all_eq_true] at h
  rw [List.filter_eq_self.2 h]
theorem word_head {s : Bs} (h : s.all wordB = true) (hs : 1 ≤ s.length) : wordB (s.headD 0) = true := by
 cases s with
 | nil => simp at hs
 | cons b s => simp at h; exact h.1
theorem w34 {b : UInt8} (h : wordB b = true) : b.toNat ≠ 34 := by
 intro e
 have : b = 34 := UInt8.toNat_inj.1 e
 subst this
 exact absurd h (by decide)
theorem kind_run {s : Bs} (h : s.all wordB = true) (hs : 1 ≤ s.length) : kindR s = bif decide (runK s = 0) then (0, []) else (runK s, s) := by
 have hw := word_head h hs
 unfold kindR
 rw [symB_false (.inl hw)]
 have : quotB s = false := by unfold quotB; rw [decide_eq_false (w34 hw)]; simp
 rw [this]
 rfl
theorem runK_of {s : Bs} (h : s.all wordB = true) (hs : 1 ≤ s.length) (h95 : (s.headD 0).toNat ≠ 95) : runK s = bif s.all digB && decide (s.length ≤ 8) then 2 else bif !s.all digB && decide (s.length ≤ 20) then 1 else 0 := by
 unfold runK
 rw [h, decide_eq_false (show ¬ s.length = 0 by omega), decide_eq_false h95]
 rfl
theorem dig_head {s : Bs} (h : s.all digB = true) (hs : 1 ≤ s.length) : (s.headD 0).toNat ≠ 95 := by
 cases s with
 | nil => simp at hs
 | cons b s =>
  simp at h
  have := h.1
  simp [digB] at this
  simp; omega
theorem txt_inner : ∀ (m f i : Nat) (r : Bs), (r.take m).all inner = true → (r.getD m 0).toNat = 34 → m < r.length → m < f → txt f i r = i + m + 1
 | m, 0, i, r, _, _, _, h => by omega
 | m, f + 1, i, [], _, _, h, _ => by simp at h
 | 0, f + 1, i, b :: r, _, h, _, _ => by
  unfold txt; simp at h; rw [decide_eq_true h]; rfl
 | m + 1, f + 1, i, b :: r, h1, h2, h3, h4 => by
  simp only [List.take_succ_cons, List.all_cons, Bool.and_eq_true] at h1
  have hi := h1.1
  unfold inner at hi
  simp only [Bool.and_eq_true, decide_eq_true_eq, Bool.not_eq_true', decide_eq_false_iff_not] at hi
  rw [show txt (f + 1) i (b :: r) = bif decide (b.toNat = 34) then i + 1 else bif decide (b.toNat < 32) || decide (126 < b.toNat) then 0 else txt f (i + 1) r from rfl]
  rw [decide_eq_false hi.2, decide_eq_false (by omega), decide_eq_false (by omega)]
  simp only [cond_false, Bool.or_false]
  rw [txt_inner m f (i + 1) r h1.2 (by simpa using h2) (by simpa using h3) (by omega)]
  omega
theorem inner_txt : ∀ (f i : Nat) (r : Bs), 0 < txt f i r → (r.take (txt f i r - i - 1)).all inner = true
 | 0, i, r, h => by simp [txt] at h
 | f + 1, i, [], h => by simp [txt] at h
 | f + 1, i, b :: r, h => by
  rw [show txt (f + 1) i (b :: r) = bif decide (b.toNat = 34) then i + 1 else bif decide (b.toNat < 32) || decide (126 < b.toNat) then 0 else txt f (i + 1) r from rfl] at *
  by_cases h1 : b.toNat = 34
  ·rw [decide_eq_true h1, cond_true, show i + 1 - i - 1 = 0 by omega]; simp
  ·rw [decide_eq_false h1, cond_false] at *
   cases q : (decide (b.toNat < 32) || decide (126 < b.toNat)) with
   | true => rw [q] at h; simp at h
   | false =>
    rw [q] at h
    simp only [cond_false] at h ⊢
    have hb := txt_bd f (i + 1) r h
    have hi := inner_txt f (i + 1) r h
    obtain ⟨m, hm⟩ : ∃ m, txt f (i + 1) r = i + 2 + m := ⟨txt f (i + 1) r - i - 2, by omega⟩
    rw [hm] at hi ⊢
    rw [show i + 2 + m - (i + 1) - 1 = m by omega] at hi
    rw [show i + 2 + m - i - 1 = m + 1 by omega, List.take_succ_cons, List.all_cons, hi]
    simp only [Bool.or_eq_false_iff, decide_eq_false_iff_not] at q
    simp only [inner, Bool.and_true, Bool.and_eq_true, decide_eq_true_eq, Bool.not_eq_true', decide_eq_false_iff_not]
    omega
theorem txt_f : ∀ (f i : Nat) (r : Bs), txt f i r ≤ i + f
 | 0, i, r => by simp [txt]
 | f + 1, i, [] => by simp [txt]
 | f + 1, i, b :: r => by
  have := txt_f f (i + 1) r
  unfold txt
  cases decide (b.toNat = 34) <;> cases (decide (b.toNat < 32) || decide (126 < b.toNat)) <;> simp <;> omega
theorem take_word {s : Bs} : (s.take (runP s).1).all wordB = true := List.all_eq_true.2 (runP_self s).1
theorem run_next {s : Bs} {n : Nat} (hn : n = (runP s).1) (h : n < s.length) : wordB (s.getD n 0) = false := by
 have := (runP_self s).2.1
 subst hn
 refine this _ ?_
 rw [List.drop_eq_getElem_cons h]
 simp [List.getD, h]
/-- The piece that the token is has its kind, and does not go on. -/
theorem tok_kind {s : Bs} {n : Nat} {k : Int} {t : Bs} (h : tokP s = some (n, k, t)) : kindR (s.take n) = (k, t) ∧ k ≠ 0 ∧ okR s n = true ∧ 1 ≤ n ∧ n ≤ s.length ∧ n ≤ 202 := by
 obtain ⟨_, _, b1, b2⟩ := tokP_same h [] fun c hc => by simp at hc
 suffices hk : kindR (s.take n) = (k, t) ∧ k ≠ 0 ∧ n ≤ 202 ∧ ((k = 1 ∨ k = 2) → n < s.length → wordB (s.getD n 0) = false) by
  obtain ⟨h1, h2, h3, h4⟩ := hk
  refine ⟨h1, h2, ?_, b1, b2, h3⟩
  unfold okR
  rw [h1]
  simp only [decide_eq_false h2, Bool.not_false, Bool.true_and, Bool.not_eq_true']
  by_cases c1 : k = 1 ∨ k = 2
  ·by_cases c2 : n < s.length
   ·rw [h4 c1 c2]; simp
   ·simp [c2]
  ·simp only [not_or] at c1
   simp [c1]
 obtain ⟨w1, w2, w3, w4⟩ := runP_self s
 unfold tokP at h
 by_cases c1 : 0 < numLen s
 ·rw [decide_eq_true c1, cond_true] at h
  simp only [Option.some.injEq, Prod.mk.injEq] at h
  obtain ⟨rfl, rfl, rfl⟩ := h
  have e := num_of s c1
  have hl : (s.take (numLen s)).length = numLen s := by simp; omega
  have ha : (s.take (numLen s)).all wordB = true := by rw [e]; exact take_word
  have hc : (runP s).2 = (runP s).1 ∧ (runP s).1 ≤ 8 := by
   unfold numLen at c1
   by_cases q : (runP s).2 = (runP s).1
   ·by_cases q2 : 8 < (runP s).1
    ·simp [q, q2] at c1
    ·exact ⟨q, by omega⟩
   ·simp [q] at c1
  have hd : (s.take (numLen s)).all digB = true := by
   rw [← all_filter, hl]
   rw [e, ← w4]; exact hc.1
  refine ⟨?_, by decide, by omega, fun _ hlt => run_next e hlt⟩
  rw [kind_run ha (by omega), runK_of ha (by omega) (dig_head hd (by omega)), hd, hl, decide_eq_true (show numLen s ≤ 8 by omega)]
  rfl
 ·rw [decide_eq_false c1, cond_false] at h
  by_cases c2 : 0 < nameLen s
  ·rw [decide_eq_true c2, cond_true] at h
   simp only [Option.some.injEq, Prod.mk.injEq] at h
   obtain ⟨rfl, rfl, rfl⟩ := h
   have e := name_of s c2
   have hl : (s.take (nameLen s)).length = nameLen s := by simp; omega
   have ha : (s.take (nameLen s)).all wordB = true := by rw [e]; exact take_word
   have hc : (runP s).2 ≠ (runP s).1 ∧ (runP s).1 ≤ 20 ∧ s.headD 0 ≠ 95 := by
    unfold nameLen at c2
    by_cases q : (runP s).2 = (runP s).1
    ·simp [q] at c2
    ·by_cases q2 : 20 < (runP s).1
     ·simp [q2] at c2
     ·by_cases q3 : s.headD 0 = 95
      ·simp only [q3, decide_true, Bool.or_true, cond_true] at c2; omega
      ·exact ⟨q, by omega, q3⟩
   have hd : (s.take (nameLen s)).all digB = false := by
    rw [Bool.eq_false_iff]
    intro q
    rw [← all_filter, hl] at q
    rw [e, ← w4] at q
    exact hc.1 q
   have hh : (s.take (nameLen s)).headD 0 = s.headD 0 := by have := headD_take (s := s) (r' := []) c2 (by omega); rwa [List.append_nil] at this
   have h95 : ((s.take (nameLen s)).headD 0).toNat ≠ 95 := by rw [hh]; exact fun q => hc.2.2 (UInt8.toNat_inj.1 q)
   refine ⟨?_, by decide, by omega, fun _ hlt => run_next e hlt⟩
   rw [kind_run ha (by omega), runK_of ha (by omega) h95, hd, hl, decide_eq_true (show nameLen s ≤ 20 by omega)]
   rfl
  ·rw [decide_eq_false c2, cond_false] at h
   by_cases c3 : 0 < txtLen s
   ·rw [decide_eq_true c3, cond_true] at h
    simp only [Option.some.injEq, Prod.mk.injEq] at h
    obtain ⟨hn, rfl, rfl⟩ := h
    cases s with
    | nil => simp [txtLen] at c3
    | cons b s =>
     have e : txtLen (b :: s) = bif decide (b.toNat = 34) then txt 201 1 s else 0 := rfl
     by_cases hb : b.toNat = 34
     ·rw [decide_eq_true hb] at e
      simp only [cond_true] at e
      rw [e] at c3 hn
      have t3 := txt_bd 201 1 s c3
      have t4 := txt_f 201 1 s
      have t5 := inner_txt 201 1 s c3
      have t6 := (txt_same 201 1 s [] c3).2
      rw [e] at *
      subst hn
      generalize txt 201 1 s = n at *
      obtain ⟨m, rfl⟩ : ∃ m, n = m + 2 := ⟨n - 2, by omega⟩
      rw [show m + 2 - 1 = m + 1 by omega] at t6 ⊢
      rw [show m + 1 - 1 = m by omega] at t6
      rw [show m + 2 - 1 - 1 = m by omega] at t5
      refine ⟨?_, by decide, by omega, fun h => absurd h (by decide)⟩
      have hl : ((b :: s).take (m + 2)).length = m + 2 := by simp at t3 ⊢; omega
      unfold kindR
      rw [symB_false (.inr (by simpa using hb))]
      have hq : quotB ((b :: s).take (m + 2)) = true := by
       unfold quotB
       rw [hl]
       rw [decide_eq_true (show 2 ≤ m + 2 by omega), decide_eq_true (show m + 2 ≤ 202 by omega)]
       simp only [List.take_succ_cons, List.headD_cons, decide_eq_true hb, Bool.true_and, Bool.and_eq_true, decide_eq_true_eq]
       have hlm : (s.take m).length = m := by simp at t3 ⊢; omega
       refine ⟨⟨decide_eq_true hb, decide_eq_true ?_⟩, ?_⟩
       ·show ((b :: List.take (m + 1) s).getD (m + 1) 0).toNat = 34
        rw [List.getD_cons_succ, t6]
        have : (s.take m ++ [34]).getD m 0 = 34 := by
         rw [List.getD, List.getElem?_append_right (by omega), hlm]; simp
        rw [this]; rfl
       ·rw [show m + 2 - 1 = m + 1 by omega, List.take_succ_cons, List.drop_succ_cons, List.drop_zero, List.take_take, Nat.min_eq_left (by omega)]
        exact t5
      rw [hq, hl, show m + 2 - 1 = m + 1 by omega, List.take_take, Nat.min_eq_left (by omega)]
      rfl
     ·rw [decide_eq_false hb] at e
      rw [e] at c3
      simp at c3
   ·rw [decide_eq_false c3, cond_false] at h
    by_cases c4 : 0 < symLen s
    ·rw [decide_eq_true c4, cond_true] at h
     simp only [Option.some.injEq, Prod.mk.injEq] at h
     obtain ⟨rfl, rfl, rfl⟩ := h
     obtain ⟨_, s2, x, s3, s4⟩ := sym_same s [] c4 fun c hc => by simp at hc
     obtain ⟨f1, f2, f3, f4, f5⟩ := sym_facts x s3
     have hl : (s.take (symLen s)).length = symLen s := by simp; omega
     rw [s4] at hl ⊢
     refine ⟨?_, by decide, by omega, fun h => absurd h (by decide)⟩
     unfold kindR
     rw [f1]
     rfl
    ·rw [decide_eq_false c4, cond_false] at h
     cases h
theorem head_take {s : Bs} {m : Nat} (hm : 0 < m) : (s.take m).headD 0 = s.headD 0 := by
 cases s with
 | nil => simp
 | cons b s => cases m with
  | zero => omega
  | succ m => rfl
/-- A piece that is a token and does not go on is not longer than the token. -/
theorem tok_max {s : Bs} {m : Nat} (hm : 0 < m) (hml : m ≤ s.length) (h : okR s m = true) : ∃ n k t, tokP s = some (n, k, t) ∧ m ≤ n := by
 unfold okR at h
 simp only [Bool.and_eq_true, Bool.not_eq_true', decide_eq_false_iff_not] at h
 obtain ⟨h1, h2⟩ := h
 have hl : (s.take m).length = m := by simp; omega
 have hh := head_take (s := s) hm
 by_cases c1 : symB (s.take m) = true
 ·have hx := symB_mem c1
  obtain ⟨_, f2, f3, f4, f5⟩ := sym_facts _ hx
  rw [hh] at f2 f3
  have hw : runP s = (0, 0) := runP_nw fun c hc => by cases s with
   | nil => simp at hc
   | cons b s => cases hc; exact f2
  have hz := num_nw hw
  have ht : txtLen s = 0 := by cases s with
   | nil => rfl
   | cons b s =>
    simp only [List.headD_cons] at f3
    rw [show txtLen (b :: s) = bif decide (b.toNat = 34) then txt 201 1 s else 0 from rfl, decide_eq_false f3]; rfl
  have hsym : m ≤ symLen s := by
   have hp : (s.take m).isPrefixOf s = true := by rw [List.isPrefixOf_iff_prefix]; exact List.take_prefix m s
   cases hf : syms.find? (fun x => x.isPrefixOf s) with
   | none =>
    have := List.find?_eq_none.1 hf _ hx
    exact absurd hp this
   | some y =>
    have hy : symLen s = y.length := by unfold symLen; rw [hf]
    have hym := List.mem_of_find?_eq_some hf
    have hy1 := (sym_facts y hym).2.2.2.1
    by_cases c : m = 1
    ·omega
    ·have hm2 : m = 2 := by omega
     have hx2 : ∀ x ∈ syms, x.length = 2 → x = [45, 62] := by decide
     have e := hx2 _ hx (by omega)
     rw [e] at hp
     have : syms.find? (fun x => x.isPrefixOf s) = some [45, 62] := by
      unfold syms
      rw [List.find?_cons, hp]
     rw [hf] at this
     cases this
     rw [hy]; simp; omega
  refine ⟨symLen s, 3, s.take (symLen s), ?_, hsym⟩
  unfold tokP
  rw [hz.1, hz.2, ht]
  simp [show 0 < symLen s by omega]
 ·have c1 : symB (s.take m) = false := by simpa using c1
  by_cases c2 : quotB (s.take m) = true
  ·unfold quotB at c2
   simp only [Bool.and_eq_true, decide_eq_true_eq] at c2
   obtain ⟨⟨⟨⟨q1, q2⟩, q3⟩, q4⟩, q5⟩ := c2
   rw [hl] at *
   cases s with
   | nil => simp at hml; omega
   | cons b s =>
    obtain ⟨m, rfl⟩ : ∃ m', m = m' + 2 := ⟨m - 2, by omega⟩
    rw [hh] at q3
    simp only [List.headD_cons] at q3
    simp only [List.length_cons] at hml
    rw [show m + 2 - 1 = m + 1 by omega] at *
    simp only [List.take_succ_cons, List.getD_cons_succ, List.drop_succ_cons, List.drop_zero] at q4 q5
    have e : txt 201 1 s = m + 2 := by
     rw [txt_inner m 201 1 s ?_ ?_ (by omega) (by omega)]
     ·omega
     ·rw [List.take_take, Nat.min_eq_left (by omega)] at q5; exact q5
     ·rw [← q4]; simp [List.getD]
    have hw : runP (b :: s) = (0, 0) := runP_nw fun c hc => by cases hc; rw [show b = 34 from UInt8.toNat_inj.1 q3]; decide
    have hz := num_nw hw
    have ht : txtLen (b :: s) = m + 2 := by rw [show txtLen (b :: s) = bif decide (b.toNat = 34) then txt 201 1 s else 0 from rfl, decide_eq_true q3]; exact e
    refine ⟨m + 2, 4, ((b :: s).take (m + 1)).drop 1, ?_, Nat.le_refl _⟩
    unfold tokP
    rw [hz.1, hz.2, ht]
    simp
  ·have c2 : quotB (s.take m) = false := by simpa using c2
   have hk : kindR (s.take m) = bif decide (runK (s.take m) = 0) then (0, []) else (runK (s.take m), s.take m) := by unfold kindR; rw [c1, c2]; rfl
   have hr : runK (s.take m) ≠ 0 := by
    intro q
    rw [hk, q] at h1
    exact h1 rfl
   rw [hk, decide_eq_false hr] at h2
   simp only [cond_false] at h2
   have hr2 := hr
   unfold runK at hr2
   cases a1 : (s.take m).all wordB with
   | false => rw [a1] at hr2; simp at hr2
   | true =>
    by_cases a2 : ((s.take m).headD 0).toNat = 95
    ·rw [a2] at hr2; simp at hr2
    ·have hrk := runK_of a1 (by omega) a2
     have hkk : runK (s.take m) = 1 ∨ runK (s.take m) = 2 := by
      rw [hrk] at hr ⊢
      revert hr
      cases (s.take m).all digB <;> cases decide ((s.take m).length ≤ 8) <;> cases decide ((s.take m).length ≤ 20) <;> simp
     have hstop : ∀ c, (s.drop m).head? = some c → wordB c = false := by
      intro c hc
      by_cases hlt : m < s.length
      ·rw [decide_eq_true hlt] at h2
       have e : (decide (runK (s.take m) = 1) || decide (runK (s.take m) = 2)) = true := by simpa using hkk
       rw [e] at h2
       simp only [Bool.true_and] at h2
       rw [List.drop_eq_getElem_cons hlt] at hc
       cases hc
       simpa [List.getD, hlt] using h2
      ·rw [List.drop_eq_nil_of_le (by omega)] at hc; simp at hc
     have hrun : runP s = (m, ((s.take m).filter digB).length) := by
      have := runP_app (s.take m) (s.drop m) (List.all_eq_true.1 a1) hstop
      rw [List.take_append_drop, hl] at this
      exact this
     rw [hh] at a2
     cases a3 : (s.take m).all digB with
     | true =>
      rw [hrk, a3, hl] at hr
      have h8 : m ≤ 8 := by
       by_cases q : m ≤ 8
       ·exact q
       ·simp [q] at hr
      have hf := all_filter.2 a3
      rw [hl] at hf
      have hn : numLen s = m := by unfold numLen; rw [hrun, hf]; simp [show ¬ 8 < m by omega]
      refine ⟨m, 2, s.take m, ?_, Nat.le_refl _⟩
      unfold tokP
      rw [hn, decide_eq_true hm]
      rfl
     | false =>
      rw [hrk, a3, hl] at hr
      have h20 : m ≤ 20 := by
       by_cases q : m ≤ 20
       ·exact q
       ·simp [q] at hr
      have hf : ((s.take m).filter digB).length ≠ m := by
       intro q
       rw [← hl] at q
       rw [hl] at q
       have := all_filter.1 (q.trans hl.symm)
       rw [a3] at this; cases this
      have hn : numLen s = 0 := by unfold numLen; rw [hrun]; simp [hf]
      have hnm : nameLen s = m := by
       unfold nameLen; rw [hrun]
       have : s.headD 0 ≠ 95 := fun q => a2 (by rw [q]; rfl)
       simp only [hf, this, decide_false, Bool.false_or, Bool.or_false, show ¬ 20 < m by omega]; rfl
      refine ⟨m, 1, s.take m, ?_, Nat.le_refl _⟩
      unfold tokP
      rw [hn, hnm, decide_eq_true hm]
      rfl
/-- What the search from above finds. -/
theorem next_eq {s : Bs} {n : Nat} (hn : 0 < n) (hl : n ≤ s.length) (h : okR s n = true) (hmax : ∀ m, n < m → m ≤ s.length → m ≤ 202 → okR s m = false) : tokP s = some (n, (kindR (s.take n)).1, (kindR (s.take n)).2) := by
 obtain ⟨n', k, t, ht, hle⟩ := tok_max hn hl h
 obtain ⟨q1, _, q3, _, q5, q6⟩ := tok_kind ht
 have : n' = n := by
  by_cases c : n < n'
  ·have := hmax n' c q5 q6
   rw [q3] at this; cases this
  ·omega
 subst this
 rw [ht, q1]
theorem next_none {s : Bs} (h : ∀ m, 0 < m → m ≤ s.length → m ≤ 202 → okR s m = false) : tokP s = none := by
 cases ht : tokP s with
 | none => rfl
 | some x =>
  obtain ⟨n, k, t⟩ := x
  obtain ⟨_, _, q3, q4, q5, q6⟩ := tok_kind ht
  rw [h n q4 q5 q6] at q3; cases q3
end Go.Proofs.YtmhlneeboefkgaaGreatDoor.Pl
