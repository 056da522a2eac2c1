import Derived.Test.YtmhlneeboefkgaaDoorN1
set_option linter.unusedVariables false
set_option linter.unusedSimpArgs false
namespace Go.Proofs.YtmhlneeboefkgaaDoor.Pl
open Go.Av Go.Av.Net
/-! ### A parser reads from its place on; a beginning of the tokens tells what the whole does; tokens before it move its places -/
def Up {α : Type} (m : Nat) : PR α → Prop
  | .ok _ j => m ≤ j
  | .fail _ k => m ≤ k
theorem Up.bind {α β : Type} {m : Nat} {p : PR α} {f : α → Nat → PR β} (h : Up m p) (hf : ∀ a j, Up j (f a j)) : Up m (p.bind f) := by
  cases p with
  | ok a j =>
    have h2 := hf a j
    simp only [PR.bind]
    simp only [Up] at h
    cases hq : f a j <;> rw [hq] at h2 <;> simp only [Up] at h2 ⊢ <;> omega
  | fail e k => exact h
theorem Up.le {α : Type} {m n : Nat} {p : PR α} (h : Up m p) (hn : n ≤ m) : Up n p := by
  cases p <;> simp only [Up] at h ⊢ <;> omega
def Bd {α : Type} (i L : Nat) : PR α → Prop
  | .ok _ j => i ≤ j ∧ j ≤ L
  | .fail e k => i ≤ k ∧ (e ≠ 91 ∧ k < L ∨ e = 91 ∧ k = L)
theorem Bd.le {α : Type} {m n L : Nat} {p : PR α} (h : Bd m L p) (hn : n ≤ m) : Bd n L p := by
  cases p <;> simp only [Bd] at h ⊢ <;> omega
/-- 'p' is what a parser yields over a beginning of 'm' tokens, 'q' over the whole. -/
def Eb {α : Type} (m i : Nat) (p q : PR α) : Prop := Bd i m p ∧ match p with
  | .ok a j => (j < m → q = .ok a j) ∧ (j = m → Up m q)
  | .fail e k => (e ≠ 91 → q = .fail e k) ∧ (e = 91 → Up m q)
theorem Eb.le {α : Type} {m i j : Nat} {p q : PR α} (h : Eb m i p q) (hj : j ≤ i) : Eb m j p q := ⟨h.1.le hj, h.2⟩
theorem Eb.of_end {α : Type} {m : Nat} {p q : PR α} (h : Bd m m p) (hq : Up m q) : Eb m m p q := by
  refine ⟨h, ?_⟩
  cases p with
  | ok a j => simp only [Bd] at h; exact ⟨fun _ => by omega, fun _ => hq⟩
  | fail e k => simp only [Bd] at h; exact ⟨fun _ => by omega, fun _ => hq⟩
theorem Eb.bind {α β : Type} {m i : Nat} {p q : PR α} {f g : α → Nat → PR β} (h : Eb m i p q) (hfg : ∀ a j, p = .ok a j → i ≤ j → j ≤ m → Eb m j (f a j) (g a j)) (hg : ∀ b j, Up j (g b j)) : Eb m i (p.bind f) (q.bind g) := by
  obtain ⟨hb, h⟩ := h
  cases p with
  | fail e k =>
    refine ⟨hb, ?_⟩
    simp only [PR.bind]
    refine ⟨fun he => by rw [h.1 he], fun he => Up.bind (h.2 he) hg⟩
  | ok a j =>
    simp only [Bd] at hb
    simp only at h
    have h2 := hfg a j rfl hb.1 hb.2
    have hbd : Bd i m (f a j) := h2.1.le hb.1
    by_cases hj : j < m
    · rw [h.1 hj]
      exact ⟨hbd, h2.2⟩
    · have hj : j = m := by omega
      have hq := Up.bind (f := g) (h.2 hj) hg
      refine ⟨hbd, ?_⟩
      simp only [PR.bind]
      subst hj
      have h3 := h2.1
      cases hf : f a j with
      | ok b j' => rw [hf] at h3; simp only [Bd] at h3; exact ⟨fun _ => by omega, fun _ => hq⟩
      | fail e k => rw [hf] at h3; simp only [Bd] at h3; exact ⟨fun _ => by omega, fun _ => hq⟩
theorem Eb.ok {α : Type} {m i : Nat} (a : α) (hi : i ≤ m) : Eb m i (.ok a i) (.ok a i) :=
  ⟨⟨Nat.le_refl _, hi⟩, fun _ => rfl, fun h => by simp [Up, h]⟩
def _root_.Go.Av.Net.PR.sh {α : Type} (d : Nat) : PR α → PR α
  | .ok a i => .ok a (d + i)
  | .fail e i => .fail e (d + i)
theorem _root_.Go.Av.Net.PR.sh_bind {α β : Type} (d : Nat) (p : PR α) {f g : α → Nat → PR β} (h : ∀ a j, p = .ok a j → g a (d + j) = (f a j).sh d) : (p.sh d).bind g = (p.bind f).sh d := by
  cases p with
  | ok a j => exact h a j rfl
  | fail e k => rfl
structure Par {α : Type} (P : List KT → Nat → PR α) : Prop where
  up : ∀ ts i, Up i (P ts i)
  eb : ∀ ts us i, i ≤ ts.length → Eb ts.length i (P ts i) (P (ts ++ us) i)
  sh : ∀ ts us i, i ≤ ts.length → P (us ++ ts) (us.length + i) = (P ts i).sh us.length
theorem Par.bind {α β : Type} {P : List KT → Nat → PR α} {f : α → List KT → Nat → PR β} (h : Par P) (hf : ∀ a, Par (f a)) : Par (fun ts i => (P ts i).bind fun a j => f a ts j) where
  up ts i := (h.up ts i).bind fun a j => (hf a).up ts j
  eb ts us i hi := (h.eb ts us i hi).bind (fun a j _ _ hj => (hf a).eb ts us j hj) fun b j => (hf b).up _ j
  sh ts us i hi := by
    rw [h.sh ts us i hi]
    refine PR.sh_bind _ _ fun a j q => (hf a).sh ts us j ?_
    have hb := (h.eb ts [] i hi).1
    rw [q] at hb
    exact hb.2
theorem Par.ok {α : Type} (a : α) : Par (fun ts i => .ok a i) where
  up ts i := by simp [Up]
  eb ts us i hi := Eb.ok a hi
  sh ts us i _ := rfl
theorem get_app {ts us : List KT} {i : Nat} (hi : i < ts.length) : (ts ++ us)[i]? = ts[i]? := List.getElem?_append_left hi
theorem get_sh (ts us : List KT) (i : Nat) : (us ++ ts)[us.length + i]? = ts[i]? := by rw [List.getElem?_append_right (by omega)]; congr 1; omega
/-- An item: what the token at a place decides. -/
theorem Par.item {α : Type} {P : List KT → Nat → PR α} (g : KT → Except Int α) (hP : ∀ ts i, P ts i = match ts[i]? with | none => .fail 91 i | some t => match g t with | .ok a => .ok a (i + 1) | .error e => .fail e i)
    (hg : ∀ t e, g t = .error e → e ≠ 91) : Par P where
  up ts i := by
    rw [hP]
    cases ts[i]? with
    | none => simp [Up]
    | some t => simp only; cases g t <;> simp [Up]
  eb ts us i hi := by
    rw [hP, hP]
    by_cases c : i < ts.length
    · rw [get_app c, List.getElem?_eq_getElem c]
      simp only
      cases h : g ts[i] with
      | ok a => exact ⟨⟨by omega, by omega⟩, fun _ => rfl, fun h => by simp only [Up]; omega⟩
      | error e => exact ⟨⟨by omega, .inl ⟨hg _ _ h, c⟩⟩, fun _ => rfl, fun q => absurd q (hg _ _ h)⟩
    · have hi : i = ts.length := by omega
      rw [List.getElem?_eq_none (by omega)]
      subst hi
      refine Eb.of_end ⟨by omega, .inr ⟨rfl, rfl⟩⟩ ?_
      cases (ts ++ us)[ts.length]? with
      | none => simp [Up]
      | some t => simp only; cases g t <;> simp [Up]
  sh ts us i _ := by
    rw [hP, hP, get_sh]
    cases ts[i]? with
    | none => rfl
    | some t => simp only; cases g t <;> rfl
theorem sees_app {ts us : List KT} {k : Int} {x : Bs} {i : Nat} (hi : i < ts.length) : seesP (ts ++ us) k x i = seesP ts k x i := by
  unfold seesP; rw [get_app hi]
theorem sees_sh (ts us : List KT) (k : Int) (x : Bs) (i : Nat) : seesP (us ++ ts) k x (us.length + i) = seesP ts k x i := by
  unfold seesP; rw [get_sh]
theorem sees_end {ts : List KT} {k : Int} {x : Bs} {i : Nat} (hi : ts.length ≤ i) : seesP ts k x i = false := by
  unfold seesP; rw [List.getElem?_eq_none hi]
theorem sees_lt {ts : List KT} {k : Int} {x : Bs} {i : Nat} (h : seesP ts k x i = true) : i < ts.length := by
  by_cases c : i < ts.length
  · exact c
  · rw [sees_end (by omega)] at h; cases h
/-- A test of the next token. -/
theorem Par.cond {α : Type} {k : Int} {x : Bs} {A B : List KT → Nat → PR α} (hA : Par A) (hB : Par B) : Par (fun ts i => bif seesP ts k x i then A ts i else B ts i) where
  up ts i := by
    cases seesP ts k x i with
    | true => exact hA.up ts i
    | false => exact hB.up ts i
  eb ts us i hi := by
    by_cases c : i < ts.length
    · rw [sees_app c]
      cases seesP ts k x i with
      | true => exact hA.eb ts us i hi
      | false => exact hB.eb ts us i hi
    · have hi : i = ts.length := by omega
      subst hi
      rw [sees_end (ts := ts) (by omega)]
      refine Eb.of_end (hB.eb ts us _ (by omega)).1 ?_
      cases seesP (ts ++ us) k x ts.length with
      | true => exact hA.up _ _
      | false => exact hB.up _ _
  sh ts us i hi := by
    rw [sees_sh]
    cases seesP ts k x i with
    | true => exact hA.sh ts us i hi
    | false => exact hB.sh ts us i hi
theorem par_expect (k : Int) (x : Bs) : Par (fun ts i => expectP ts k x i) := by
  refine Par.item (fun t => bif decide (t.1 = k) && decide (t.2 = x) then .ok () else .error 90) (fun ts i => ?_) (fun t e h => ?_)
  · simp only [expectP, seesP, wrongP]; cases ts[i]? with
    | none => rfl
    | some t => simp only; cases (decide (t.1 = k) && decide (t.2 = x)) <;> rfl
  · cases q : (decide (t.1 = k) && decide (t.2 = x)) <;> simp [q] at h; omega
theorem par_name : Par nameP := by
  refine Par.item (fun t => bif decide (t.1 = 1) && isNameB t.2 then .ok t.2 else .error 90) (fun ts i => ?_) (fun t e h => ?_)
  · simp only [nameP]; cases ts[i]? with
    | none => rfl
    | some t => simp only; cases (decide (t.1 = 1) && isNameB t.2) <;> rfl
  · cases q : (decide (t.1 = 1) && isNameB t.2) <;> simp [q] at h; omega
theorem par_number : Par numberP := by
  refine Par.item (fun t => bif decide (t.1 = 2) then .ok (decV t.2) else .error 90) (fun ts i => ?_) (fun t e h => ?_)
  · simp only [numberP]; cases ts[i]? with
    | none => rfl
    | some t => simp only; cases decide (t.1 = 2) <;> rfl
  · cases q : decide (t.1 = 2) <;> simp [q] at h; omega
theorem par_week : Par weekP := by
  refine Par.item (fun t => bif decide (t.1 = 2) && isWeekB t.2 then .ok (t.2.map fun b => decide (b.toNat = 49)) else .error 90) (fun ts i => ?_) (fun t e h => ?_)
  · simp only [weekP]; cases ts[i]? with
    | none => rfl
    | some t => simp only; cases (decide (t.1 = 2) && isWeekB t.2) <;> rfl
  · cases q : (decide (t.1 = 2) && isWeekB t.2) <;> simp [q] at h; omega
theorem par_code : Par codeP := by
  refine Par.item (fun t => bif (decide (t.1 = 1) || decide (t.1 = 2)) && isCodeB t.2 then .ok t.2 else .error 90) (fun ts i => ?_) (fun t e h => ?_)
  · simp only [codeP]; cases ts[i]? with
    | none => rfl
    | some t => simp only; cases ((decide (t.1 = 1) || decide (t.1 = 2)) && isCodeB t.2) <;> rfl
  · cases q : ((decide (t.1 = 1) || decide (t.1 = 2)) && isCodeB t.2) <;> simp [q] at h; omega
theorem par_ref (names : List Bs) : Par (fun ts i => refP ts names i) := by
  refine Par.item (fun t => bif decide (t.1 = 1) && isNameB t.2 then (match idxOf t.2 names with | some k => .ok k | none => .error 110) else .error 90) (fun ts i => ?_) (fun t e h => ?_)
  · simp only [refP, nameP]
    cases ts[i]? with
    | none => rfl
    | some t =>
      simp only
      cases (decide (t.1 = 1) && isNameB t.2) with
      | false => rfl
      | true => simp only [cond_true, PR.bind]; cases idxOf t.2 names <;> rfl
  · cases q : (decide (t.1 = 1) && isNameB t.2) <;> simp [q] at h
    · omega
    · cases q2 : idxOf t.2 names <;> simp [q2] at h; omega
theorem par_int : Par intP := by
  have h : Par (fun ts i => bif seesP ts 3 s_minus i then (expectP ts 3 s_minus i).bind fun _ i => (numberP ts i).bind fun n i => .ok (-n) i else numberP ts i) :=
    Par.cond ((par_expect 3 s_minus).bind fun _ => par_number.bind fun n => Par.ok _) par_number
  have e : intP = (fun ts i => bif seesP ts 3 s_minus i then (expectP ts 3 s_minus i).bind fun _ i => (numberP ts i).bind fun n i => .ok (-n) i else numberP ts i) := by
    funext ts i
    unfold intP expectP
    cases seesP ts 3 s_minus i <;> rfl
  rw [e]; exact h
theorem par_field (w : Bs) : Par (fun ts i => fieldP ts w i) :=
  (par_expect 1 w).bind fun _ => par_number.bind fun n => (par_expect 3 s_semi).bind fun _ => Par.ok n
/-! ### Loops -/
/-- While a token is seen (or, until it is). -/
def lpP {σ : Type} (b : Bool) (k : Int) (x : Bs) (B : σ → List KT → Nat → PR σ) (ts : List KT) : Nat → σ → Nat → PR σ
  | 0, s, i => .ok s i
  | f + 1, s, i => bif (seesP ts k x i == b) then (B s ts i).bind fun s i => lpP b k x B ts f s i else .ok s i
section
variable {σ : Type} {b : Bool} {k : Int} {x : Bs} {B : σ → List KT → Nat → PR σ} (hB : ∀ s, Par (B s)) (hS : ∀ s ts i s' j, B s ts i = .ok s' j → i < j)
def ex (b : Bool) : Nat := bif b then 0 else 1
include hB in
theorem lp_up (ts : List KT) : ∀ (f : Nat) (s : σ) (i : Nat), Up i (lpP b k x B ts f s i)
  | 0, s, i => by simp [lpP, Up]
  | f + 1, s, i => by
    unfold lpP
    cases (seesP ts k x i == b) with
    | true => exact ((hB s).up ts i).bind fun s j => lp_up ts f s j
    | false => simp [Up]
include hB hS in
theorem lp_fuel (ts : List KT) : ∀ (f g : Nat) (s : σ) (i : Nat), i ≤ ts.length → ts.length - i + ex b ≤ f → ts.length - i + ex b ≤ g → lpP b k x B ts f s i = lpP b k x B ts g s i
  | 0, 0, s, i, _, _, _ => rfl
  | 0, g + 1, s, i, hi, h, _ => by
    cases b with
    | false => simp [ex] at h
    | true => simp [ex] at h; simp only [lpP]; rw [sees_end (by omega)]; rfl
  | f + 1, 0, s, i, hi, _, h => by
    cases b with
    | false => simp [ex] at h
    | true => simp [ex] at h; simp only [lpP]; rw [sees_end (by omega)]; rfl
  | f + 1, g + 1, s, i, hi, h1, h2 => by
    unfold lpP
    cases c : (seesP ts k x i == b) with
    | false => rfl
    | true =>
      simp only [cond_true]
      cases q : B s ts i with
      | fail e m => rfl
      | ok s' j =>
        have := hS s ts i s' j q
        have hb := ((hB s).eb ts [] i hi).1
        rw [q] at hb
        simp only [Bd] at hb
        simp only [PR.bind]
        exact lp_fuel ts f g s' j hb.2 (by omega) (by omega)
include hB hS in
theorem lp_eb (ts us : List KT) : ∀ (f g : Nat) (s : σ) (i : Nat), i ≤ ts.length → ts.length - i + ex b ≤ f → (ts ++ us).length - i + ex b ≤ g → Eb ts.length i (lpP b k x B ts f s i) (lpP b k x B (ts ++ us) g s i) := by
  intro f
  induction f with
  | zero =>
    intro g s i hi h1 h2
    have : i = ts.length := by omega
    subst this
    exact Eb.of_end ⟨Nat.le_refl _, Nat.le_refl _⟩ (lp_up hB _ _ _ _)
  | succ f ih =>
    intro g s i hi h1 h2
    by_cases c : i < ts.length
    · cases g with
      | zero => simp at h2; omega
      | succ g =>
        unfold lpP
        rw [sees_app c]
        cases (seesP ts k x i == b) with
        | false => exact Eb.ok s hi
        | true =>
          exact ((hB s).eb ts us i hi).bind (fun a j hq hj hm => ih g a j hm (by have := hS _ _ _ _ _ hq; omega) (by have := hS _ _ _ _ _ hq; simp only [List.length_append] at *; omega)) fun a j => lp_up hB _ _ _ _
    · have : i = ts.length := by omega
      subst this
      refine Eb.of_end ?_ (lp_up hB _ _ _ _)
      unfold lpP
      rw [sees_end (by omega)]
      cases b with
      | true => exact ⟨Nat.le_refl _, Nat.le_refl _⟩
      | false =>
        simp only [beq_self_eq_true, cond_true]
        have h3 := ((hB s).eb ts us ts.length (by omega)).1
        cases q : B s ts ts.length with
        | fail e m => rw [q] at h3; exact h3
        | ok s' j => rw [q] at h3; simp only [Bd] at h3; have := hS _ _ _ _ _ q; omega
include hB in
theorem lp_sh (ts us : List KT) : ∀ (f : Nat) (s : σ) (i : Nat), i ≤ ts.length → lpP b k x B (us ++ ts) f s (us.length + i) = (lpP b k x B ts f s i).sh us.length
  | 0, s, i, _ => rfl
  | f + 1, s, i, hi => by
    unfold lpP
    rw [sees_sh]
    cases (seesP ts k x i == b) with
    | false => rfl
    | true =>
      simp only [cond_true]
      rw [(hB s).sh ts us i hi]
      refine PR.sh_bind _ _ fun a j q => lp_sh ts us f a j ?_
      have hb := ((hB s).eb ts [] i hi).1
      rw [q] at hb
      exact hb.2
include hB hS in
theorem par_lp (s : σ) (F : Nat → Nat) (hF : ∀ n, n + ex b ≤ F n) : Par (fun ts i => lpP b k x B ts (F ts.length) s i) where
  up ts i := lp_up hB ts _ _ _
  eb ts us i hi := lp_eb hB hS ts us _ _ s i hi (by have := hF ts.length; omega) (by have := hF (ts ++ us).length; omega)
  sh ts us i hi := by
    rw [lp_fuel hB hS (us ++ ts) _ (F (us ++ ts).length + F ts.length) s _ (by simp; omega) (by have := hF (us ++ ts).length; simp only [List.length_append] at *; omega) (by have := hF (us ++ ts).length; simp only [List.length_append] at *; omega),
      lp_fuel hB hS ts (F ts.length) (F (us ++ ts).length + F ts.length) s i hi (by have := hF ts.length; omega) (by have := hF ts.length; omega)]
    exact lp_sh hB ts us _ s i hi
end
end Go.Proofs.YtmhlneeboefkgaaDoor.Pl
