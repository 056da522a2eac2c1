/-
  The search in plain words: fields of remaining parts do not matter.
-/
import Derived.Test.YtbodeejogdckgaaGreatDoorP3
set_option linter.unusedVariables false
set_option linter.unusedSimpArgs false
namespace Go.Proofs.YtbodeejogdckgaaGreatDoor
open Go.Av Pl
/-- What a part's fields are behind its reading, whether it is good or not. -/
def putP (p : Pt) (l : List Bs) (a : Ad) : Ad :=
  if p.k = 1 then a
  else if p.k = 2 then ⟨a.pe, a.st, if numOK (l.headD []) then valB (l.headD []) else 0, a.co, a.to⟩
  else if p.k = 3 then ⟨a.pe, a.st, a.nu, upB (l.headD []), a.to⟩
  else if p.k = 4 then ⟨a.pe, Lib.join l [32], a.nu, a.co, a.to⟩
  else if p.k = 5 then ⟨a.pe, a.st, a.nu, a.co, Lib.join l [32]⟩
  else ⟨Lib.join l [32], a.st, a.nu, a.co, a.to⟩
def okS (p : Pt) (l : List Bs) : Bool :=
  if p.k = 1 then decide (lowB (l.headD []) = lowB p.t)
  else if p.k = 2 then numOK (l.headD [])
  else if p.k = 3 then matchB (l.headD []) p.t
  else true
theorem setP_eq (p : Pt) (l : List Bs) (a : Ad) : setP p l a = if okS p l = true then some (putP p l a) else none := by
  unfold setP okS putP
  by_cases h1 : p.k = 1
  · simp [h1]
  · by_cases h2 : p.k = 2
    · simp only [h2]; cases numOK (l.headD []) <;> simp
    · by_cases h3 : p.k = 3
      · simp [h3]
      · simp only [h1, h2, h3, if_false, if_true]
        repeat' split
        all_goals rfl
/-- Two addresses agree but for the fields of these parts. -/
def hasK (P : List Pt) (k : Int) : Prop := ∃ p ∈ P, p.k = k
structure Agr (P : List Pt) (a b : Ad) : Prop where
  nu : ¬ hasK P 2 → a.nu = b.nu
  co : ¬ hasK P 3 → a.co = b.co
  st : ¬ hasK P 4 → a.st = b.st
  to : ¬ hasK P 5 → a.to = b.to
  pe : ¬ hasK P 6 → a.pe = b.pe
theorem Agr.refl (P : List Pt) (a : Ad) : Agr P a a := ⟨fun _ => rfl, fun _ => rfl, fun _ => rfl, fun _ => rfl, fun _ => rfl⟩
theorem Agr.trans {P : List Pt} {a b c : Ad} (h : Agr P a b) (k : Agr P b c) : Agr P a c :=
  ⟨fun x => (h.nu x).trans (k.nu x), fun x => (h.co x).trans (k.co x), fun x => (h.st x).trans (k.st x), fun x => (h.to x).trans (k.to x), fun x => (h.pe x).trans (k.pe x)⟩
theorem Agr.symm {P : List Pt} {a b : Ad} (h : Agr P a b) : Agr P b a :=
  ⟨fun x => (h.nu x).symm, fun x => (h.co x).symm, fun x => (h.st x).symm, fun x => (h.to x).symm, fun x => (h.pe x).symm⟩
theorem hasK_mono {P Q : List Pt} (h : ∀ p ∈ P, p ∈ Q) {k : Int} (hk : ¬ hasK Q k) : ¬ hasK P k := fun ⟨p, hp, e⟩ => hk ⟨p, h p hp, e⟩
theorem Agr.mono {P Q : List Pt} {a b : Ad} (h : ∀ p ∈ P, p ∈ Q) (k : Agr P a b) : Agr Q a b :=
  ⟨fun x => k.nu (hasK_mono h x), fun x => k.co (hasK_mono h x), fun x => k.st (hasK_mono h x), fun x => k.to (hasK_mono h x), fun x => k.pe (hasK_mono h x)⟩
theorem Agr.nil {a b : Ad} (h : Agr [] a b) : a = b := by
  have n : ∀ k, ¬ hasK [] k := fun k ⟨p, hp, _⟩ => by cases hp
  obtain ⟨a1, a2, a3, a4, a5⟩ := a
  obtain ⟨b1, b2, b3, b4, b5⟩ := b
  have h1 := h.nu (n _); have h2 := h.co (n _); have h3 := h.st (n _); have h4 := h.to (n _); have h5 := h.pe (n _)
  simp only at h1 h2 h3 h4 h5
  subst h1 h2 h3 h4 h5
  rfl
theorem hasK_cons {p : Pt} {P : List Pt} {k : Int} (h1 : p.k ≠ k) (h : ¬ hasK P k) : ¬ hasK (p :: P) k := fun ⟨q, hq, e⟩ => by
  rcases List.mem_cons.1 hq with rfl | hq
  · exact h1 e
  · exact h ⟨q, hq, e⟩
theorem put_kind {p : Pt} {l : List Bs} {a : Ad} (h : p.k = 1 ∨ p.k = 2 ∨ p.k = 3 ∨ p.k = 4 ∨ p.k = 5 ∨ p.k = 6) : Agr [p] a (putP p l a) := by
  have n : ∀ k, p.k = k → ¬ ¬ hasK [p] k := fun k e h => h ⟨p, by simp, e⟩
  unfold putP
  rcases h with h | h | h | h | h | h <;> simp only [h] <;> constructor <;> intro x <;> first | rfl | exact absurd x (n _ h)
theorem put_agr {p : Pt} {l : List Bs} {P : List Pt} {a b : Ad} (hp : p.k = 1 ∨ p.k = 2 ∨ p.k = 3 ∨ p.k = 4 ∨ p.k = 5 ∨ p.k = 6) (h : Agr (p :: P) a b) : Agr P (putP p l a) (putP p l b) := by
  unfold putP
  rcases hp with hk | hk | hk | hk | hk | hk <;> simp only [hk] <;> constructor <;> intro x <;> first
    | rfl
    | exact h.nu (hasK_cons (by omega) x)
    | exact h.co (hasK_cons (by omega) x)
    | exact h.st (hasK_cons (by omega) x)
    | exact h.to (hasK_cons (by omega) x)
    | exact h.pe (hasK_cons (by omega) x)
def goodK (P : List Pt) : Prop := ∀ p ∈ P, p.k = 1 ∨ p.k = 2 ∨ p.k = 3 ∨ p.k = 4 ∨ p.k = 5 ∨ p.k = 6
/-- The readings of a part from words, n+1 of them. -/
def stepL (p : Pt) (ps : List Pt) (ws : List Bs) (a : Ad) (i : Nat) : List Ad :=
  if okS p (ws.take (i + 1)) = true then readL ps (ws.drop (i + 1)) (putP p (ws.take (i + 1)) a) else []
theorem readL_cons (p : Pt) (ps : List Pt) (ws : List Bs) (a : Ad) : readL (p :: ps) ws a = (List.range (min (mostP p) ws.length)).flatMap (stepL p ps ws a) := by
  rw [readL]
  congr 1
  funext i
  unfold stepL
  rw [setP_eq]
  by_cases h : okS p (ws.take (i + 1)) = true
  · rw [if_pos h, if_pos h]
  · rw [if_neg h, if_neg h]
def A2 (R : Ad → Ad → Prop) : List Ad → List Ad → Prop
  | [], [] => True
  | x :: l, y :: m => R x y ∧ A2 R l m
  | _, _ => False
theorem all2_append {R : Ad → Ad → Prop} : ∀ {l m l' m' : List Ad}, A2 R l m → A2 R l' m' → A2 R (l ++ l') (m ++ m')
  | [], [], _, _, _, h => h
  | _ :: _, _ :: _, _, _, h, k => ⟨h.1, all2_append h.2 k⟩
  | [], _ :: _, _, _, h, _ => h.elim
  | _ :: _, [], _, _, h, _ => h.elim
theorem all2_flatMap {R : Ad → Ad → Prop} : ∀ (l : List Nat) (f g : Nat → List Ad), (∀ i ∈ l, A2 R (f i) (g i)) → A2 R (l.flatMap f) (l.flatMap g)
  | [], _, _, _ => trivial
  | i :: l, f, g, h => by
    rw [List.flatMap_cons, List.flatMap_cons]
    have h1 := h i (by simp)
    have h2 := all2_flatMap l f g fun j hj => h j (by simp [hj])
    exact all2_append h1 h2
theorem readL_agr (R : List Pt) : ∀ (ps : List Pt) (ws : List Bs) (a b : Ad), goodK ps → Agr (ps ++ R) a b → A2 (Agr R) (readL ps ws a) (readL ps ws b)
  | [], [], a, b, _, h => ⟨by simpa using h, trivial⟩
  | [], _ :: _, a, b, _, h => trivial
  | p :: ps, ws, a, b, hg, h => by
    rw [readL_cons, readL_cons]
    refine all2_flatMap _ _ _ fun i _ => ?_
    unfold stepL
    split
    · exact readL_agr R ps _ _ _ (fun q hq => hg q (by simp [hq])) (put_agr (hg p (by simp)) h)
    · trivial
theorem flatMap_agr {R : Ad → Ad → Prop} {f : Ad → List Ad} (hf : ∀ a b, R a b → f a = f b) : ∀ {l m : List Ad}, A2 R l m → l.flatMap f = m.flatMap f
  | [], [], _ => rfl
  | _ :: _, _ :: _, h => by rw [List.flatMap_cons, List.flatMap_cons, hf _ _ h.1, flatMap_agr hf h.2]
  | [], _ :: _, h => h.elim
  | _ :: _, [], h => h.elim
theorem readF_agr : ∀ (ls : List (List Pt)) (W : List (List Bs)) (a b : Ad), goodK ls.flatten → Agr ls.flatten a b → readF ls W a = readF ls W b
  | [], [], a, b, _, h => by
    have e : a = b := Agr.nil (by simpa using h)
    rw [e]
  | [], _ :: _, a, b, _, _ => rfl
  | _ :: _, [], a, b, _, _ => rfl
  | l :: ls, w :: W, a, b, hg, h => by
    rw [List.flatten_cons] at h hg
    show (readL l w a).flatMap (readF ls W) = (readL l w b).flatMap (readF ls W)
    exact flatMap_agr (fun x y hxy => readF_agr ls W x y (fun q hq => hg q (by simp [hq])) hxy) (readL_agr ls.flatten l w a b (fun q hq => hg q (by simp [hq])) h)
/-- The readings from a place on: a line, a part of it, a word of it. -/
def fromD (F : List (List Pt)) (W : List (List Bs)) (i j w : Nat) (a : Ad) : List Ad :=
  match F[i]?, W[i]? with
  | some l, some x => (readL (l.drop j) (x.drop w) a).flatMap (readF (F.drop (i + 1)) (W.drop (i + 1)))
  | _, _ => [a]
/-- The parts from a place on. -/
def remP (F : List (List Pt)) (i j : Nat) : List Pt := ((F[i]?.getD []).drop j) ++ (F.drop (i + 1)).flatten
theorem fromD_in {F : List (List Pt)} {W : List (List Bs)} {i j w : Nat} (h : i < F.length) (h2 : i < W.length) (a : Ad) : fromD F W i j w a = (readL (F[i].drop j) (W[i].drop w) a).flatMap (readF (F.drop (i + 1)) (W.drop (i + 1))) := by
  unfold fromD
  rw [List.getElem?_eq_getElem h, List.getElem?_eq_getElem h2]
theorem fromD_out {F : List (List Pt)} {W : List (List Bs)} {i j w : Nat} (h : F.length ≤ i) (a : Ad) : fromD F W i j w a = [a] := by
  unfold fromD
  rw [List.getElem?_eq_none h]
theorem remP_in {F : List (List Pt)} {i j : Nat} (h : i < F.length) : remP F i j = F[i].drop j ++ (F.drop (i + 1)).flatten := by
  unfold remP
  rw [List.getElem?_eq_getElem h]
  rfl
theorem fromD_next {F : List (List Pt)} {W : List (List Bs)} (hl : F.length = W.length) (i : Nat) (h : i ≤ F.length) (a : Ad) : fromD F W i 0 0 a = readF (F.drop i) (W.drop i) a := by
  by_cases h2 : i < F.length
  · rw [fromD_in h2 (by omega), List.drop_zero, List.drop_zero, List.drop_eq_getElem_cons h2, List.drop_eq_getElem_cons (by omega : i < W.length)]
    rfl
  · rw [fromD_out (by omega), List.drop_eq_nil_of_le (by omega), List.drop_eq_nil_of_le (by omega)]
    rfl
theorem remP_next {F : List (List Pt)} (i : Nat) (h : i ≤ F.length) : remP F i 0 = (F.drop i).flatten := by
  by_cases h2 : i < F.length
  · rw [remP_in h2, List.drop_zero, List.drop_eq_getElem_cons h2, List.flatten_cons]
  · unfold remP
    rw [List.getElem?_eq_none (by omega), List.drop_eq_nil_of_le (by omega : F.length ≤ i), List.drop_eq_nil_of_le (by omega : F.length ≤ i + 1)]
    rfl
theorem fromD_agr {F : List (List Pt)} {W : List (List Bs)} (hl : F.length = W.length) {i j w : Nat} {a b : Ad} (hg : goodK F.flatten) (h : Agr (remP F i j) a b) : fromD F W i j w a = fromD F W i j w b := by
  unfold fromD
  unfold remP at h
  cases hF : F[i]? with
  | none =>
    rw [hF] at h
    have : F.length ≤ i := by simpa using hF
    rw [List.drop_eq_nil_of_le (by omega : F.length ≤ i + 1)] at h
    have e : a = b := Agr.nil (by simpa using h)
    rw [e]
  | some l =>
    rw [hF] at h
    cases hW : W[i]? with
    | none => 
      have h1 : W.length ≤ i := by simpa using hW
      have h2 : i < F.length := (List.getElem?_eq_some_iff.1 hF).1
      omega
    | some x =>
      have hm : l ∈ F := List.mem_of_getElem? hF
      exact flatMap_agr (fun x y hxy => readF_agr _ _ x y (fun q hq => hg q (by
        obtain ⟨m, hm2, hq2⟩ := List.mem_flatten.1 hq
        exact List.mem_flatten.2 ⟨m, List.mem_of_mem_drop hm2, hq2⟩)) hxy) (readL_agr _ _ _ a b (fun q hq => hg q (List.mem_flatten.2 ⟨l, hm, List.mem_of_mem_drop hq⟩)) h)
end Go.Proofs.YtbodeejogdckgaaGreatDoor
