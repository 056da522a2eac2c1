/-
  What each part of a format takes; readings and what is printed.
-/
import Derived.Test.YtbodeejogdckgaaGreatDoorP6
set_option linter.unusedVariables false
set_option linter.unusedSimpArgs false
namespace Go.Proofs.YtbodeejogdckgaaGreatDoor
open Go.Av Pl
/-- A part takes these words, and its field is what they say. -/
structure TookP (p : Pt) (l : List Bs) (x : Ad) : Prop where
  ne : l ≠ []
  le : l.length ≤ mostP p
  ok : okS p l = true
  h2 : p.k = 2 → x.nu = valB (l.headD [])
  h3 : p.k = 3 → x.co = upB (l.headD [])
  h4 : p.k = 4 → x.st = Lib.join l [32]
  h5 : p.k = 5 → x.to = Lib.join l [32]
  h6 : p.k = 6 → x.pe = Lib.join l [32]
def Took : List Pt → List Bs → Ad → Prop
  | [], ws, _ => ws = []
  | p :: ps, ws, x => ∃ l r, ws = l ++ r ∧ TookP p l x ∧ Took ps r x
theorem TookP.agr {p : Pt} {l : List Bs} {P : List Pt} {a b : Ad} (h : Agr P a b) (hp : p.k ≠ 1 → ¬ hasK P p.k) (t : TookP p l a) : TookP p l b :=
  ⟨t.ne, t.le, t.ok, fun e => by rw [← h.nu (by rw [← e]; exact hp (by omega)), t.h2 e], fun e => by rw [← h.co (by rw [← e]; exact hp (by omega)), t.h3 e], fun e => by rw [← h.st (by rw [← e]; exact hp (by omega)), t.h4 e], fun e => by rw [← h.to (by rw [← e]; exact hp (by omega)), t.h5 e], fun e => by rw [← h.pe (by rw [← e]; exact hp (by omega)), t.h6 e]⟩
theorem Took.agr {P : List Pt} {a b : Ad} (h : Agr P a b) : ∀ {ps : List Pt} {ws : List Bs}, Apart ps P → Took ps ws a → Took ps ws b
  | [], _, _, t => t
  | p :: ps, ws, hp, ⟨l, r, e, t1, t2⟩ => ⟨l, r, e, t1.agr h (hp p (by simp)), t2.agr h fun q hq => hp q (by simp [hq])⟩
theorem put_took {p : Pt} {l : List Bs} {a : Ad} (h0 : l ≠ []) (h1 : l.length ≤ mostP p) (h2 : okS p l = true) : TookP p l (putP p l a) := by
  refine ⟨h0, h1, h2, fun e => ?_, fun e => ?_, fun e => ?_, fun e => ?_, fun e => ?_⟩
  all_goals unfold putP
  · unfold okS at h2
    simp only [e] at h2 ⊢
    have h2 : numOK (l.headD []) = true := h2
    rw [h2]; rfl
  all_goals simp [e]
theorem readL_took : ∀ (ps : List Pt) (ws : List Bs) (a x : Ad), goodK ps → (kindsR ps).Nodup → x ∈ readL ps ws a → Took ps ws x
  | [], [], a, x, _, _, _ => rfl
  | [], _ :: _, a, x, _, _, h => by
    have h : x ∈ ([] : List Ad) := h
    cases h
  | p :: ps, ws, a, x, hg, hn, h => by
    have hn2 : (kindsR ([p] ++ ps)).Nodup := hn
    have hap := nodup_apart hn2 p (by simp)
    rw [readL_cons] at h
    obtain ⟨i, hi, h⟩ := List.mem_flatMap.1 h
    have hi := List.mem_range.1 hi
    unfold stepL at h
    by_cases ho : okS p (ws.take (i + 1)) = true
    · rw [if_pos ho] at h
      have hg2 : goodK ps := fun q hq => hg q (by simp [hq])
      have h1 := readL_mem_agr ps _ _ x hg2 h
      have h2 := readL_took ps _ _ x hg2 (nodup_right hn2) h
      have hl : (ws.take (i + 1)).length = i + 1 := by rw [List.length_take]; omega
      exact ⟨ws.take (i + 1), ws.drop (i + 1), (List.take_append_drop _ _).symm, (put_took (fun e => by rw [e] at hl; simp at hl) (by omega) ho).agr h1 hap, h2⟩
    · rw [if_neg ho] at h
      cases h
def TookF : List (List Pt) → List (List Bs) → Ad → Prop
  | [], W, _ => W = []
  | l :: ls, W, x => ∃ w V, W = w :: V ∧ Took l w x ∧ TookF ls V x
theorem readF_took : ∀ (ls : List (List Pt)) (W : List (List Bs)) (a x : Ad), goodK ls.flatten → (kindsR ls.flatten).Nodup → x ∈ readF ls W a → TookF ls W x
  | [], [], a, x, _, _, _ => rfl
  | [], _ :: _, a, x, _, _, h => by
    have h : x ∈ ([] : List Ad) := h
    cases h
  | _ :: _, [], a, x, _, _, h => by
    have h : x ∈ ([] : List Ad) := h
    cases h
  | l :: ls, w :: W, a, x, hg, hn, h => by
    have h : x ∈ (readL l w a).flatMap (readF ls W) := h
    rw [List.flatten_cons] at hg hn
    have hg1 : goodK l := fun q hq => hg q (List.mem_append_left _ hq)
    have hg2 : goodK ls.flatten := fun q hq => hg q (List.mem_append_right _ hq)
    obtain ⟨b, hb, h⟩ := List.mem_flatMap.1 h
    have h1 := readL_took l w a b hg1 (nodup_left hn) hb
    have h2 := readF_took ls W b x hg2 (nodup_right hn) h
    exact ⟨w, W, rfl, h1.agr (readF_mem_agr ls W b x hg2 h) (nodup_apart hn), h2⟩
/-- What takes the words is among the readings. -/
theorem put_same {p : Pt} {l : List Bs} {R : List Pt} {a x : Ad} (hg : p.k = 1 ∨ p.k = 2 ∨ p.k = 3 ∨ p.k = 4 ∨ p.k = 5 ∨ p.k = 6) (h : Agr (p :: R) a x) (t : TookP p l x) : Agr R (putP p l a) x := by
  have ho := t.ok
  unfold okS at ho
  unfold putP
  rcases hg with hk | hk | hk | hk | hk | hk <;> simp only [hk] at ho ⊢ <;> constructor <;> intro y <;> first
    | exact h.nu (hasK_cons (by omega) y)
    | exact h.co (hasK_cons (by omega) y)
    | exact h.st (hasK_cons (by omega) y)
    | exact h.to (hasK_cons (by omega) y)
    | exact h.pe (hasK_cons (by omega) y)
    | exact (t.h3 hk).symm
    | exact (t.h4 hk).symm
    | exact (t.h5 hk).symm
    | exact (t.h6 hk).symm
    | (rw [t.h2 hk]; have ho : numOK (l.headD []) = true := ho; rw [ho]; rfl)
theorem took_readL (R : List Pt) : ∀ (ps : List Pt) (ws : List Bs) (a x : Ad), goodK ps → Took ps ws x → Agr (ps ++ R) a x → ∃ b ∈ readL ps ws a, Agr R b x
  | [], ws, a, x, _, h, hA => by
    have h : ws = [] := h
    subst h
    exact ⟨a, by show a ∈ [a]; simp, hA⟩
  | p :: ps, ws, a, x, hg, ⟨l, r, e, t1, t2⟩, hA => by
    have hl := List.length_pos_iff.2 t1.ne
    have hle := t1.le
    obtain ⟨b, hb, hR⟩ := took_readL R ps r (putP p l a) x (fun q hq => hg q (by simp [hq])) t2 (put_same (hg p (by simp)) hA t1)
    refine ⟨b, ?_, hR⟩
    rw [readL_cons]
    refine List.mem_flatMap.2 ⟨l.length - 1, List.mem_range.2 ?_, ?_⟩
    · rw [e, List.length_append]; omega
    · unfold stepL
      have e1 : l.length - 1 + 1 = l.length := by omega
      rw [e1, e, List.take_left, List.drop_left, if_pos t1.ok]
      exact hb
theorem took_readF : ∀ (ls : List (List Pt)) (W : List (List Bs)) (a x : Ad), goodK ls.flatten → TookF ls W x → Agr ls.flatten a x → x ∈ readF ls W a
  | [], W, a, x, _, h, hA => by
    have h : W = [] := h
    subst h
    have e : a = x := Agr.nil (by simpa using hA)
    rw [← e]
    show a ∈ [a]
    simp
  | l :: ls, W, a, x, hg, ⟨w, V, e, t1, t2⟩, hA => by
    subst e
    rw [List.flatten_cons] at hg hA
    obtain ⟨b, hb, hR⟩ := took_readL ls.flatten l w a x (fun q hq => hg q (List.mem_append_left _ hq)) t1 hA
    exact List.mem_flatMap.2 ⟨b, hb, took_readF ls V b x (fun q hq => hg q (List.mem_append_right _ hq)) t2 hR⟩
end Go.Proofs.YtbodeejogdckgaaGreatDoor
