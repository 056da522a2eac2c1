/-
  Texts divided at blanks; decimal numbers.
-/
import Derived.Test.YtiojkoaefabjbaaGreatDoorP3
import Derived.Lib.AtoiAll
import Derived.Lib.IndexLaws
import Derived.Lib.Bytealg
set_option linter.unusedVariables false
set_option linter.unusedSimpArgs false
namespace Go.Proofs.YtiojkoaefabjbaaGreatDoor
open Go.Av Pl
def splitB : Bs → List Bs
  | [] => [[]]
  | x :: r => if x = 32 then [] :: splitB r else match splitB r with
    | [] => [[x]]
    | y :: ys => (x :: y) :: ys
theorem splitB_cons (x : UInt8) (r : Bs) : splitB (x :: r) = if x = 32 then [] :: splitB r else match splitB r with
    | [] => [[x]]
    | y :: ys => (x :: y) :: ys := rfl
theorem splitB_pos : ∀ s : Bs, 1 ≤ (splitB s).length
  | [] => by simp [splitB]
  | x :: r => by
    unfold splitB
    split
    · simp
    · split <;> simp
theorem splitB_none : ∀ {s : Bs}, (32 : UInt8) ∉ s → splitB s = [s]
  | [], _ => rfl
  | x :: r, h => by
    simp only [List.mem_cons, not_or] at h
    unfold splitB
    rw [if_neg (Ne.symm h.1), splitB_none h.2]
theorem splitB_app : ∀ {a : Bs} (r : Bs), (32 : UInt8) ∉ a → splitB (a ++ 32 :: r) = a :: splitB r
  | [], r, _ => by simp [splitB]
  | x :: a, r, h => by
    simp only [List.mem_cons, not_or] at h
    rw [List.cons_append, splitB_cons, if_neg (Ne.symm h.1), splitB_app r h.2]
theorem splitB_len : ∀ s : Bs, (splitB s).length = s.count 32 + 1
  | [] => rfl
  | x :: r => by
    have ih := splitB_len r
    unfold splitB
    by_cases hx : x = 32
    · rw [if_pos hx, hx]; simp [ih]
    · rw [if_neg hx]
      have hb : (x == 32) = false := by simpa using hx
      rw [List.count_cons, hb]
      cases hs : splitB r with
      | nil => rw [hs] at ih; simp at ih
      | cons y ys => rw [hs] at ih; simpa using ih
theorem splitB_mem : ∀ (s : Bs), ∀ w ∈ splitB s, w.length ≤ s.length
  | [], w, h => by simp [splitB] at h; simp [h]
  | x :: r, w, h => by
    have ih := splitB_mem r
    rw [splitB_cons] at h
    split at h
    · rcases List.mem_cons.1 h with rfl | h
      · simp
      · have := ih w h; simp; omega
    · split at h
      · rw [List.mem_singleton] at h; subst h; simp
      · rename_i y ys hs
        rw [hs] at ih
        rcases List.mem_cons.1 h with rfl | h
        · have := ih y (by simp); simp; omega
        · have := ih w (by simp [h]); simp; omega
/-- A blank is next at m. -/
theorem splitB_at {s : Bs} {m : Nat} (h : s[m]? = some 32) (hb : ∀ k, k < m → s[k]? ≠ some 32) : splitB s = s.take m :: splitB (s.drop (m + 1)) := by
  have hm : m < s.length := (List.getElem?_eq_some_iff.1 h).1
  have e : s = s.take m ++ 32 :: s.drop (m + 1) := by
    have h2 : s.drop m = s[m] :: s.drop (m + 1) := List.drop_eq_getElem_cons hm
    have h3 : s[m] = 32 := by have := List.getElem?_eq_getElem hm; rw [h] at this; exact (Option.some.inj this).symm
    rw [← h3, ← h2, List.take_append_drop]
  have hn : (32 : UInt8) ∉ s.take m := by
    intro hc
    obtain ⟨i, hi, he⟩ := List.getElem_of_mem hc
    simp only [List.length_take] at hi
    refine hb i (by omega) ?_
    rw [List.getElem_take] at he
    rw [List.getElem?_eq_getElem (by omega), he]
  have := splitB_app (s.drop (m + 1)) hn
  rw [← e] at this
  exact this
theorem splitB_free {s : Bs} (h : ∀ k : Nat, s[k]? ≠ some 32) : splitB s = [s] := by
  refine splitB_none fun hc => ?_
  obtain ⟨i, hi, he⟩ := List.getElem_of_mem hc
  exact h i (by rw [List.getElem?_eq_getElem hi, he])
theorem splitB_join : ∀ (ws : List Bs), ws ≠ [] → (∀ w ∈ ws, (32 : UInt8) ∉ w) → splitB (Lib.join ws [32]) = ws
  | [], h, _ => absurd rfl h
  | [w], _, h => by simpa [Lib.join, Lib.joinTail] using splitB_none (h w (by simp))
  | w :: v :: ws, _, h => by
    have ih := splitB_join (v :: ws) (by simp) fun x hx => h x (List.mem_cons_of_mem _ hx)
    have e : Lib.join (w :: v :: ws) [32] = w ++ 32 :: Lib.join (v :: ws) [32] := by simp [Lib.join, Lib.joinTail]
    rw [e, splitB_app _ (h w (by simp)), ih]

/-! ### Numbers -/
theorem dec_byte (d : Nat) (h : d < 10) : (UInt8.ofNat (48 + d)).toNat = 48 + d := by
  simp [UInt8.toNat_ofNat']; omega
theorem dec_bytes : ∀ (u : Nat), ∀ c ∈ Lib.decDigits u, 48 ≤ c.toNat ∧ c.toNat ≤ 57 := by
  intro u
  induction u using Nat.strongRecOn with
  | _ u ih =>
    intro c hc
    rw [Lib.decDigits] at hc
    split at hc
    · rename_i h
      rw [List.mem_singleton] at hc; subst hc
      rw [dec_byte u h]; omega
    · rename_i h
      rcases List.mem_append.1 hc with hc | hc
      · exact ih (u / 10) (by omega) c hc
      · simp only [List.mem_singleton] at hc; subst hc
        rw [dec_byte _ (Nat.mod_lt _ (by omega))]; omega
theorem dec_parse : ∀ (u : Nat), u < 1000000000000 → ∀ r, Lib.parseUint10 0 (Lib.decDigits u ++ r) = Lib.parseUint10 u r := by
  intro u
  induction u using Nat.strongRecOn with
  | _ u ih =>
    intro hu r
    rw [Lib.decDigits]
    split
    · rename_i h
      rw [List.singleton_append, Lib.parseUint10, dec_byte u h, if_pos (by omega), if_neg (by omega), if_neg (by omega)]
      simp
    · rename_i h
      rw [List.append_assoc, ih (u / 10) (by omega) (by omega), List.singleton_append, Lib.parseUint10, dec_byte _ (Nat.mod_lt _ (by omega)), if_pos (by omega), if_neg (by omega), if_neg (by omega)]
      congr 1
      omega
theorem dec_ne (u : Nat) : Lib.decDigits u ≠ [] := by
  rw [Lib.decDigits]; split <;> simp
theorem atoi_itoa {n : Int} (h0 : 0 ≤ n) (h1 : n ≤ 1000000) : Lib.atoiAll (Lib.itoa n) = .ok n := by
  obtain ⟨u, rfl⟩ : ∃ u : Nat, n = u := ⟨n.toNat, by omega⟩
  have e : Lib.itoa (u : Int) = Lib.decDigits u := by unfold Lib.itoa; rw [if_neg (by omega)]; simp
  rw [e]
  have hb := dec_bytes u
  have hp := dec_parse u (by omega) []
  have hn := dec_ne u
  rw [List.append_nil] at hp
  cases hd : Lib.decDigits u with
  | nil => exact absurd hd hn
  | cons c r =>
    rw [hd] at hb hp
    have hc := hb c (by simp)
    unfold Lib.atoiAll
    simp only
    rw [if_neg (by omega)]
    unfold Lib.parseMag
    rw [if_neg (by simp), hp]
    simp only [Lib.parseUint10]
    rw [if_neg (by omega), if_neg (by omega), if_neg (by omega)]
theorem itoa_free {n : Int} (h0 : 0 ≤ n) : (32 : UInt8) ∉ Lib.itoa n := by
  obtain ⟨u, rfl⟩ : ∃ u : Nat, n = u := ⟨n.toNat, by omega⟩
  have e : Lib.itoa (u : Int) = Lib.decDigits u := by unfold Lib.itoa; rw [if_neg (by omega)]; simp
  rw [e]
  intro hc
  have := dec_bytes u _ hc
  have h32 : (32 : UInt8).toNat = 32 := rfl
  omega
theorem label_free {s : Bs} (h : labelB s = true) : (32 : UInt8) ∉ s := by
  intro hc
  unfold labelB at h
  simp only [Bool.and_eq_true, List.all_eq_true] at h
  have := h.2 _ hc
  exact absurd this (by decide)
/-- The words of a complete record hold no blanks. -/
theorem words_free {r : Rc} (h : Facts r) : ∀ w ∈ wordsR r, (32 : UInt8) ∉ w := by
  intro w hw
  unfold wordsR at hw
  rcases List.mem_append.1 hw with hw | hw
  · simp only [List.mem_cons, List.not_mem_nil, or_false] at hw
    rcases hw with rfl | rfl | rfl | rfl | rfl
    · unfold kindB; split <;> decide
    · exact itoa_free h.sc0
    · exact itoa_free h.nu0
    · exact itoa_free h.ti0
    · exact label_free h.la
  · exact label_free (h.cos.2 w hw)
theorem split_text {r : Rc} (h : completeB r = true) : splitB (textR r) = wordsR r := by
  unfold textR
  rw [if_pos h]
  exact splitB_join _ (by simp [wordsR]) (words_free (complete_facts h))
theorem cand_eq {r : Rc} (h : completeB r = true) {ws : List Bs} (hw : ws = wordsR r) {a b c ki : Int} (h5 : 5 ≤ ws.length) (ha : Lib.atoiAll ws[1] = .ok a) (hb : Lib.atoiAll ws[2] = .ok b) (hc : Lib.atoiAll ws[3] = .ok c)
    (hk : (ws[0] = [109, 97, 110, 105, 102, 101, 115, 116] ∧ ki = 2) ∨ (ws[0] ≠ [109, 97, 110, 105, 102, 101, 115, 116] ∧ ki = 1)) : r = ⟨a, b, ki, c, ws[4], ws.drop 5⟩ := by
  subst hw
  have hf := complete_facts h
  have e1 : Lib.atoiAll (wordsR r)[1] = .ok r.sc := atoi_itoa hf.sc0 hf.sc1
  have e2 : Lib.atoiAll (wordsR r)[2] = .ok r.nu := atoi_itoa hf.nu0 hf.nu1
  have e3 : Lib.atoiAll (wordsR r)[3] = .ok r.ti := atoi_itoa hf.ti0 hf.ti1
  rw [e1] at ha; rw [e2] at hb; rw [e3] at hc
  injection ha with ha; injection hb with hb; injection hc with hc
  have e4 : (wordsR r)[4] = r.la := rfl
  have e5 : (wordsR r).drop 5 = r.co := rfl
  have e0 : (wordsR r)[0] = kindB r.ki := rfl
  rw [e4, e5]
  rw [e0] at hk
  have hki : r.ki = ki := by
    rcases hf.ki with ⟨k, _⟩ | ⟨k, _⟩
    · rw [k] at hk ⊢
      rcases hk with ⟨m, _⟩ | ⟨_, m⟩
      · exact absurd m (by decide)
      · exact m.symm
    · rw [k] at hk ⊢
      rcases hk with ⟨_, m⟩ | ⟨m, _⟩
      · exact m.symm
      · exact absurd rfl m
  subst ha hb hc hki
  rfl
end Go.Proofs.YtiojkoaefabjbaaGreatDoor
