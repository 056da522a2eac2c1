/-
  Texts divided at blanks; decimal numbers; letters; Trim.
-/
import Derived.Test.YtbodeejogdckgaaGreatDoorP2
import Derived.Lib.AtoiAll
import Derived.Lib.Case
import Derived.Lib.SlTrimSet
import Derived.Lib.IndexLaws
import Derived.Lib.Bytealg
set_option linter.unusedVariables false
set_option linter.unusedSimpArgs false
namespace Go.Proofs.YtbodeejogdckgaaGreatDoor
open Go.Av Pl
def splitB : Bs → List Bs
  | [] => [[]]
  | x :: r => if x = 32 then [] :: splitB r else match splitB r with
    | [] => [[x]]
    | y :: ys => (x :: y) :: ys
theorem splitB_cons (x : UInt8) (r : Bs) : splitB (x :: r) = if x = 32 then [] :: splitB r else match splitB r with
    | [] => [[x]]
    | y :: ys => (x :: y) :: ys := rfl
theorem splitB_pos : ∀ s : Bs, 1 ≤ (splitB s).length
  | [] => by simp [splitB]
  | x :: r => by
    unfold splitB
    split
    · simp
    · split <;> simp
theorem splitB_none : ∀ {s : Bs}, (32 : UInt8) ∉ s → splitB s = [s]
  | [], _ => rfl
  | x :: r, h => by
    simp only [List.mem_cons, not_or] at h
    unfold splitB
    rw [if_neg (Ne.symm h.1), splitB_none h.2]
theorem splitB_app : ∀ {a : Bs} (r : Bs), (32 : UInt8) ∉ a → splitB (a ++ 32 :: r) = a :: splitB r
  | [], r, _ => by simp [splitB]
  | x :: a, r, h => by
    simp only [List.mem_cons, not_or] at h
    rw [List.cons_append, splitB_cons, if_neg (Ne.symm h.1), splitB_app r h.2]
theorem splitB_len : ∀ s : Bs, (splitB s).length = s.count 32 + 1
  | [] => rfl
  | x :: r => by
    have ih := splitB_len r
    unfold splitB
    by_cases hx : x = 32
    · rw [if_pos hx, hx]; simp [ih]
    · rw [if_neg hx]
      have hb : (x == 32) = false := by simpa using hx
      rw [List.count_cons, hb]
      cases hs : splitB r with
      | nil => rw [hs] at ih; simp at ih
      | cons y ys => rw [hs] at ih; simpa using ih
theorem splitB_mem : ∀ (s : Bs), ∀ w ∈ splitB s, w.length ≤ s.length
  | [], w, h => by simp [splitB] at h; simp [h]
  | x :: r, w, h => by
    have ih := splitB_mem r
    rw [splitB_cons] at h
    split at h
    · rcases List.mem_cons.1 h with rfl | h
      · simp
      · have := ih w h; simp; omega
    · split at h
      · rw [List.mem_singleton] at h; subst h; simp
      · rename_i y ys hs
        rw [hs] at ih
        rcases List.mem_cons.1 h with rfl | h
        · have := ih y (by simp); simp; omega
        · have := ih w (by simp [h]); simp; omega
/-- A blank is next at m. -/
theorem splitB_at {s : Bs} {m : Nat} (h : s[m]? = some 32) (hb : ∀ k, k < m → s[k]? ≠ some 32) : splitB s = s.take m :: splitB (s.drop (m + 1)) := by
  have hm : m < s.length := (List.getElem?_eq_some_iff.1 h).1
  have e : s = s.take m ++ 32 :: s.drop (m + 1) := by
    have h2 : s.drop m = s[m] :: s.drop (m + 1) := List.drop_eq_getElem_cons hm
    have h3 : s[m] = 32 := by have := List.getElem?_eq_getElem hm; rw [h] at this; exact (Option.some.inj this).symm
    rw [← h3, ← h2, List.take_append_drop]
  have hn : (32 : UInt8) ∉ s.take m := by
    intro hc
    obtain ⟨i, hi, he⟩ := List.getElem_of_mem hc
    simp only [List.length_take] at hi
    refine hb i (by omega) ?_
    rw [List.getElem_take] at he
    rw [List.getElem?_eq_getElem (by omega), he]
  have := splitB_app (s.drop (m + 1)) hn
  rw [← e] at this
  exact this
theorem splitB_free {s : Bs} (h : ∀ k : Nat, s[k]? ≠ some 32) : splitB s = [s] := by
  refine splitB_none fun hc => ?_
  obtain ⟨i, hi, he⟩ := List.getElem_of_mem hc
  exact h i (by rw [List.getElem?_eq_getElem hi, he])
theorem splitB_join : ∀ (ws : List Bs), ws ≠ [] → (∀ w ∈ ws, (32 : UInt8) ∉ w) → splitB (Lib.join ws [32]) = ws
  | [], h, _ => absurd rfl h
  | [w], _, h => by simpa [Lib.join, Lib.joinTail] using splitB_none (h w (by simp))
  | w :: v :: ws, _, h => by
    have ih := splitB_join (v :: ws) (by simp) fun x hx => h x (List.mem_cons_of_mem _ hx)
    have e : Lib.join (w :: v :: ws) [32] = w ++ 32 :: Lib.join (v :: ws) [32] := by simp [Lib.join, Lib.joinTail]
    rw [e, splitB_app _ (h w (by simp)), ih]

/-! ### Numbers -/
theorem dec_byte (d : Nat) (h : d < 10) : (UInt8.ofNat (48 + d)).toNat = 48 + d := by
  simp [UInt8.toNat_ofNat']; omega
theorem dec_bytes : ∀ (u : Nat), ∀ c ∈ Lib.decDigits u, 48 ≤ c.toNat ∧ c.toNat ≤ 57 := by
  intro u
  induction u using Nat.strongRecOn with
  | _ u ih =>
    intro c hc
    rw [Lib.decDigits] at hc
    split at hc
    · rename_i h
      rw [List.mem_singleton] at hc; subst hc
      rw [dec_byte u h]; omega
    · rename_i h
      rcases List.mem_append.1 hc with hc | hc
      · exact ih (u / 10) (by omega) c hc
      · simp only [List.mem_singleton] at hc; subst hc
        rw [dec_byte _ (Nat.mod_lt _ (by omega))]; omega
theorem dec_parse : ∀ (u : Nat), u < 1000000000000 → ∀ r, Lib.parseUint10 0 (Lib.decDigits u ++ r) = Lib.parseUint10 u r := by
  intro u
  induction u using Nat.strongRecOn with
  | _ u ih =>
    intro hu r
    rw [Lib.decDigits]
    split
    · rename_i h
      rw [List.singleton_append, Lib.parseUint10, dec_byte u h, if_pos (by omega), if_neg (by omega), if_neg (by omega)]
      simp
    · rename_i h
      rw [List.append_assoc, ih (u / 10) (by omega) (by omega), List.singleton_append, Lib.parseUint10, dec_byte _ (Nat.mod_lt _ (by omega)), if_pos (by omega), if_neg (by omega), if_neg (by omega)]
      congr 1
      omega
theorem dec_ne (u : Nat) : Lib.decDigits u ≠ [] := by
  rw [Lib.decDigits]; split <;> simp
theorem atoi_itoa {n : Int} (h0 : 0 ≤ n) (h1 : n ≤ 1000000) : Lib.atoiAll (Lib.itoa n) = .ok n := by
  obtain ⟨u, rfl⟩ : ∃ u : Nat, n = u := ⟨n.toNat, by omega⟩
  have e : Lib.itoa (u : Int) = Lib.decDigits u := by unfold Lib.itoa; rw [if_neg (by omega)]; simp
  rw [e]
  have hb := dec_bytes u
  have hp := dec_parse u (by omega) []
  have hn := dec_ne u
  rw [List.append_nil] at hp
  cases hd : Lib.decDigits u with
  | nil => exact absurd hd hn
  | cons c r =>
    rw [hd] at hb hp
    have hc := hb c (by simp)
    unfold Lib.atoiAll
    simp only
    rw [if_neg (by omega)]
    unfold Lib.parseMag
    rw [if_neg (by simp), hp]
    simp only [Lib.parseUint10]
    rw [if_neg (by omega), if_neg (by omega), if_neg (by omega)]
theorem itoa_free {n : Int} (h0 : 0 ≤ n) : (32 : UInt8) ∉ Lib.itoa n := by
  obtain ⟨u, rfl⟩ : ∃ u : Nat, n = u := ⟨n.toNat, by omega⟩
  have e : Lib.itoa (u : Int) = Lib.decDigits u := by unfold Lib.itoa; rw [if_neg (by omega)]; simp
  rw [e]
  intro hc
  have := dec_bytes u _ hc
  have h32 : (32 : UInt8).toNat = 32 := rfl
  omega

/-! ### Letters -/
theorem smallB_eq (c : UInt8) : Lib.isLowerB c = smallB c := by
  unfold Lib.isLowerB smallB
  simp only [UInt8.le_iff_toNat_le]
  rfl
theorem capB_eq (c : UInt8) : Lib.isUpperB c = capB c := by
  unfold Lib.isUpperB capB
  simp only [UInt8.le_iff_toNat_le]
  rfl
theorem up_eq (s : Bs) : Lib.toUpperA s = upB s := by
  unfold Lib.toUpperA upB
  refine List.map_congr_left fun c _ => ?_
  unfold Lib.upperB upC
  rw [smallB_eq]
theorem low_eq (s : Bs) : Lib.toLowerA s = lowB s := by
  unfold Lib.toLowerA lowB
  refine List.map_congr_left fun c _ => ?_
  unfold Lib.lowerB lowC
  rw [capB_eq]
theorem fitC_ascii {c : UInt8} (h : fitC c = true) : c.toNat < 128 := by
  unfold fitC letterB smallB capB digB at h
  simp only [Bool.or_eq_true, Bool.and_eq_true, decide_eq_true_eq] at h
  omega
theorem patC_contains (c : UInt8) : ([57, 65] : Bs).contains c = patC c := by
  unfold patC
  rw [Bool.eq_iff_iff]
  simp only [List.contains_cons, List.contains_nil, Bool.or_false, Bool.or_eq_true, beq_iff_eq, decide_eq_true_eq, ← UInt8.toNat_inj]
  rfl
theorem dropWhile_nil_iff (p : UInt8 → Bool) : ∀ l : Bs, l.dropWhile p = [] ↔ l.all p = true
  | [] => by simp
  | c :: r => by
    rw [List.dropWhile_cons]
    cases h : p c with
    | true => simpa [h] using dropWhile_nil_iff p r
    | false => simp [h]
theorem dropWhile_all (p : UInt8 → Bool) : ∀ l : Bs, (l.dropWhile p).all p = true → l.dropWhile p = []
  | [], _ => rfl
  | c :: r, h => by
    rw [List.dropWhile_cons] at h ⊢
    cases hc : p c with
    | true => rw [hc] at h; exact dropWhile_all p r h
    | false => rw [hc] at h; simp [hc] at h
theorem trim_pat (t : Bs) : (Lib.trimS t [57, 65] = []) ↔ t.all patC = true := by
  unfold Lib.trimS Lib.trimLeftS Lib.trimRightS
  have e : (fun b => ([57, 65] : Bs).contains b) = patC := funext patC_contains
  rw [show ((([57, 65] : Bs).contains ·)) = patC from e]
  rw [dropWhile_nil_iff]
  constructor
  · intro h
    rw [List.all_reverse] at h
    have := dropWhile_all patC t.reverse h
    rw [dropWhile_nil_iff, List.all_reverse] at this
    exact this
  · intro h
    have : t.reverse.dropWhile patC = [] := by rw [dropWhile_nil_iff, List.all_reverse]; exact h
    rw [this]; rfl
/-! ### House numbers -/
theorem digB_iff (c : UInt8) : digB c = true ↔ 48 ≤ c.toNat ∧ c.toNat ≤ 57 := by simp [digB]
theorem parse_step {c : UInt8} {r : Bs} {acc : Nat} (h : digB c = true) (ha : acc < 1000000) : Lib.parseUint10 acc (c :: r) = Lib.parseUint10 (10 * acc + (c.toNat - 48)) r := by
  have := (digB_iff c).1 h
  simp only [Lib.parseUint10]
  rw [if_pos this, if_neg (by omega), if_neg (by omega)]
  congr 1; omega
theorem parse_small : ∀ (r : Bs) (n acc : Nat), r.length ≤ n → n ≤ 4 → acc < 10 ^ (5 - n) → r.all digB = true → Lib.parseUint10 acc r = .ok (r.foldl (fun n c => 10 * n + (c.toNat - 48)) acc) ∧ r.foldl (fun n c => 10 * n + (c.toNat - 48)) acc < 10 ^ 5
  | [], n, acc, _, hn, ha, _ => ⟨rfl, by
      simp only [List.foldl_nil]
      exact Nat.lt_of_lt_of_le ha (Nat.pow_le_pow_right (by omega) (by omega))⟩
  | c :: r, n, acc, hl, hn, ha, h => by
    simp only [List.all_cons, Bool.and_eq_true] at h
    obtain ⟨n', rfl⟩ : ∃ m, n = m + 1 := ⟨n - 1, by simp at hl; omega⟩
    have hb : 10 ^ (5 - (n' + 1)) ≤ 10 ^ 4 := Nat.pow_le_pow_right (by omega) (by omega)
    have hc := (digB_iff c).1 h.1
    have h2 : 10 ^ (5 - n') = 10 * 10 ^ (5 - (n' + 1)) := by
      rw [show 5 - n' = (5 - (n' + 1)) + 1 by omega, Nat.pow_succ]; omega
    rw [parse_step h.1 (by omega)]
    exact parse_small r n' _ (by simp at hl; omega) (by omega) (by omega) h.2
theorem atoi_val {w : Bs} (h : w.all digB = true) (h1 : 1 ≤ w.length) (h4 : w.length ≤ 4) : Lib.atoiAll w = .ok (valB w : Int) ∧ valB w < 100000 := by
  have hp := parse_small w 4 0 h4 (by omega) (by omega) h
  refine ⟨?_, by simpa [valB] using hp.2⟩
  cases w with
  | nil => simp at h1
  | cons c r =>
    simp only [List.all_cons, Bool.and_eq_true] at h
    have hc := (digB_iff c).1 h.1
    unfold Lib.atoiAll
    simp only
    rw [if_neg (by omega)]
    unfold Lib.parseMag
    rw [if_neg (by simp), hp.1]
    have h5 := hp.2
    simp only
    rw [if_neg (by omega), if_neg (by omega), if_neg (by omega)]
    rfl
/-! ### Lengths -/
theorem dec_len : ∀ (k u : Nat), u < 10 ^ (k + 1) → (Lib.decDigits u).length ≤ k + 1
  | 0, u, h => by
    unfold Lib.decDigits
    rw [dif_pos (by simpa using h)]
    simp
  | k + 1, u, h => by
    unfold Lib.decDigits
    split
    · simp
    · have := dec_len k (u / 10) (by rw [Nat.pow_succ] at h; omega)
      simp; omega
theorem itoa_len {n : Int} (h0 : 0 ≤ n) (h1 : n ≤ 1000000) : (Lib.itoa n).length ≤ 7 := by
  unfold Lib.itoa
  rw [if_neg (by omega)]
  exact dec_len 6 _ (by omega)
theorem tail_len (sep : Bs) (M : Nat) : ∀ l : List Bs, (∀ x ∈ l, x.length ≤ M) → (Lib.joinTail sep l).length ≤ l.length * (M + sep.length)
  | [], _ => by simp [Lib.joinTail]
  | x :: l, h => by
    have := tail_len sep M l (fun z hz => h z (List.mem_cons_of_mem _ hz))
    have hx := h x (by simp)
    unfold Lib.joinTail at *
    simp only [List.map_cons, List.flatten_cons, List.length_append, List.length_cons] at this ⊢
    rw [Nat.add_mul]
    omega
theorem join_len (sep : Bs) (M : Nat) : ∀ l : List Bs, (∀ x ∈ l, x.length ≤ M) → (Lib.join l sep).length ≤ l.length * (M + sep.length)
  | [], _ => by simp [Lib.join_nil]
  | x :: l, h => by
    have := tail_len sep M l (fun z hz => h z (List.mem_cons_of_mem _ hz))
    have hx := h x (by simp)
    rw [Lib.join_cons]
    simp only [List.length_append, List.length_cons]
    rw [Nat.add_mul]
    omega
end Go.Proofs.YtbodeejogdckgaaGreatDoor
