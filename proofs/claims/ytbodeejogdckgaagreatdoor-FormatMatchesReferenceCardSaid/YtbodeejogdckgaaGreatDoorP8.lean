/-
  What is printed takes the parts, and the parts that took words are printed as these words, but for case.
-/
import Derived.Test.YtbodeejogdckgaaGreatDoorP7
import Derived.Test.YtbodeejogdckgaaGreatDoorF4
import Derived.Test.YtbodeejogdckgaaGreatDoorG1
set_option linter.unusedVariables false
set_option linter.unusedSimpArgs false
namespace Go.Proofs.YtbodeejogdckgaaGreatDoor
open Go.Av Pl
theorem join_nil2 : Lib.join [] [32] = ([] : Bs) := rfl
theorem join_one2 (a : Bs) : Lib.join [a] [32] = a := by simp [Lib.join, Lib.joinTail]
theorem words_join_flat : ∀ (l : List Bs), wordsW (Lib.join l [32]) = l.flatMap wordsW
  | [] => rfl
  | [a] => by rw [join_one2]; simp
  | a :: b :: l => by
    rw [join_cons2, words_app _ _ _ (by decide), words_join_flat (b :: l)]
    rfl
theorem up_join : ∀ (l : List Bs), upB (Lib.join l [32]) = Lib.join (l.map upB) [32]
  | [] => rfl
  | [a] => by rw [join_one2, List.map_cons, List.map_nil, join_one2]
  | a :: b :: l => by
    have ih := up_join (b :: l)
    rw [List.map_cons] at ih
    rw [join_cons2, List.map_cons, List.map_cons, join_cons2, ← ih]
    unfold upB
    rw [List.map_append, List.map_cons]
    rfl
theorem up_blank (c : UInt8) : blankB (upC c) = blankB c := by
  by_cases h : smallB c = true
  · have h2 := h
    unfold smallB at h2
    simp only [Bool.and_eq_true, decide_eq_true_eq] at h2
    have e := up_small h2.1 h2.2
    rw [show Wr .u8 ((c.toNat : Int) - 32) = (c.toNat : Int) - 32 by unfold Wr; simp [IntKind.wrap, IntKind.bits, IntKind.signed]; omega] at e
    unfold blankB
    have e1 : (upC c).toNat = c.toNat - 32 := by omega
    rw [e1, decide_eq_false (by omega : ¬ c.toNat - 32 = 32), decide_eq_false (by omega : ¬ c.toNat - 32 = 9), decide_eq_false (by omega : ¬ c.toNat = 32), decide_eq_false (by omega : ¬ c.toNat = 9)]
  · unfold upC; rw [if_neg h]
theorem wsGo_up : ∀ (s cur : Bs), wsGo (upB cur) (upB s) = (wsGo cur s).map upB
  | [], cur => by
    show wsGo (upB cur) [] = _
    rw [wsGo, wsGo]
    by_cases h : cur = []
    · rw [if_pos h, if_pos (by rw [h]; rfl)]; rfl
    · rw [if_neg h, if_neg (by unfold upB; simpa using h)]; rfl
  | c :: s, cur => by
    show wsGo (upB cur) (upC c :: upB s) = _
    rw [wsGo, wsGo, up_blank]
    by_cases hb : blankB c = true
    · rw [if_pos hb, if_pos hb]
      have ih := wsGo_up s []
      by_cases h : cur = []
      · rw [if_pos h, if_pos (by rw [h]; rfl)]; exact ih
      · rw [if_neg h, if_neg (by unfold upB; simpa using h), List.map_cons]
        exact congrArg _ ih
    · rw [if_neg hb, if_neg hb]
      have ih := wsGo_up s (cur ++ [c])
      rw [← ih]
      unfold upB
      rw [List.map_append]
      rfl
theorem words_up (s : Bs) : wordsW (upB s) = (wordsW s).map upB := wsGo_up s []
theorem up_isW {w : Bs} (h : isW w) : isW (upB w) := by
  refine ⟨fun e => h.1 (by unfold upB at e; simpa using e), fun c hc => ?_⟩
  obtain ⟨d, hd, rfl⟩ := List.mem_map.1 hc
  rw [up_blank]
  exact h.2 d hd
theorem join_split : ∀ (s : Bs), Lib.join (splitB s) [32] = s
  | [] => rfl
  | x :: r => by
    have ih := join_split r
    have hp := splitB_pos r
    rw [splitB_cons]
    cases hs : splitB r with
    | nil => rw [hs] at hp; simp at hp
    | cons y ys =>
      rw [hs] at ih
      by_cases hx : x = 32
      · rw [if_pos hx, join_cons2, ih, hx]; rfl
      · rw [if_neg hx]
        show Lib.join ((x :: y) :: ys) [32] = x :: r
        rw [← ih]
        cases ys with
        | nil => rw [join_one2, join_one2]
        | cons z zs => rw [join_cons2, join_cons2]; rfl
/-! ### Numbers -/
theorem dec_head : ∀ (u : Nat), 1 ≤ u → (Lib.decDigits u).head? ≠ some 48 := by
  intro u
  induction u using Nat.strongRecOn with
  | _ u ih =>
    intro h1 h2
    rw [Lib.decDigits] at h2
    split at h2
    · rename_i h
      have h3 : UInt8.ofNat (48 + u) = 48 := by simpa using h2
      have := dec_byte u h
      rw [h3] at this
      have h48 : (48 : UInt8).toNat = 48 := rfl
      omega
    · rename_i h
      have hne := dec_ne (u / 10)
      cases hd : Lib.decDigits (u / 10) with
      | nil => exact hne hd
      | cons c r =>
        have := ih (u / 10) (by omega) (by omega)
        rw [hd] at h2 this
        exact this h2
theorem dec_digs (u : Nat) : (Lib.decDigits u).all digB = true := by
  rw [List.all_eq_true]
  intro c hc
  exact (digB_iff c).2 (dec_bytes u c hc)
theorem itoa_dec (u : Nat) : Lib.itoa (u : Int) = Lib.decDigits u := by unfold Lib.itoa; rw [if_neg (by omega)]; simp
theorem itoa_num {n : Int} (h0 : 1 ≤ n) (h1 : n ≤ 9999) : numOK (Lib.itoa n) = true ∧ (valB (Lib.itoa n) : Int) = n ∧ fitB (Lib.itoa n) = true ∧ isW (Lib.itoa n) := by
  have ha := atoi_itoa (n := n) (by omega) (by omega)
  obtain ⟨u, rfl⟩ : ∃ u : Nat, n = u := ⟨n.toNat, by omega⟩
  rw [itoa_dec] at ha ⊢
  have hl := dec_len 3 u (by omega)
  have hn := List.length_pos_iff.2 (dec_ne u)
  have hv := (atoi_val (dec_digs u) hn hl).1
  rw [ha] at hv
  have hf : fitB (Lib.decDigits u) = true := by
    unfold fitB
    simp only [Bool.and_eq_true, decide_eq_true_eq]
    refine ⟨⟨hn, by omega⟩, ?_⟩
    rw [List.all_eq_true]
    intro c hc
    have := List.all_eq_true.1 (dec_digs u) c hc
    unfold fitC
    rw [this]
    simp
  refine ⟨?_, ?_, hf, fit_isW hf⟩
  · unfold numOK
    rw [dec_digs u]
    simp only [Bool.and_true, Bool.and_eq_true, decide_eq_true_eq, Bool.not_eq_true', decide_eq_false_iff_not]
    exact ⟨⟨hl, dec_head u (by omega)⟩, hn⟩
  · injection hv with hv
    exact hv.symm
theorem dec_step (u d : Nat) (h : 1 ≤ u) (hd : d < 10) : Lib.decDigits (10 * u + d) = Lib.decDigits u ++ [UInt8.ofNat (48 + d)] := by
  conv => lhs; rw [Lib.decDigits]
  rw [dif_neg (by omega), show (10 * u + d) / 10 = u by omega, show (10 * u + d) % 10 = d by omega]
theorem digit_byte {c : UInt8} (h : digB c = true) : UInt8.ofNat (48 + (c.toNat - 48)) = c := by
  have := (digB_iff c).1 h
  rw [show 48 + (c.toNat - 48) = c.toNat by omega]
  simp
/-- A house number is printed as it stands. -/
theorem val_itoa {w : Bs} (h : numOK w = true) : Lib.itoa (valB w : Int) = w ∧ 1 ≤ valB w ∧ valB w ≤ 9999 := by
  unfold numOK at h
  simp only [Bool.and_eq_true, decide_eq_true_eq, Bool.not_eq_true', decide_eq_false_iff_not] at h
  obtain ⟨⟨⟨h1, h2⟩, h3⟩, h4⟩ := h
  rw [itoa_dec]
  cases w with
  | nil => simp at h4
  | cons a w =>
    simp only [List.all_cons, Bool.and_eq_true] at h3
    obtain ⟨ha, h3⟩ := h3
    have ba := (digB_iff a).1 ha
    have a0 : 1 ≤ a.toNat - 48 := by
      have h2 : a ≠ 48 := by simpa using h2
      have : a.toNat ≠ 48 := fun e => h2 (UInt8.toNat_inj.1 e)
      omega
    have va : Lib.decDigits (a.toNat - 48) = [a] := by rw [Lib.decDigits, dif_pos (by omega), digit_byte ha]
    cases w with
    | nil =>
      unfold valB
      simp only [List.foldl_cons, List.foldl_nil, Nat.mul_zero, Nat.zero_add]
      exact ⟨va, by omega, by omega⟩
    | cons b w =>
      simp only [List.all_cons, Bool.and_eq_true] at h3
      obtain ⟨hb, h3⟩ := h3
      have bb := (digB_iff b).1 hb
      have vb := dec_step (a.toNat - 48) (b.toNat - 48) a0 (by omega)
      rw [va, digit_byte hb] at vb
      cases w with
      | nil =>
        unfold valB
        simp only [List.foldl_cons, List.foldl_nil, Nat.mul_zero, Nat.zero_add]
        exact ⟨vb, by omega, by omega⟩
      | cons c w =>
        simp only [List.all_cons, Bool.and_eq_true] at h3
        obtain ⟨hc, h3⟩ := h3
        have bc := (digB_iff c).1 hc
        have vc := dec_step (10 * (a.toNat - 48) + (b.toNat - 48)) (c.toNat - 48) (by omega) (by omega)
        rw [vb, digit_byte hc] at vc
        cases w with
        | nil =>
          unfold valB
          simp only [List.foldl_cons, List.foldl_nil, Nat.mul_zero, Nat.zero_add]
          exact ⟨vc, by omega, by omega⟩
        | cons d w =>
          simp only [List.all_cons, Bool.and_eq_true] at h3
          obtain ⟨hd, h3⟩ := h3
          have bd := (digB_iff d).1 hd
          have vd := dec_step (10 * (10 * (a.toNat - 48) + (b.toNat - 48)) + (c.toNat - 48)) (d.toNat - 48) (by omega) (by omega)
          rw [vc, digit_byte hd] at vd
          cases w with
          | nil =>
            unfold valB
            simp only [List.foldl_cons, List.foldl_nil, Nat.mul_zero, Nat.zero_add]
            exact ⟨vd, by omega, by omega⟩
          | cons e w => simp at h1
/-! ### Codes -/
theorem up_cases (c : UInt8) : (upC c = c ∧ smallB c = false) ∨ (smallB c = true ∧ (upC c).toNat = c.toNat - 32) := by
  by_cases h : smallB c = true
  · have h2 := h
    unfold smallB at h2
    simp only [Bool.and_eq_true, decide_eq_true_eq] at h2
    have e := up_small h2.1 h2.2
    rw [show Wr .u8 ((c.toNat : Int) - 32) = (c.toNat : Int) - 32 by unfold Wr; simp [IntKind.wrap, IntKind.bits, IntKind.signed]; omega] at e
    exact .inr ⟨h, by omega⟩
  · exact .inl ⟨by unfold upC; rw [if_neg h], by simpa using h⟩
theorem up_dig (c : UInt8) : digB (upC c) = digB c := by
  rcases up_cases c with ⟨e, _⟩ | ⟨h, e⟩
  · rw [e]
  · unfold smallB at h
    simp only [Bool.and_eq_true, decide_eq_true_eq] at h
    unfold digB
    rw [e, decide_eq_false (by omega : ¬ c.toNat - 32 ≤ 57), decide_eq_false (by omega : ¬ c.toNat ≤ 57)]
    simp
theorem up_letter (c : UInt8) : letterB (upC c) = letterB c := by
  rcases up_cases c with ⟨e, _⟩ | ⟨h, e⟩
  · rw [e]
  · have h2 := h
    unfold smallB at h2
    simp only [Bool.and_eq_true, decide_eq_true_eq] at h2
    have : letterB c = true := by unfold letterB; rw [h]; rfl
    rw [this]
    unfold letterB capB
    rw [e, decide_eq_true (by omega : 65 ≤ c.toNat - 32), decide_eq_true (by omega : c.toNat - 32 ≤ 90)]
    simp
theorem up_up (c : UInt8) : upC (upC c) = upC c := by
  rcases up_cases c with ⟨e, _⟩ | ⟨h, e⟩
  · rw [e, e]
  · unfold smallB at h
    simp only [Bool.and_eq_true, decide_eq_true_eq] at h
    have : smallB (upC c) = false := by
      unfold smallB
      rw [e]
      simp
      omega
    show (if smallB (upC c) = true then upC c - 32 else upC c) = upC c
    rw [if_neg (by rw [this]; simp)]
theorem up_upB (s : Bs) : upB (upB s) = upB s := by
  unfold upB
  rw [List.map_map]
  exact List.map_congr_left fun c _ => up_up c
theorem match_up : ∀ (w q : Bs), matchB (upB w) q = matchB w q
  | [], [] => rfl
  | [], _ :: _ => rfl
  | _ :: _, [] => rfl
  | c :: w, d :: q => by
    show matchB (upC c :: upB w) (d :: q) = _
    rw [matchB, matchB, up_dig, up_letter, match_up w q]
theorem match_lenP : ∀ (w q : Bs), matchB w q = true → w.length = q.length
  | [], [], _ => rfl
  | [], _ :: _, h => by simp [matchB] at h
  | _ :: _, [], h => by simp [matchB] at h
  | c :: w, d :: q, h => by
    simp only [matchB, Bool.and_eq_true] at h
    simp [match_lenP w q h.2]
theorem match_fit : ∀ (w q : Bs), q.all patC = true → matchB w q = true → w.all fitC = true
  | [], _, _, _ => rfl
  | _ :: _, [], _, h => by simp [matchB] at h
  | c :: w, d :: q, hq, h => by
    simp only [matchB, Bool.and_eq_true] at h
    simp only [List.all_cons, Bool.and_eq_true] at hq ⊢
    refine ⟨?_, match_fit w q hq.2 h.2⟩
    have h1 := hq.1
    unfold patC at h1
    simp only [Bool.or_eq_true, decide_eq_true_eq] at h1
    unfold fitC
    rcases h1 with h1 | h1
    · have h2 := h.1.1
      simp only [h1, decide_true, Bool.not_true, Bool.false_or] at h2
      rw [h2]; simp
    · have h2 := h.1.2
      simp only [h1, decide_true, Bool.not_true, Bool.false_or] at h2
      rw [h2]; simp
theorem code_fit {p : Pt} (hp : partB p = true) (hk : p.k = 3) {w : Bs} (h : matchB w p.t = true) : fitB w = true := by
  have h1 := pat_text hp hk
  have h2 := match_fit w p.t h1 h
  have h3 := match_lenP w p.t h
  unfold partB at hp
  rw [if_neg (by omega), if_pos hk] at hp
  unfold patB at hp
  simp only [Bool.and_eq_true, decide_eq_true_eq] at hp
  unfold fitB
  simp only [Bool.and_eq_true, decide_eq_true_eq]
  exact ⟨⟨by omega, by omega⟩, h2⟩
theorem low_up (c : UInt8) : upC (lowC c) = upC c := by
  unfold lowC
  by_cases h : capB c = true
  · rw [if_pos h]
    have h2 := h
    unfold capB at h2
    simp only [Bool.and_eq_true, decide_eq_true_eq] at h2
    have e : (c + 32).toNat = c.toNat + 32 := by
      rw [UInt8.toNat_add]
      have : (32 : UInt8).toNat = 32 := rfl
      omega
    have s1 : smallB (c + 32) = true := by unfold smallB; rw [e]; simp; omega
    have s2 : smallB c = false := by unfold smallB; simp; omega
    unfold upC
    rw [if_pos s1, if_neg (by rw [s2]; simp)]
    apply UInt8.toNat_inj.1
    rw [UInt8.toNat_sub, e]
    have : (32 : UInt8).toNat = 32 := rfl
    omega
  · rw [if_neg h]
theorem low_same {a b : Bs} (h : lowB a = lowB b) : upB a = upB b := by
  have e : ∀ x : Bs, upB (lowB x) = upB x := fun x => by
    unfold upB lowB
    rw [List.map_map]
    exact List.map_congr_left fun c _ => low_up c
  rw [← e a, ← e b, h]
theorem words_of_split {s : Bs} (h : isWordsB s = true) : wordsW s = splitB s ∧ Lib.join (splitB s) [32] = s ∧ (∀ w ∈ splitB s, fitB w = true) ∧ splitB s ≠ [] ∧ (splitB s).length ≤ 4 := by
  unfold isWordsB at h
  simp only [Bool.and_eq_true, decide_eq_true_eq] at h
  have hf : ∀ w ∈ splitB s, fitB w = true := List.all_eq_true.1 h.2
  have hj := join_split s
  refine ⟨?_, hj, hf, fun e => by have := splitB_pos s; rw [e] at this; simp at this, h.1.2⟩
  conv => lhs; rw [← hj]
  exact words_join _ fun w hw => fit_isW (hf w hw)
theorem words_of_join {l : List Bs} (h0 : l ≠ []) (h4 : l.length ≤ 4) (hf : ∀ w ∈ l, fitB w = true) : isWordsB (Lib.join l [32]) = true := by
  have hs : splitB (Lib.join l [32]) = l := splitB_join l h0 fun w hw hc => by
    have := (fit_isW (hf w hw)).2 32 hc
    exact absurd this (by decide)
  have hl := join_len [32] 20 l fun x hx => by
    have := hf x hx
    unfold fitB at this
    simp only [Bool.and_eq_true, decide_eq_true_eq] at this
    exact this.1.2
  unfold isWordsB
  rw [hs]
  simp only [Bool.and_eq_true, decide_eq_true_eq]
  refine ⟨⟨?_, h4⟩, List.all_eq_true.2 hf⟩
  have e : 20 + ([32] : Bs).length = 21 := rfl
  rw [e] at hl
  have := Nat.mul_le_mul_right 21 h4
  omega
/-! ### Printed parts -/
theorem print_took {p : Pt} {x : Ad} (hp : partB p = true) (hx : fitP x p = true) : TookP p (wordsW (printP p x)) x ∧ ∀ w ∈ wordsW (printP p x), fitB w = true := by
  have hp0 := hp
  unfold partB at hp
  unfold fitP at hx
  rcases part_kind hp0 with hk | hk | hk | hk | hk | hk
  · simp only [hk, if_true] at hp
    have e : wordsW (printP p x) = [p.t] := by unfold printP; rw [if_pos hk]; exact words_isW (fit_isW hp)
    rw [e]
    refine ⟨⟨by simp, by unfold mostP; simp [hk], by unfold okS; simp [hk], ?_, ?_, ?_, ?_, ?_⟩, fun w hw => by rw [List.mem_singleton.1 hw]; exact hp⟩ <;> (intro h; omega)
  · rw [if_pos hk] at hx
    simp only [Bool.and_eq_true, decide_eq_true_eq] at hx
    obtain ⟨n1, n2, n3, n4⟩ := itoa_num hx.1 hx.2
    have e : wordsW (printP p x) = [Lib.itoa x.nu] := by unfold printP; rw [if_neg (by omega), if_pos hk]; exact words_isW n4
    rw [e]
    refine ⟨⟨by simp, by unfold mostP; simp [hk], by unfold okS; simp [hk, n1], fun _ => n2.symm, ?_, ?_, ?_, ?_⟩, fun w hw => by rw [List.mem_singleton.1 hw]; exact n3⟩ <;> (intro h; omega)
  · rw [if_neg (by omega), if_pos hk] at hx
    simp only [Bool.and_eq_true, decide_eq_true_eq] at hx
    have hf := code_fit hp0 hk hx.1
    have e : wordsW (printP p x) = [x.co] := by unfold printP; rw [if_neg (by omega), if_neg (by omega), if_pos hk]; exact words_isW (fit_isW hf)
    rw [e]
    refine ⟨⟨by simp, by unfold mostP; simp [hk], by unfold okS; simp [hk, hx.1], ?_, fun _ => hx.2, ?_, ?_, ?_⟩, fun w hw => by rw [List.mem_singleton.1 hw]; exact hf⟩ <;> (intro h; omega)
  · rw [if_neg (by omega), if_neg (by omega), if_pos hk] at hx
    obtain ⟨w1, w2, w3, w4, w5⟩ := words_of_split hx
    have e : wordsW (printP p x) = splitB x.st := by unfold printP; rw [if_neg (by omega), if_neg (by omega), if_neg (by omega), if_pos hk]; exact w1
    rw [e]
    exact ⟨⟨w4, by unfold mostP; simpa [hk] using w5, by unfold okS; simp [hk], fun h => by omega, fun h => by omega, fun _ => w2.symm, fun h => by omega, fun h => by omega⟩, w3⟩
  · rw [if_neg (by omega), if_neg (by omega), if_neg (by omega), if_pos hk] at hx
    obtain ⟨w1, w2, w3, w4, w5⟩ := words_of_split hx
    have e : wordsW (printP p x) = splitB x.to := by unfold printP; rw [if_neg (by omega), if_neg (by omega), if_neg (by omega), if_neg (by omega), if_pos hk]; exact w1
    rw [e]
    exact ⟨⟨w4, by unfold mostP; simpa [hk] using w5, by unfold okS; simp [hk], fun h => by omega, fun h => by omega, fun h => by omega, fun _ => w2.symm, fun h => by omega⟩, w3⟩
  · rw [if_neg (by omega), if_neg (by omega), if_neg (by omega), if_neg (by omega), if_pos hk] at hx
    obtain ⟨w1, w2, w3, w4, w5⟩ := words_of_split hx
    have e : wordsW (printP p x) = splitB x.pe := by unfold printP; rw [if_neg (by omega), if_neg (by omega), if_neg (by omega), if_neg (by omega), if_neg (by omega)]; exact w1
    rw [e]
    exact ⟨⟨w4, by unfold mostP; simpa [hk] using w5, by unfold okS; simp [hk], fun h => by omega, fun h => by omega, fun h => by omega, fun h => by omega, fun _ => w2.symm⟩, w3⟩
theorem line_words (x : Ad) : ∀ (l : List Pt), wordsW (lineP x l) = l.flatMap fun p => wordsW (printP p x) := by
  intro l
  unfold lineP
  rw [words_join_flat, List.flatMap_map]
theorem line_took {x : Ad} : ∀ (l : List Pt), (∀ p ∈ l, partB p = true) → (∀ p ∈ l, fitP x p = true) → Took l (wordsW (lineP x l)) x ∧ ∀ w ∈ wordsW (lineP x l), fitB w = true := by
  intro l
  induction l with
  | nil => intro _ _; exact ⟨rfl, fun w hw => by have hw : w ∈ ([] : List Bs) := hw; cases hw⟩
  | cons p l ih =>
    intro hp hx
    obtain ⟨i1, i2⟩ := ih (fun q hq => hp q (by simp [hq])) fun q hq => hx q (by simp [hq])
    obtain ⟨t1, t2⟩ := print_took (hp p (by simp)) (hx p (by simp))
    rw [line_words] at i1 i2 ⊢
    rw [List.flatMap_cons]
    refine ⟨⟨_, _, rfl, t1, i1⟩, fun w hw => ?_⟩
    rcases List.mem_append.1 hw with hw | hw
    · exact t2 w hw
    · exact i2 w hw
theorem lines_took {x : Ad} : ∀ (ls : List (List Pt)), (∀ p ∈ ls.flatten, partB p = true) → (∀ p ∈ ls.flatten, fitP x p = true) → TookF ls ((ls.map (lineP x)).map wordsW) x ∧ allFitB ((ls.map (lineP x)).map wordsW) = true
  | [], _, _ => ⟨rfl, rfl⟩
  | l :: ls, hp, hx => by
    rw [List.flatten_cons] at hp hx
    obtain ⟨i1, i2⟩ := lines_took ls (fun q hq => hp q (List.mem_append_right _ hq)) fun q hq => hx q (List.mem_append_right _ hq)
    obtain ⟨t1, t2⟩ := line_took l (fun q hq => hp q (List.mem_append_left _ hq)) fun q hq => hx q (List.mem_append_left _ hq)
    refine ⟨⟨_, _, rfl, t1, i1⟩, ?_⟩
    unfold allFitB at i2 ⊢
    rw [List.map_cons, List.map_cons, List.all_cons, i2, List.all_eq_true.2 t2]
    rfl
theorem valid_good {f : Fm} (h : validF f = true) : goodK f.lines.flatten ∧ (kindsR f.lines.flatten).Nodup ∧ ∀ p ∈ f.lines.flatten, partB p = true := by
  have hp : ∀ p ∈ f.lines.flatten, partB p = true := fun p hp => by
    obtain ⟨l, hl, hp⟩ := List.mem_flatten.1 hp
    exact valid_parts h l hl p hp
  refine ⟨fun p hq => part_kind (hp p hq), ?_, hp⟩
  unfold validF at h
  simp only [Bool.and_eq_true, decide_eq_true_eq] at h
  exact h.2
/-- What is printed is read again. -/
theorem print_read {f : Fm} {x : Ad} (hv : validF f = true) (hx : fitsF f x = true) : allFitB ((printF f x).map wordsW) = true ∧ x ∈ readF f.lines ((printF f x).map wordsW) ad0 := by
  obtain ⟨hg, hn, hp⟩ := valid_good hv
  unfold fitsF at hx
  simp only [Bool.and_eq_true, decide_eq_true_eq] at hx
  obtain ⟨t1, t2⟩ := lines_took f.lines hp (List.all_eq_true.1 hx.1)
  refine ⟨t2, took_readF _ _ _ _ hg t1 ?_⟩
  have := clear_agr (x := x) f.lines.flatten hg x
  rw [hx.2] at this
  exact this.symm
/-! ### Readings are printed -/
theorem took_print {p : Pt} {l : List Bs} {x : Ad} (hp : partB p = true) (hl : ∀ w ∈ l, fitB w = true) (t : TookP p l x) : fitP x p = true ∧ wordsW (upB (printP p x)) = l.map upB := by
  have ho := t.ok
  have hle := t.le
  have hne := t.ne
  unfold okS at ho
  unfold mostP at hle
  have one : ∀ {n : Nat}, n ≤ 1 → l.length ≤ n → ∃ w, l = [w] := fun h1 h2 => by
    match l, hne, h2 with
    | [w], _, _ => exact ⟨w, rfl⟩
    | _ :: _ :: _, _, h2 => simp at h2; omega
  have many : ∀ {s : Bs}, l.length ≤ 4 → s = Lib.join l [32] → isWordsB s = true ∧ wordsW (upB s) = l.map upB := fun h4 e => by
    rw [e]
    refine ⟨words_of_join hne h4 hl, ?_⟩
    rw [words_up, words_join l fun w hw => fit_isW (hl w hw)]
  unfold fitP printP
  rcases part_kind hp with hk | hk | hk | hk | hk | hk
  · simp only [hk] at hle ho ⊢
    obtain ⟨w, rfl⟩ := one (by simp) hle
    have hp2 := hp
    unfold partB at hp2
    simp only [hk, if_true] at hp2
    have ho : lowB w = lowB p.t := by simpa using ho
    refine ⟨rfl, ?_⟩
    show wordsW (upB p.t) = [upB w]
    rw [words_isW (up_isW (fit_isW hp2)), low_same ho]
  · simp only [hk] at hle ho ⊢
    obtain ⟨w, rfl⟩ := one (by simp) hle
    have ho : numOK w = true := by simpa using ho
    obtain ⟨v1, v2, v3⟩ := val_itoa ho
    have hn := t.h2 hk
    have hn : x.nu = (valB w : Int) := hn
    refine ⟨?_, ?_⟩
    · rw [hn]; simp; omega
    · show wordsW (upB (Lib.itoa x.nu)) = [upB w]
      rw [hn, v1, words_isW (up_isW (fit_isW (hl w (by simp))))]
  · simp only [hk] at hle ho ⊢
    obtain ⟨w, rfl⟩ := one (by simp) hle
    have ho : matchB w p.t = true := by simpa using ho
    have hc : x.co = upB w := t.h3 hk
    refine ⟨?_, ?_⟩
    · rw [hc]; simp [match_up, ho, up_upB]
    · show wordsW (upB x.co) = [upB w]
      rw [hc, up_upB, words_isW (up_isW (fit_isW (hl w (by simp))))]
  · simp only [hk] at hle ⊢
    exact many (by simpa using hle) (t.h4 hk)
  · simp only [hk] at hle ⊢
    exact many (by simpa using hle) (t.h5 hk)
  · simp only [hk] at hle ⊢
    exact many (by simpa using hle) (t.h6 hk)
theorem up_line (x : Ad) (l : List Pt) : wordsW (upB (lineP x l)) = l.flatMap fun p => wordsW (upB (printP p x)) := by
  unfold lineP
  rw [up_join, words_join_flat, List.map_map, List.flatMap_map]
  rfl
theorem took_line {x : Ad} : ∀ (l : List Pt) (ws : List Bs), (∀ p ∈ l, partB p = true) → (∀ w ∈ ws, fitB w = true) → Took l ws x → (∀ p ∈ l, fitP x p = true) ∧ wordsW (upB (lineP x l)) = ws.map upB
  | [], ws, _, _, t => by
    have t : ws = [] := t
    subst t
    exact ⟨fun p hp => (by cases hp), rfl⟩
  | p :: l, ws, hp, hw, ⟨a, b, e, t1, t2⟩ => by
    subst e
    obtain ⟨i1, i2⟩ := took_line l b (fun q hq => hp q (by simp [hq])) (fun w h => hw w (List.mem_append_right _ h)) t2
    obtain ⟨j1, j2⟩ := took_print (hp p (by simp)) (fun w h => hw w (List.mem_append_left _ h)) t1
    rw [up_line] at i2 ⊢
    refine ⟨fun q hq => ?_, ?_⟩
    · rcases List.mem_cons.1 hq with rfl | hq
      · exact j1
      · exact i1 q hq
    · rw [List.flatMap_cons, i2, j2, List.map_append]
theorem took_lines {x : Ad} : ∀ (ls : List (List Pt)) (W : List (List Bs)), (∀ p ∈ ls.flatten, partB p = true) → (∀ ws ∈ W, ∀ w ∈ ws, fitB w = true) → TookF ls W x → (∀ p ∈ ls.flatten, fitP x p = true) ∧ (ls.map fun l => wordsW (upB (lineP x l))) = W.map fun ws => ws.map upB
  | [], W, _, _, t => by
    have t : W = [] := t
    subst t
    exact ⟨fun p hp => (by cases hp), rfl⟩
  | l :: ls, W, hp, hw, ⟨w, V, e, t1, t2⟩ => by
    subst e
    rw [List.flatten_cons] at hp ⊢
    obtain ⟨i1, i2⟩ := took_lines ls V (fun q hq => hp q (List.mem_append_right _ hq)) (fun ws h => hw ws (by simp [h])) t2
    obtain ⟨j1, j2⟩ := took_line l w (fun q hq => hp q (List.mem_append_left _ hq)) (hw w (by simp)) t1
    refine ⟨fun q hq => ?_, ?_⟩
    · rcases List.mem_append.1 hq with hq | hq
      · exact j1 q hq
      · exact i1 q hq
    · rw [List.map_cons, List.map_cons, i2, j2]
/-- A reading fits, and is printed as lines with the words that it was read from, but for case. -/
theorem read_print {f : Fm} {x : Ad} {W : List (List Bs)} (hv : validF f = true) (hW : allFitB W = true) (hx : x ∈ readF f.lines W ad0) : fitsF f x = true ∧ ((printF f x).map fun s => wordsW (upB s)) = W.map fun ws => ws.map upB := by
  obtain ⟨hg, hn, hp⟩ := valid_good hv
  have ht := readF_took f.lines W ad0 x hg hn hx
  obtain ⟨t1, t2⟩ := took_lines f.lines W hp (fun ws h w hw => List.all_eq_true.1 (List.all_eq_true.1 hW ws h) w hw) ht
  refine ⟨?_, by unfold printF; rw [List.map_map]; exact t2⟩
  unfold fitsF
  rw [List.all_eq_true.2 t1]
  have h0 := readF_mem_agr f.lines W ad0 x hg hx
  have h1 := clears_same _ _ _ hg h0
  rw [clears_zero] at h1
  rw [← h1]
  simp
end Go.Proofs.YtbodeejogdckgaaGreatDoor
