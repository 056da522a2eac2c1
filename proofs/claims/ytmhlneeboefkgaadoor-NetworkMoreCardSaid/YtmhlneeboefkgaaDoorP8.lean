import Derived.Test.YtmhlneeboefkgaaDoorPa
set_option linter.unusedVariables false
set_option linter.unusedSimpArgs false
namespace Go.Proofs.YtmhlneeboefkgaaDoor.Pl
open Go.Av Go.Av.Net
/-! ### Other names -/
def _root_.Go.Av.Net.PR.mp {α β : Type} (φ : α → β) : PR α → PR β
  | .ok a i => .ok (φ a) i
  | .fail e i => .fail e i
theorem mp_bind {α β γ δ : Type} {φ : α → γ} {ψ : β → δ} {p : PR α} {f : α → Nat → PR β} {g : γ → Nat → PR δ} (h : ∀ a i, g (φ a) i = (f a i).mp ψ) : (p.mp φ).bind g = (p.bind f).mp ψ := by
  cases p with
  | ok a i => exact h a i
  | fail e i => rfl
theorem mp_id {α : Type} (p : PR α) : p.mp id = p := by cases p <;> rfl
def zz (x : Bs) : Bs := 122 :: x
def ren (t : KT) : KT := bif decide (t.1 = 1) && isNameB t.2 then (1, zz t.2) else t
def renN (n : Nw) : Nw := ⟨n.cals, n.names.map zz, n.opers.map zz, n.offs.map fun o => { o with name := zz o.name }, n.lins.map fun l => { l with name := zz l.name }, n.clss.map fun c => { c with name := zz c.name }⟩
theorem name_nkey {x : Bs} (h : isNameB x = true) : ∀ y ∈ keyWords, x ≠ y := by
  intro y hy e
  unfold isNameB at h
  simp only [Bool.and_eq_true, Bool.not_eq_true'] at h
  have h5 := h.2
  have : keyWords.any (fun z => decide (x = z)) = true := List.any_eq_true.2 ⟨y, hy, by simp [e]⟩
  rw [this] at h5; cases h5
theorem name_ncode {x : Bs} (h : isNameB x = true) : isCodeB x = false := by
  unfold isNameB at h
  simp only [Bool.and_eq_true, decide_eq_true_eq] at h
  obtain ⟨⟨⟨⟨h1, h2⟩, h3⟩, h4⟩, h5⟩ := h
  cases x with
  | nil => simp at h1
  | cons b x =>
    have h3 : 97 ≤ b.toNat ∧ b.toNat ≤ 122 := by simpa [smallB] using h3
    rw [Bool.eq_false_iff]
    intro q
    simp only [isCodeB, List.all_cons, Bool.and_eq_true, Bool.or_eq_true, decide_eq_true_eq, digB] at q
    omega
theorem idx_zz (x : Bs) : ∀ l : List Bs, idxOf (zz x) (l.map zz) = idxOf x l
  | [] => rfl
  | y :: r => by
    simp only [List.map_cons, idxOf, idx_zz x r]
    have : decide (zz y = zz x) = decide (y = x) := by
      rw [decide_eq_decide]; unfold zz; simp
    rw [this]
section
variable {ts : List KT} (H : ∀ t ∈ ts, t.1 = 1 → isNameB t.2 = true → isNameB (zz t.2) = true)
theorem get_ren (i : Nat) : (ts.map ren)[i]? = (ts[i]?).map ren := by simp
def KW (k : Int) (x : Bs) : Prop := k ≠ 1 ∨ x ∈ keyWords
include H in
theorem sees_ren {k : Int} {x : Bs} (hk : KW k x) (i : Nat) : seesP (ts.map ren) k x i = seesP ts k x i := by
  unfold seesP
  rw [get_ren]
  cases h : ts[i]? with
  | none => rfl
  | some t =>
    have ht := List.mem_of_getElem? h
    simp only [Option.map_some, ren]
    cases q : (decide (t.1 = 1) && isNameB t.2) with
    | false => rfl
    | true =>
      simp only [Bool.and_eq_true, decide_eq_true_eq] at q
      simp only [cond_true, q.1]
      have n1 := name_nkey q.2
      have n2 := name_nkey (H t ht q.1 q.2)
      rcases hk with hk | hk
      · rw [decide_eq_false (show ¬ (1 : Int) = k from fun e => hk e.symm)]; rfl
      · rw [decide_eq_false (n1 x hk), decide_eq_false (n2 x hk)]
include H in
theorem expect_ren {k : Int} {x : Bs} (hk : KW k x) (i : Nat) : expectP (ts.map ren) k x i = (expectP ts k x i).mp id := by
  rw [mp_id]
  unfold expectP wrongP
  rw [sees_ren H hk, get_ren]
  cases ts[i]? <;> rfl
include H in
theorem name_ren (i : Nat) : nameP (ts.map ren) i = (nameP ts i).mp zz := by
  unfold nameP
  rw [get_ren]
  cases h : ts[i]? with
  | none => rfl
  | some t =>
    have ht := List.mem_of_getElem? h
    simp only [Option.map_some, ren]
    cases q : (decide (t.1 = 1) && isNameB t.2) with
    | false => simp only [cond_false, q]; rfl
    | true =>
      simp only [Bool.and_eq_true, decide_eq_true_eq] at q
      simp only [cond_true, H t ht q.1 q.2, decide_true, Bool.true_and]; rfl
theorem ren_fst (t : KT) : (ren t).1 = t.1 := by
  unfold ren
  cases q : (decide (t.1 = 1) && isNameB t.2) with
  | false => rfl
  | true => simp at q; simp [q.1]
theorem ren_ne {t : KT} (h : t.1 ≠ 1) : ren t = t := by unfold ren; rw [decide_eq_false h]; rfl
theorem number_ren (i : Nat) : numberP (ts.map ren) i = (numberP ts i).mp id := by
  rw [mp_id]
  unfold numberP
  rw [get_ren]
  cases h : ts[i]? with
  | none => rfl
  | some t =>
    simp only [Option.map_some]
    by_cases c : t.1 = 2
    · rw [ren_ne (by rw [c]; decide)]
    · rw [ren_fst, decide_eq_false c]; rfl
theorem week_ren (i : Nat) : weekP (ts.map ren) i = (weekP ts i).mp id := by
  rw [mp_id]
  unfold weekP
  rw [get_ren]
  cases h : ts[i]? with
  | none => rfl
  | some t =>
    simp only [Option.map_some]
    by_cases c : t.1 = 2
    · rw [ren_ne (by rw [c]; decide)]
    · rw [ren_fst, decide_eq_false c]; rfl
include H in
theorem code_ren (i : Nat) : codeP (ts.map ren) i = (codeP ts i).mp id := by
  rw [mp_id]
  unfold codeP
  rw [get_ren]
  cases h : ts[i]? with
  | none => rfl
  | some t =>
    have ht := List.mem_of_getElem? h
    simp only [Option.map_some, ren]
    cases q : (decide (t.1 = 1) && isNameB t.2) with
    | false => rfl
    | true =>
      simp only [Bool.and_eq_true, decide_eq_true_eq] at q
      simp only [cond_true, name_ncode (H t ht q.1 q.2), name_ncode q.2, Bool.and_false, cond_false]
include H in
theorem int_ren (i : Nat) : intP (ts.map ren) i = (intP ts i).mp id := by
  unfold intP
  rw [sees_ren H (.inl (by decide))]
  cases seesP ts 3 s_minus i with
  | false => exact number_ren i
  | true => simp only [cond_true, number_ren]; exact mp_bind fun a i => rfl
include H in
theorem field_ren {w : Bs} (hw : w ∈ keyWords) (i : Nat) : fieldP (ts.map ren) w i = (fieldP ts w i).mp id := by
  unfold fieldP
  simp only [expect_ren H (.inr hw), expect_ren H (k := 3) (x := s_semi) (.inl (by decide)), number_ren]
  exact mp_bind fun _ i => mp_bind fun n i => mp_bind fun _ i => rfl
include H in
theorem ref_ren (names : List Bs) (i : Nat) : refP (ts.map ren) (names.map zz) i = (refP ts names i).mp id := by
  unfold refP
  rw [name_ren H]
  refine mp_bind fun x i => ?_
  rw [idx_zz]
  cases idxOf x names <;> rfl
include H in
theorem hols_ren : ∀ (f i : Nat), holsP (ts.map ren) f i = (holsP ts f i).mp id
  | 0, i => rfl
  | f + 1, i => by
    unfold holsP
    rw [sees_ren H (.inr (by decide))]
    cases seesP ts 1 w_holiday i with
    | false => rfl
    | true =>
      simp only [cond_true, expect_ren H (k := 1) (x := w_holiday) (.inr (by decide)), expect_ren H (k := 3) (x := s_semi) (.inl (by decide)), int_ren H, hols_ren f]
      exact mp_bind fun _ i => mp_bind fun n i => mp_bind fun _ i => mp_bind fun l i => rfl
include H in
theorem codes_ren : ∀ (f i : Nat), codesP (ts.map ren) f i = (codesP ts f i).mp id
  | 0, i => rfl
  | f + 1, i => by
    unfold codesP
    rw [sees_ren H (.inl (by decide))]
    cases seesP ts 3 s_semi i with
    | true => rfl
    | false =>
      simp only [cond_false, code_ren H, codes_ren f]
      exact mp_bind fun c i => mp_bind fun l i => rfl
include H in
theorem codesAll_ren (i : Nat) : codesAllP (ts.map ren) i = (codesAllP ts i).mp id := by
  unfold codesAllP
  rw [sees_ren H (.inr (by decide)), List.length_map]
  cases seesP ts 1 w_codes i with
  | false => rfl
  | true =>
    simp only [cond_true, expect_ren H (k := 1) (x := w_codes) (.inr (by decide)), expect_ren H (k := 3) (x := s_semi) (.inl (by decide)), code_ren H, codes_ren H]
    exact mp_bind fun _ i => mp_bind fun c i => mp_bind fun l i => mp_bind fun _ i => rfl
include H in
theorem cal_ren (i : Nat) : calP (ts.map ren) i = (calP ts i).mp fun c => (zz c.1, c.2) := by
  unfold calP
  simp only [expect_ren H (k := 1) (x := w_calendar) (.inr (by decide)), expect_ren H (k := 1) (x := w_zone) (.inr (by decide)), expect_ren H (k := 1) (x := w_week) (.inr (by decide)), expect_ren H (k := 3) (x := s_semi) (.inl (by decide)), expect_ren H (k := 3) (x := s_lb) (.inl (by decide)), expect_ren H (k := 3) (x := s_rb) (.inl (by decide)), name_ren H, int_ren H, week_ren, hols_ren H, List.length_map]
  exact mp_bind fun _ i => mp_bind fun n i => mp_bind fun _ i => mp_bind fun _ i => mp_bind fun z i => mp_bind fun _ i => mp_bind fun _ i => mp_bind fun w i => mp_bind fun _ i => mp_bind fun h i => mp_bind fun _ i => rfl
include H in
theorem oper_ren (i : Nat) : operP (ts.map ren) i = (operP ts i).mp zz := by
  unfold operP
  simp only [expect_ren H (k := 1) (x := w_operator) (.inr (by decide)), expect_ren H (k := 3) (x := s_semi) (.inl (by decide)), name_ren H]
  exact mp_bind fun _ i => mp_bind fun n i => mp_bind fun _ i => rfl
include H in
theorem off_ren (n : Nw) (i : Nat) : offP (ts.map ren) (renN n) i = (offP ts n i).mp fun o => { o with name := zz o.name } := by
  unfold offP
  simp only [expect_ren H (k := 1) (x := w_office) (.inr (by decide)), expect_ren H (k := 1) (x := w_operator) (.inr (by decide)), expect_ren H (k := 1) (x := w_calendar) (.inr (by decide)), expect_ren H (k := 3) (x := s_semi) (.inl (by decide)), expect_ren H (k := 3) (x := s_lb) (.inl (by decide)), expect_ren H (k := 3) (x := s_rb) (.inl (by decide)), name_ren H, renN, ref_ren H, field_ren H (w := w_pockets) (by decide), field_ren H (w := w_passes) (by decide), field_ren H (w := w_minutes) (by decide), codesAll_ren H]
  exact mp_bind fun _ i => mp_bind fun n i => mp_bind fun _ i => mp_bind fun _ i => mp_bind fun z i => mp_bind fun _ i => mp_bind fun _ i => mp_bind fun w i => mp_bind fun _ i => mp_bind fun h i => mp_bind fun _ i => mp_bind fun _ i => mp_bind fun _ i => mp_bind fun _ i => rfl
theorem offs_zz (n : Nw) : (renN n).offs.map (·.name) = (n.offs.map (·.name)).map zz := by simp [renN, Function.comp_def]
include H in
theorem lin_ren (n : Nw) (i : Nat) : linP (ts.map ren) (renN n) i = (linP ts n i).mp fun l => { l with name := zz l.name } := by
  unfold linP
  simp only [expect_ren H (k := 1) (x := w_line) (.inr (by decide)), expect_ren H (k := 1) (x := w_at) (.inr (by decide)), expect_ren H (k := 1) (x := w_travel) (.inr (by decide)), expect_ren H (k := 1) (x := w_load) (.inr (by decide)), expect_ren H (k := 3) (x := s_semi) (.inl (by decide)), expect_ren H (k := 3) (x := s_colon) (.inl (by decide)), expect_ren H (k := 3) (x := s_arrow) (.inl (by decide)), name_ren H, offs_zz, ref_ren H, number_ren]
  exact mp_bind fun _ i => mp_bind fun n i => mp_bind fun _ i => mp_bind fun _ i => mp_bind fun z i => mp_bind fun _ i => mp_bind fun _ i => mp_bind fun w i => mp_bind fun _ i => mp_bind fun h i => mp_bind fun _ i => mp_bind fun _ i => mp_bind fun _ i => rfl
include H in
theorem cls_ren (i : Nat) : clsP (ts.map ren) i = (clsP ts i).mp fun c => { c with name := zz c.name } := by
  unfold clsP
  simp only [expect_ren H (k := 1) (x := w_class) (.inr (by decide)), expect_ren H (k := 3) (x := s_lb) (.inl (by decide)), expect_ren H (k := 3) (x := s_rb) (.inl (by decide)), name_ren H, field_ren H (w := w_cut) (by decide), field_ren H (w := w_deliver) (by decide)]
  exact mp_bind fun _ i => mp_bind fun n i => mp_bind fun _ i => mp_bind fun _ i => mp_bind fun z i => mp_bind fun _ i => rfl
include H in
theorem lp_ren {k : Bs} (hk : k ∈ keyWords) {B : Nw → List KT → Nat → PR Nw} (hB : ∀ n i, B (renN n) (ts.map ren) i = (B n ts i).mp renN) : ∀ (f : Nat) (n : Nw) (i : Nat), lpP true 1 k B (ts.map ren) f (renN n) i = (lpP true 1 k B ts f n i).mp renN
  | 0, n, i => rfl
  | f + 1, n, i => by
    unfold lpP
    rw [sees_ren H (.inr hk), hB]
    cases seesP ts 1 k i with
    | false => rfl
    | true => exact mp_bind fun a i => lp_ren hk hB f a i
include H in
theorem net_ren : netP (ts.map ren) = (netP ts).mp renN := by
  rw [netP_eq, netP_eq]
  unfold netQ sec
  simp only [List.length_map]
  have e0 : nw0 = renN nw0 := rfl
  rw [e0]
  rw [lp_ren H (k := w_calendar) (by decide) (B := calS) (fun n i => by unfold calS; rw [cal_ren H]; exact mp_bind fun a i => by simp [PR.mp, renN])]
  refine mp_bind fun n i => ?_
  rw [lp_ren H (k := w_operator) (by decide) (B := operS) (fun n i => by unfold operS; rw [oper_ren H]; exact mp_bind fun a i => by simp [PR.mp, renN])]
  refine mp_bind fun n i => ?_
  rw [lp_ren H (k := w_office) (by decide) (B := offS) (fun n i => by unfold offS; rw [off_ren H]; exact mp_bind fun a i => by simp [PR.mp, renN])]
  refine mp_bind fun n i => ?_
  rw [lp_ren H (k := w_line) (by decide) (B := linS) (fun n i => by unfold linS; rw [lin_ren H]; exact mp_bind fun a i => by simp [PR.mp, renN])]
  refine mp_bind fun n i => ?_
  rw [lp_ren H (k := w_class) (by decide) (B := clsS) (fun n i => by unfold clsS; rw [cls_ren H]; exact mp_bind fun a i => by simp [PR.mp, renN])]
  refine mp_bind fun n i => ?_
  unfold finP
  rw [List.length_map]
  cases decide (i < ts.length) <;> rfl
end
/-- Tokens with a blank behind each. -/
def spc : List KT → Bs
  | [] => []
  | t :: r => srcT t.1 t.2 ++ 32 :: spc r
theorem gap32 : GapOK [32] := ⟨fun x => by simp [gap, blankB]; omega, fun c hc => by cases hc; decide, by simp⟩
theorem spc_lex : ∀ (xs : List KT) (p : Nat), (∀ t ∈ xs, Good t.1 t.2) → ∃ l, LexR (spc xs) p l ∧ kts l = xs
  | [], p, _ => ⟨[], .nil rfl, rfl⟩
  | t :: r, p, h => by
    obtain ⟨l, h1, h2⟩ := spc_lex r (p + (srcT t.1 t.2).length + 1) fun x hx => h x (List.mem_cons_of_mem _ hx)
    refine ⟨⟨t.1, t.2, p⟩ :: l, ?_, by simp only [kts, List.map_cons] at h2 ⊢; rw [h2]⟩
    refine LexR.tok (h t (List.mem_cons_self ..)) (fun c hc => by cases hc; decide) ?_
    exact LexR.gapped (G := [32]) gap32 h1
theorem kts_good {s : Bs} {p : Nat} {l : List Tok} (h : LexR s p l) : ∀ t ∈ kts l, Good t.1 t.2 := by
  intro t ht
  obtain ⟨x, hx, rfl⟩ := List.mem_map.1 ht
  exact (h.pos.1 x hx).2.2
/-- The text with the letter z in front of each name, and blanks for the gaps. -/
theorem names_parse {s : Bs} {l : List Tok} {n : Nw} (hl : lexP s = .ok l) (hn : parseP s = .ok n) (H : ∀ t ∈ l, t.kind = 1 → isNameB t.text = true → isNameB (zz t.text) = true) (hlen : (spc ((kts l).map ren)).length ≤ 8000) : parseP (spc ((kts l).map ren)) = .ok (renN n) := by
  obtain ⟨h1, h2, h3⟩ := lexP_iff.1 hl
  have HK : ∀ t ∈ kts l, t.1 = 1 → isNameB t.2 = true → isNameB (zz t.2) = true := by
    intro t ht
    obtain ⟨x, hx, rfl⟩ := List.mem_map.1 ht
    exact H x hx
  obtain ⟨l2, q1, q2⟩ := spc_lex ((kts l).map ren) 0 fun t ht => by
    obtain ⟨x, hx, rfl⟩ := List.mem_map.1 ht
    have hg := kts_good h3 x hx
    unfold ren
    cases q : (decide (x.1 = 1) && isNameB x.2) with
    | false => exact hg
    | true =>
      simp only [Bool.and_eq_true, decide_eq_true_eq] at q
      exact good_name (HK x hx q.1 q.2)
  have e : lexP (spc ((kts l).map ren)) = .ok l2 := lexP_iff.2 ⟨hlen, by have := congrArg List.length q2; simp [kts] at this; omega, q1⟩
  unfold parseP at hn ⊢
  rw [hl] at hn
  rw [e]
  simp only at hn ⊢
  rw [q2, net_ren HK]
  cases hq : netP (kts l) with
  | fail e i => rw [hq] at hn; cases hn
  | ok m i => rw [hq] at hn; cases hn; rfl
end Go.Proofs.YtmhlneeboefkgaaDoor.Pl
