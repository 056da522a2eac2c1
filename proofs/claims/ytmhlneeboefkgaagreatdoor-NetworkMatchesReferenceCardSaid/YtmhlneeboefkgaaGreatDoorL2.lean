import Derived.Test.YtmhlneeboefkgaaGreatDoorL1
import Derived.Test.YtmhlneeboefkgaaGreatDoorN13
set_option linter.unusedVariables false
set_option linter.unusedSimpArgs false
namespace Go.Proofs.YtmhlneeboefkgaaGreatDoor
open Go.Av Go.Av.Net
/-! ### What a parser yields, and its errors -/
def Post {α : Type} (p : PR α) (Q : α → Prop) : Prop := match p with | .ok a _ => Q a | .fail e _ => e = 90 ∨ e = 91 ∨ e = 110
theorem Post.bind {α β : Type} {p : PR α} {f : α → Nat → PR β} {Q : α → Prop} {R : β → Prop} (h : Post p Q) (hf : ∀ a i, Q a → Post (f a i) R) : Post (p.bind f) R := by
 cases p with
 | ok a i => exact hf a i h
 | fail e i => exact h
theorem Post.mono {α : Type} {p : PR α} {Q R : α → Prop} (h : Post p Q) (hf : ∀ a, Q a → R a) : Post p R := by
 cases p with
 | ok a i => exact hf a h
 | fail e i => exact h
theorem mem_all {α : Type} {Q : α → Prop} {x : α} {l : List α} (hx : Q x) (hl : ∀ y ∈ l, Q y) : ∀ y ∈ x :: l, Q y := by
 intro y hy
 rcases List.mem_cons.1 hy with rfl | hy
 ·exact hx
 ·exact hl y hy
structure CalOK (c : Cal) : Prop where
 week : c.week.length = 7
structure OffOK (no nc : Nat) (o : Off) : Prop where
 name : isNameB o.name = true
 oper : o.oper < no
 cal : o.cal < nc
 nums : 0 ≤ o.pockets ∧ 0 ≤ o.passes ∧ 0 ≤ o.minutes
 codes : ∀ c ∈ o.codes, isCodeB c = true
structure LinOK (no : Nat) (l : Lin) : Prop where
 name : isNameB l.name = true
 from_ : l.from_ < no
 to_ : l.to_ < no
 nums : 0 ≤ l.at_ ∧ 0 ≤ l.travel ∧ 0 ≤ l.load
structure ClsOK (c : Cls) : Prop where
 name : isNameB c.name = true
 nums : 0 ≤ c.cut ∧ 0 ≤ c.deliver
structure NwOK (n : Nw) : Prop where
 cals : ∀ c ∈ n.cals, CalOK c
 names : n.names.length = n.cals.length ∧ ∀ x ∈ n.names, isNameB x = true
 opers : ∀ x ∈ n.opers, isNameB x = true
 offs : ∀ o ∈ n.offs, OffOK n.opers.length n.names.length o
 lins : ∀ l ∈ n.lins, LinOK n.offs.length l
 clss : ∀ c ∈ n.clss, ClsOK c
section
variable {l : List Tok} (hts : TsOK l)
theorem post_wrong {α : Type} {Q : α → Prop} (i : Nat) : Post (wrongP (kts l) i : PR α) Q := by
 unfold wrongP; split <;> simp [Post]
theorem post_expect (k : Int) (x : Bs) (i : Nat) : Post (expectP (kts l) k x i) (fun _ => True) := by
 unfold expectP; cases seesP (kts l) k x i with
 | true => trivial
 | false => exact post_wrong i
theorem post_name (i : Nat) : Post (nameP (kts l) i) (fun x => isNameB x = true) := by
 unfold nameP; split
 ·simp [Post]
 ·rename_i t _
  cases h : (decide (t.1 = 1) && isNameB t.2) with
  | true => simp only [cond_true, Post]; simp at h; exact h.2
  | false => simp [Post]
theorem post_code (i : Nat) : Post (codeP (kts l) i) (fun x => isCodeB x = true) := by
 unfold codeP; split
 ·simp [Post]
 ·rename_i t _
  cases h : ((decide (t.1 = 1) || decide (t.1 = 2)) && isCodeB t.2) with
  | true => simp only [cond_true, Post]; simp at h; exact h.2
  | false => simp [Post]
theorem post_week (i : Nat) : Post (weekP (kts l) i) (fun x => x.length = 7) := by
 unfold weekP; split
 ·simp [Post]
 ·rename_i t _
  cases h : (decide (t.1 = 2) && isWeekB t.2) with
  | true => simp only [cond_true, Post]; simp [isWeekB] at h; simp [h.2.1]
  | false => simp [Post]
include hts in
theorem post_number (i : Nat) : Post (numberP (kts l) i) (fun x => 0 ≤ x ∧ x < 100000000) := by
 cases h : numberP (kts l) i with
 | ok x j => exact number_range hts h
 | fail e k =>
  unfold numberP at h
  split at h
  ·cases h; simp [Post]
  ·rename_i t _
   cases hh : decide (t.1 = 2) with
   | true => rw [hh] at h; cases h
   | false => rw [hh] at h; cases h; simp [Post]
include hts in
theorem post_int (i : Nat) : Post (intP (kts l) i) (fun x => -100000000 < x ∧ x < 100000000) := by
 unfold intP
 cases seesP (kts l) 3 s_minus i with
 | true => exact (post_number hts (i + 1)).bind fun a j h => (by simp only [Post]; omega)
 | false => exact (post_number hts i).mono fun a h => by omega
include hts in
theorem post_field (w : Bs) (i : Nat) : Post (fieldP (kts l) w i) (fun x => 0 ≤ x ∧ x < 100000000) := by
 unfold fieldP
 exact (post_expect 1 w i).bind fun _ i _ => (post_number hts i).bind fun x i hx => (post_expect 3 s_semi i).bind fun _ i _ => hx
theorem idx_lt {x : Bs} : ∀ {l : List Bs} {k : Nat}, idxOf x l = some k → k < l.length
 | [], k, h => by cases h
 | y :: r, k, h => by
  unfold idxOf at h
  by_cases e : y = x
  ·simp [e] at h; simp; omega
  ·simp [e] at h
   obtain ⟨b, hb, rfl⟩ := h
   have := idx_lt hb
   simp; omega
theorem post_ref (names : List Bs) (i : Nat) : Post (refP (kts l) names i) (fun k => k < names.length) := by
 unfold refP
 refine (post_name i).bind fun x i _ => ?_
 split
 ·rename_i k hk; exact idx_lt hk
 ·simp [Post]
include hts in
theorem post_hols : ∀ (f i : Nat), Post (holsP (kts l) f i) (fun l => ∀ x ∈ l, -100000000 < x ∧ x < 100000000)
 | 0, i => by simp [holsP, Post]
 | f + 1, i => by
  unfold holsP
  cases seesP (kts l) 1 w_holiday i with
  | true => exact (post_expect 1 w_holiday i).bind fun _ i _ => (post_int hts i).bind fun x i hx => (post_expect 3 s_semi i).bind fun _ i _ => (post_hols f i).bind fun l i hl => mem_all hx hl
  | false => simp [Post]
include hts in
theorem post_cal (i : Nat) : Post (calP (kts l) i) (fun c => isNameB c.1 = true ∧ CalOK c.2) := by
 unfold calP
 exact (post_expect 1 w_calendar i).bind fun _ i _ => (post_name i).bind fun name i hn => (post_expect 3 s_lb i).bind fun _ i _ => (post_expect 1 w_zone i).bind fun _ i _ => (post_int hts i).bind fun zone i _ => (post_expect 3 s_semi i).bind fun _ i _ =>
  (post_expect 1 w_week i).bind fun _ i _ => (post_week i).bind fun week i hw => (post_expect 3 s_semi i).bind fun _ i _ => (post_hols hts _ i).bind fun hols i _ => (post_expect 3 s_rb i).bind fun _ i _ => ⟨hn, ⟨hw⟩⟩
theorem post_oper (i : Nat) : Post (operP (kts l) i) (fun x => isNameB x = true) := by
 unfold operP
 exact (post_expect 1 w_operator i).bind fun _ i _ => (post_name i).bind fun name i hn => (post_expect 3 s_semi i).bind fun _ i _ => hn
theorem post_codes : ∀ (f i : Nat), Post (codesP (kts l) f i) (fun l => ∀ c ∈ l, isCodeB c = true)
 | 0, i => by simp [codesP, Post]
 | f + 1, i => by
  unfold codesP
  cases seesP (kts l) 3 s_semi i with
  | true => simp [Post]
  | false => exact (post_code i).bind fun x i hx => (post_codes f i).bind fun l i hl => mem_all hx hl
theorem post_codesAll (i : Nat) : Post (codesAllP (kts l) i) (fun l => ∀ c ∈ l, isCodeB c = true) := by
 unfold codesAllP
 cases seesP (kts l) 1 w_codes i with
 | true => exact (post_expect 1 w_codes i).bind fun _ i _ => (post_code i).bind fun c i hc => (post_codes _ i).bind fun l i hl => (post_expect 3 s_semi i).bind fun _ i _ => mem_all hc hl
 | false => simp [Post]
include hts in
theorem post_off (n : Nw) (i : Nat) : Post (offP (kts l) n i) (OffOK n.opers.length n.names.length) := by
 unfold offP
 exact (post_expect 1 w_office i).bind fun _ i _ => (post_name i).bind fun name i h1 => (post_expect 3 s_lb i).bind fun _ i _ => (post_expect 1 w_operator i).bind fun _ i _ => (post_ref n.opers i).bind fun oper i h2 => (post_expect 3 s_semi i).bind fun _ i _ =>
  (post_expect 1 w_calendar i).bind fun _ i _ => (post_ref n.names i).bind fun cal i h3 => (post_expect 3 s_semi i).bind fun _ i _ => (post_field hts w_pockets i).bind fun a i h4 => (post_field hts w_passes i).bind fun b i h5 => (post_field hts w_minutes i).bind fun c i h6 =>
  (post_codesAll i).bind fun codes i h7 => (post_expect 3 s_rb i).bind fun _ i _ => ⟨h1, h2, h3, ⟨h4.1, h5.1, h6.1⟩, h7⟩
include hts in
theorem post_lin (n : Nw) (i : Nat) : Post (linP (kts l) n i) (LinOK n.offs.length) := by
 unfold linP
 exact (post_expect 1 w_line i).bind fun _ i _ => (post_name i).bind fun name i h1 => (post_expect 3 s_colon i).bind fun _ i _ => (post_ref _ i).bind fun a i h2 => (post_expect 3 s_arrow i).bind fun _ i _ => (post_ref _ i).bind fun b i h3 =>
  (post_expect 1 w_at i).bind fun _ i _ => (post_number hts i).bind fun c i h4 => (post_expect 1 w_travel i).bind fun _ i _ => (post_number hts i).bind fun d i h5 => (post_expect 1 w_load i).bind fun _ i _ => (post_number hts i).bind fun e i h6 => (post_expect 3 s_semi i).bind fun _ i _ =>
  ⟨h1, by simpa using h2, by simpa using h3, ⟨h4.1, h5.1, h6.1⟩⟩
include hts in
theorem post_cls (i : Nat) : Post (clsP (kts l) i) ClsOK := by
 unfold clsP
 exact (post_expect 1 w_class i).bind fun _ i _ => (post_name i).bind fun name i h1 => (post_expect 3 s_lb i).bind fun _ i _ => (post_field hts w_cut i).bind fun a i h2 => (post_field hts w_deliver i).bind fun b i h3 => (post_expect 3 s_rb i).bind fun _ i _ => ⟨h1, h2.1, h3.1⟩
include hts in
theorem post_cals : ∀ (f : Nat) (n : Nw) (i : Nat), NwOK n → n.offs = [] → Post (calsP (kts l) f n i) (fun n' => NwOK n' ∧ n'.opers = n.opers ∧ n'.offs = [] ∧ n'.lins = n.lins ∧ n'.clss = n.clss)
 | 0, n, i, hn, h => by simp [calsP, Post, hn, h]
 | f + 1, n, i, hn, h => by
  unfold calsP
  cases seesP (kts l) 1 w_calendar i with
  | true =>
   refine (post_cal hts i).bind fun c i hc => (post_cals f _ i ⟨?_, ⟨by simp [hn.names.1], ?_⟩, hn.opers, by simp [h], hn.lins, hn.clss⟩ h)
   ·intro x hx
    simp only [List.mem_append, List.mem_singleton] at hx
    rcases hx with hx | rfl
    ·exact hn.cals x hx
    ·exact hc.2
   ·intro x hx
    simp only [List.mem_append, List.mem_singleton] at hx
    rcases hx with hx | rfl
    ·exact hn.names.2 x hx
    ·exact hc.1
  | false => simp [Post, hn, h]
theorem post_opers : ∀ (f : Nat) (n : Nw) (i : Nat), NwOK n → n.offs = [] → Post (opersP (kts l) f n i) (fun n' => NwOK n' ∧ n'.cals = n.cals ∧ n'.names = n.names ∧ n'.offs = [] ∧ n'.lins = n.lins ∧ n'.clss = n.clss)
 | 0, n, i, hn, h => by simp [opersP, Post, hn, h]
 | f + 1, n, i, hn, h => by
  unfold opersP
  cases seesP (kts l) 1 w_operator i with
  | true =>
   refine (post_oper i).bind fun c i hc => (post_opers f _ i ⟨hn.cals, hn.names, ?_, by simp [h], hn.lins, hn.clss⟩ h)
   intro x hx
   simp only [List.mem_append, List.mem_singleton] at hx
   rcases hx with hx | rfl
   ·exact hn.opers x hx
   ·exact hc
  | false => simp [Post, hn, h]
include hts in
theorem post_offs : ∀ (f : Nat) (n : Nw) (i : Nat), NwOK n → n.lins = [] → Post (offsP (kts l) f n i) (fun n' => NwOK n' ∧ n'.cals = n.cals ∧ n'.names = n.names ∧ n'.opers = n.opers ∧ n'.lins = [] ∧ n'.clss = n.clss)
 | 0, n, i, hn, h => by simp [offsP, Post, hn, h]
 | f + 1, n, i, hn, h => by
  unfold offsP
  cases seesP (kts l) 1 w_office i with
  | true =>
   refine (post_off hts n i).bind fun c i hc => (post_offs f _ i ⟨hn.cals, hn.names, hn.opers, ?_, by simp [h], hn.clss⟩ h)
   intro x hx
   simp only [List.mem_append, List.mem_singleton] at hx
   rcases hx with hx | rfl
   ·exact hn.offs x hx
   ·exact hc
  | false => simp [Post, hn, h]
include hts in
theorem post_lins : ∀ (f : Nat) (n : Nw) (i : Nat), NwOK n → Post (linsP (kts l) f n i) (fun n' => NwOK n' ∧ n'.cals = n.cals ∧ n'.names = n.names ∧ n'.opers = n.opers ∧ n'.offs = n.offs ∧ n'.clss = n.clss)
 | 0, n, i, hn => by simp [linsP, Post, hn]
 | f + 1, n, i, hn => by
  unfold linsP
  cases seesP (kts l) 1 w_line i with
  | true =>
   refine (post_lin hts n i).bind fun c i hc => (post_lins f _ i ⟨hn.cals, hn.names, hn.opers, hn.offs, ?_, hn.clss⟩)
   intro x hx
   simp only [List.mem_append, List.mem_singleton] at hx
   rcases hx with hx | rfl
   ·exact hn.lins x hx
   ·exact hc
  | false => simp [Post, hn]
include hts in
theorem post_clss : ∀ (f : Nat) (n : Nw) (i : Nat), NwOK n → Post (clssP (kts l) f n i) (fun n' => NwOK n' ∧ n'.cals = n.cals ∧ n'.names = n.names ∧ n'.opers = n.opers ∧ n'.offs = n.offs ∧ n'.lins = n.lins)
 | 0, n, i, hn => by simp [clssP, Post, hn]
 | f + 1, n, i, hn => by
  unfold clssP
  cases seesP (kts l) 1 w_class i with
  | true =>
   refine (post_cls hts i).bind fun c i hc => (post_clss f _ i ⟨hn.cals, hn.names, hn.opers, hn.offs, hn.lins, ?_⟩)
   intro x hx
   simp only [List.mem_append, List.mem_singleton] at hx
   rcases hx with hx | rfl
   ·exact hn.clss x hx
   ·exact hc
  | false => simp [Post, hn]
theorem nw0_ok : NwOK nw0 := by constructor <;> simp [nw0]
include hts in
theorem post_net : Post (netP (kts l)) NwOK := by
 unfold netP
 refine (post_cals hts _ _ 0 nw0_ok rfl).bind fun n1 i h1 => (post_opers _ _ i h1.1 h1.2.2.1).bind fun n2 i h2 => (post_offs hts _ _ i h2.1 (by rw [h2.2.2.2.2.1, h1.2.2.2.1]; rfl)).bind fun n3 i h3 => (post_lins hts _ _ i h3.1).bind fun n4 i h4 => (post_clss hts _ _ i h4.1).bind fun n5 i h5 => ?_
 cases decide (i < (kts l).length) with
 | true => simp [Post]
 | false => exact h5.1
end
/-- A text that is parsed: a network as it should be; otherwise an error at a place of the text. -/
theorem parse_post (s : Bs) : match parseP s with | .ok n => NwOK n ∧ s.length ≤ 8000 | .err e p => p ≤ s.length ∧ (e = 90 ∨ e = 91 ∨ e = 110 ∨ e = 2 ∨ e = 30) := by
 unfold parseP
 cases h : lexP s with
 | err e p => obtain ⟨h1, h2⟩ := lexP_err h; exact ⟨h1, by rcases h2 with rfl | rfl <;> simp⟩
 | ok l =>
  obtain ⟨h1, h2, h3⟩ := lexP_ok h
  have := post_net h1
  simp only
  cases hn : netP (kts l) with
  | ok n i => rw [hn] at this; exact ⟨this, h2⟩
  | fail e i =>
   rw [hn] at this
   refine ⟨?_, by rcases this with rfl | rfl | rfl <;> simp⟩
   unfold offs
   split
   ·rename_i t ht
    have := h3 t (List.mem_of_getElem? ht)
    omega
   ·omega
end Go.Proofs.YtmhlneeboefkgaaGreatDoor
