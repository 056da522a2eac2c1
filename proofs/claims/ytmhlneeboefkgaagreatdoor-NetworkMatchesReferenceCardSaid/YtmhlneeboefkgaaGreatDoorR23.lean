import Derived.Test.YtmhlneeboefkgaaGreatDoorR22
set_option linter.unusedVariables false
set_option linter.unusedSimpArgs false
namespace Go.Proofs.YtmhlneeboefkgaaGreatDoor
open Go.Av Go.Av.Net Pl
/-- The reader never goes back, and keeps to the tokens. -/
def RG {α : Type} (ts : List Tok) (m : RM α) : Prop := ∀ r : Rs, r.at_ ≤ ts.length → r.at_ ≤ (m r).2.at_ ∧ (m r).2.at_ ≤ ts.length
section
variable {ts : List Tok}
theorem RG.bind {α β : Type} {m : RM α} {g : α → RM β} (h : RG ts m) (hg : ∀ a, RG ts (g a)) : RG ts (m.bind g) := fun r hr => by
 obtain ⟨h1, h2⟩ := h r hr
 obtain ⟨h3, h4⟩ := hg (m r).1 (m r).2 h2
 exact ⟨Nat.le_trans h1 h3, h4⟩
theorem RG.ret {α : Type} (a : α) : RG ts (RM.ret a) := fun r hr => ⟨Nat.le_refl _, hr⟩
theorem g_item {α : Type} (z : α) (g : Tok → Option α) : RG ts (itemR ts z g) := fun r hr => ⟨mo_item z g r, at_item z g r hr⟩
theorem g_exp (k : Int) (x : Bs) : RG ts (expR ts k x) := fun r hr => ⟨mo_exp k x r, at_exp k x r hr⟩
theorem g_name : RG ts (nameR ts) := g_item _ _
theorem g_number : RG ts (numberR ts) := g_item _ _
theorem g_week : RG ts (weekR ts) := g_item _ _
theorem g_code : RG ts (codeR ts) := g_item _ _
theorem g_signed : RG ts (signedR ts) := fun r hr => ⟨mo_signed r, at_signed r hr⟩
theorem g_after (w : Bs) : RG ts (afterR ts w) := (g_exp _ _).bind fun _ => g_number.bind fun n => (g_exp _ _).bind fun _ => RG.ret n
theorem g_ref (names : List Bs) : RG ts (refR ts names) := fun r hr => by
 obtain ⟨h1, h2⟩ := g_name (ts := ts) r hr
 refine ⟨?_, ref_at hr⟩
 unfold refR
 cases decide ((nameR ts r).2.err = 0) with
 | false => exact h1
 | true =>
  simp only [cond_true]
  split <;> exact h1
theorem on_good {k : Int} {x : Bs} {r : Rs} (h : seesR ts k x r = true) : r.on.at_ = r.at_ + 1 ∧ r.on.at_ ≤ ts.length := ⟨rfl, on_at h⟩
theorem g_hols : ∀ (f : Nat) (l : List Int), RG ts (holsR ts f l)
 | 0, l => RG.ret l
 | f + 1, l => fun r hr => by
  rw [holsR_succ]
  cases hs : seesR ts 1 w_holiday r with
  | false => exact ⟨Nat.le_refl _, hr⟩
  | true =>
   obtain ⟨h1, h2⟩ := on_good hs
   obtain ⟨h3, h4⟩ := (g_signed.bind fun n => (g_exp (ts := ts) 3 s_semi).bind fun _ => g_hols f (l ++ [n])) r.on h2
   exact ⟨by simp only [cond_true]; omega, h4⟩
theorem g_codes : ∀ (f : Nat) (l : List Bs), RG ts (codesR ts f l)
 | 0, l => RG.ret l
 | f + 1, l => fun r hr => by
  rw [codesR_succ]
  cases (decide (r.err = 0) && !seesR ts 3 s_semi r) with
  | false => exact ⟨Nat.le_refl _, hr⟩
  | true => exact (g_code.bind fun c => g_codes f (l ++ c)) r hr
theorem g_codesAll : RG ts (codesAllR ts) := fun r hr => by
 unfold codesAllR
 cases hs : seesR ts 1 w_codes r with
 | false => exact ⟨Nat.le_refl _, hr⟩
 | true =>
  obtain ⟨h1, h2⟩ := on_good hs
  obtain ⟨h3, h4⟩ := (g_code.bind fun c => (g_codes (ts.length + 1) c).bind fun l => (g_exp (ts := ts) 3 s_semi).bind fun _ => RG.ret l) r.on h2
  exact ⟨by simp only [cond_true]; omega, h4⟩
/-- A section's item passes over its key word. -/
theorem adv {α : Type} {k : Int} {x : Bs} {m : Unit → RM α} {r : Rs} (hs : seesR ts k x r = true) (h : ∀ u, RG ts (m u)) : r.at_ + 1 ≤ (((expR ts k x).bind m) r).2.at_ ∧ (((expR ts k x).bind m) r).2.at_ ≤ ts.length := by
 obtain ⟨h1, h2⟩ := on_good hs
 have e : ((expR ts k x).bind m) r = m () r.on := RM.bind_eq (by unfold expR; rw [hs]; rfl)
 rw [e]
 obtain ⟨h3, h4⟩ := h () r.on h2
 exact ⟨by omega, h4⟩
theorem adv_cal {r : Rs} (hs : seesR ts 1 w_calendar r = true) : r.at_ + 1 ≤ (calR ts r).2.at_ ∧ (calR ts r).2.at_ ≤ ts.length :=
 adv hs fun _ => g_name.bind fun name => (g_exp _ _).bind fun _ => (g_exp _ _).bind fun _ => g_signed.bind fun zone => (g_exp _ _).bind fun _ =>
  (g_exp _ _).bind fun _ => g_week.bind fun week => (g_exp _ _).bind fun _ => (g_hols _ _).bind fun hols => (g_exp _ _).bind fun _ => RG.ret _
theorem adv_off (n : Nw) {r : Rs} (hs : seesR ts 1 w_office r = true) : r.at_ + 1 ≤ (offR ts n r).2.at_ ∧ (offR ts n r).2.at_ ≤ ts.length :=
 adv hs fun _ => g_name.bind fun name => (g_exp _ _).bind fun _ => (g_exp _ _).bind fun _ => (g_ref _).bind fun oper => (g_exp _ _).bind fun _ =>
  (g_exp _ _).bind fun _ => (g_ref _).bind fun cal => (g_exp _ _).bind fun _ => (g_after _).bind fun a => (g_after _).bind fun b => (g_after _).bind fun c =>
  g_codesAll.bind fun codes => (g_exp _ _).bind fun _ => RG.ret _
theorem adv_lin (n : Nw) {r : Rs} (hs : seesR ts 1 w_line r = true) : r.at_ + 1 ≤ (linR ts n r).2.at_ ∧ (linR ts n r).2.at_ ≤ ts.length :=
 adv hs fun _ => g_name.bind fun name => (g_exp _ _).bind fun _ => (g_ref _).bind fun a => (g_exp _ _).bind fun _ => (g_ref _).bind fun b =>
  (g_exp _ _).bind fun _ => g_number.bind fun c => (g_exp _ _).bind fun _ => g_number.bind fun d => (g_exp _ _).bind fun _ => g_number.bind fun e => (g_exp _ _).bind fun _ => RG.ret _
theorem adv_cls {r : Rs} (hs : seesR ts 1 w_class r = true) : r.at_ + 1 ≤ (clsR ts r).2.at_ ∧ (clsR ts r).2.at_ ≤ ts.length :=
 adv hs fun _ => g_name.bind fun name => (g_exp _ _).bind fun _ => (g_after _).bind fun a => (g_after _).bind fun b => (g_exp _ _).bind fun _ => RG.ret _
theorem adv_oper {r : Rs} (hs : seesR ts 1 w_operator r = true) : r.at_ + 1 ≤ (operR ts r).2.at_ ∧ (operR ts r).2.at_ ≤ ts.length := by
 obtain ⟨h1, h2⟩ := on_good hs
 obtain ⟨h3, h4⟩ := (g_name.bind fun name => (g_exp (ts := ts) 3 s_semi).bind fun _ => RG.ret name) r.on h2
 exact ⟨by show _ ≤ (((nameR ts).bind fun name => (expR ts 3 s_semi).bind fun _ => RM.ret name) r.on).2.at_; omega, h4⟩
theorem secR_succ (key : Bs) (step : Nw → RM Nw) (f : Nat) (n : Nw) (r : Rs) : secR ts key step (f + 1) n r = bif seesR ts 1 key r then ((step n).bind fun n => secR ts key step f n) r else (n, r) := rfl
theorem secR_no {key : Bs} {step : Nw → RM Nw} {f : Nat} {n : Nw} {r : Rs} (h : seesR ts 1 key r = false) : secR ts key step f n r = (n, r) := by
 cases f with
 | zero => rfl
 | succ f => rw [secR_succ, h]; rfl
theorem secR_yes {key : Bs} {step : Nw → RM Nw} {f : Nat} {n n' : Nw} {r r' : Rs} {β : Type} {R : Nw → RM β} (h : seesR ts 1 key r = true) (hn : step n r = (n', r')) : ((secR ts key step (f + 1) n).bind R) r = ((secR ts key step f n').bind R) r' := by
 unfold RM.bind; rw [secR_succ, h]; simp only [cond_true]; rw [RM.bind_eq hn]
end
end Go.Proofs.YtmhlneeboefkgaaGreatDoor
