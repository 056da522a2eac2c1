import Derived.Test.YtmhlneeboefkgaaDoorP1
set_option linter.unusedVariables false
set_option linter.unusedSimpArgs false
namespace Go.Proofs.YtmhlneeboefkgaaDoor.Pl
open Go.Av Go.Av.Net
theorem PR.bind_ok {α β : Type} {p : PR α} {f : α → Nat → PR β} {b : β} {j : Nat} (h : p.bind f = .ok b j) : ∃ a i, p = .ok a i ∧ f a i = .ok b j := by
  cases p with
  | ok a i => exact ⟨a, i, rfl, h⟩
  | fail e k => cases h
theorem PR.asso {α β γ : Type} (x : PR α) (f : α → Nat → PR β) (g : β → Nat → PR γ) : (x.bind f).bind g = x.bind fun a i => (f a i).bind g := by cases x <;> rfl
theorem PR.bind_id {α : Type} (x : PR α) : (x.bind fun a i => .ok a i) = x := by cases x <;> rfl
theorem PR.bind_congr {α β : Type} {x : PR α} {f g : α → Nat → PR β} (h : ∀ a i, x = .ok a i → f a i = g a i) : x.bind f = x.bind g := by
  cases x with
  | ok a i => exact h a i rfl
  | fail e k => rfl
theorem expect_to {ts : List KT} {k : Int} {x : Bs} {i j : Nat} {a : Unit} (h : expectP ts k x i = .ok a j) : j = i + 1 := by
  unfold expectP wrongP at h
  cases hs : seesP ts k x i with
  | true => rw [hs] at h; simp only [cond_true, PR.ok.injEq] at h; omega
  | false => rw [hs] at h; simp only [cond_false] at h; split at h <;> cases h
theorem code_to {ts : List KT} {i j : Nat} {a : Bs} (h : codeP ts i = .ok a j) : j = i + 1 := by
  unfold codeP at h
  split at h
  · cases h
  · rename_i t _
    cases hs : ((decide (t.1 = 1) || decide (t.1 = 2)) && isCodeB t.2) <;> rw [hs] at h <;> simp only [cond_true, cond_false, PR.ok.injEq, reduceCtorEq] at h; omega
theorem Up.lt {α : Type} {m j : Nat} {p : PR α} {a : α} (h : Up m p) (hp : p = .ok a j) : m ≤ j := by rw [hp] at h; exact h
/-- What begins with a token that is asked for goes on by one at least. -/
theorem lt_expect {α : Type} {ts : List KT} {k : Int} {x : Bs} {i j : Nat} {a : α} {f : Unit → Nat → PR α} (h : (expectP ts k x i).bind f = .ok a j) (hf : ∀ a j, Up j (f a j)) : i < j := by
  obtain ⟨u, i', h1, h2⟩ := PR.bind_ok h
  have e := expect_to h1
  have := (hf u i').lt h2
  omega
def holB (l : List Int) (ts : List KT) (i : Nat) : PR (List Int) := (expectP ts 1 w_holiday i).bind fun _ i => (intP ts i).bind fun n i => (expectP ts 3 s_semi i).bind fun _ i => .ok (l ++ [n]) i
theorem par_holB (l : List Int) : Par (holB l) := (par_expect 1 w_holiday).bind fun _ => par_int.bind fun n => (par_expect 3 s_semi).bind fun _ => Par.ok _
theorem hols_lp (ts : List KT) : ∀ (f : Nat) (l : List Int) (i : Nat), lpP true 1 w_holiday holB ts f l i = (holsP ts f i).bind fun r i => .ok (l ++ r) i
  | 0, l, i => by simp [lpP, holsP, PR.bind]
  | f + 1, l, i => by
    unfold lpP holsP
    cases seesP ts 1 w_holiday i with
    | false => simp [PR.bind]
    | true =>
      simp only [beq_self_eq_true, cond_true, holB, PR.asso]
      refine PR.bind_congr fun _ i _ => PR.bind_congr fun n i _ => PR.bind_congr fun _ i _ => ?_
      simp only [PR.bind]
      rw [hols_lp ts f]
      refine PR.bind_congr fun r i _ => ?_
      simp [PR.bind]
theorem par_hols : Par (fun ts i => holsP ts ts.length i) := by
  have h := par_lp (b := true) (k := 1) (x := w_holiday) par_holB (fun s ts i s' j h => lt_expect h fun a j => (par_int.bind fun n => (par_expect 3 s_semi).bind fun _ => Par.ok (s ++ [n])).up ts j) [] (fun n => n) (by simp [ex])
  have e : (fun ts i => holsP ts ts.length i) = (fun (ts : List KT) i => lpP true 1 w_holiday holB ts ts.length [] i) := by
    funext ts i
    rw [hols_lp]
    simp [PR.bind_id]
  rw [e]; exact h
def codB (l : List Bs) (ts : List KT) (i : Nat) : PR (List Bs) := (codeP ts i).bind fun c i => .ok (l ++ [c]) i
theorem par_codB (l : List Bs) : Par (codB l) := par_code.bind fun _ => Par.ok _
theorem codes_lp (ts : List KT) : ∀ (f : Nat) (l : List Bs) (i : Nat), lpP false 3 s_semi codB ts f l i = (codesP ts f i).bind fun r i => .ok (l ++ r) i
  | 0, l, i => by simp [lpP, codesP, PR.bind]
  | f + 1, l, i => by
    unfold lpP codesP
    cases seesP ts 3 s_semi i with
    | true => simp [PR.bind]
    | false =>
      simp only [beq_self_eq_true, cond_true, cond_false, codB, PR.asso]
      refine PR.bind_congr fun c i _ => ?_
      simp only [PR.bind]
      rw [codes_lp ts f]
      refine PR.bind_congr fun r i _ => ?_
      simp [PR.bind]
theorem par_codes : Par (fun ts i => codesP ts (ts.length + 1) i) := by
  have h := par_lp (b := false) (k := 3) (x := s_semi) par_codB (fun s ts i s' j h => by obtain ⟨u, i', h1, h2⟩ := PR.bind_ok h; have := code_to h1; cases h2; omega) [] (fun n => n + 1) (by simp [ex])
  have e : (fun ts i => codesP ts (ts.length + 1) i) = (fun (ts : List KT) i => lpP false 3 s_semi codB ts (ts.length + 1) [] i) := by
    funext ts i
    rw [codes_lp]
    simp [PR.bind_id]
  rw [e]; exact h
theorem par_codesAll : Par codesAllP :=
  Par.cond ((par_expect 1 w_codes).bind fun _ => par_code.bind fun c => par_codes.bind fun l => (par_expect 3 s_semi).bind fun _ => Par.ok _) (Par.ok [])
/-! ### Things: the last token is one that is asked for -/
structure Clo {α : Type} (P : List KT → Nat → PR α) : Prop extends Par P where
  st : ∀ ts i a j, P ts i = .ok a j → i < j
  ext : ∀ ts us i a j, i ≤ ts.length → P ts i = .ok a j → P (ts ++ us) i = .ok a j
  cut : ∀ ts us i a j, i ≤ ts.length → P (ts ++ us) i = .ok a j → (j ≤ ts.length → P ts i = .ok a j) ∧ (ts.length < j → ∃ k, P ts i = .fail 91 k)
theorem Clo.at_end {α : Type} {P : List KT → Nat → PR α} (h : Clo P) (ts : List KT) : ∃ k, P ts ts.length = .fail 91 k := by
  have hb := (h.eb ts [] ts.length (Nat.le_refl _)).1
  cases q : P ts ts.length with
  | ok a j => have := h.st _ _ _ _ q; rw [q] at hb; simp only [Bd] at hb; omega
  | fail e k =>
    rw [q] at hb; simp only [Bd] at hb
    rcases hb.2 with h1 | h1
    · omega
    · exact ⟨k, by rw [h1.1]⟩
theorem Par.clo {α β : Type} {P : List KT → Nat → PR α} {f : α → List KT → Nat → PR β} (h : Par P) (hf : ∀ a, Clo (f a)) : Clo (fun ts i => (P ts i).bind fun a j => f a ts j) := by
  refine ⟨h.bind fun a => (hf a).toPar, fun ts i a j q => ?_, fun ts us i a j hi q => ?_, fun ts us i b j hi q => ?_⟩
  · obtain ⟨c, k, h1, h2⟩ := PR.bind_ok q
    have := (hf c).st _ _ _ _ h2
    have := (h.up ts i).lt h1
    omega
  · obtain ⟨c, k, h1, h2⟩ := PR.bind_ok q
    have hE := h.eb ts us i hi
    rw [h1] at hE
    obtain ⟨hb, e1, e2⟩ := hE
    simp only [Bd] at hb
    have hs := (hf c).st _ _ _ _ h2
    have hb2 := ((hf c).eb ts [] k hb.2).1
    rw [h2] at hb2
    simp only [Bd] at hb2
    rw [e1 (by omega)]
    exact (hf c).ext ts us k a j hb.2 h2
  · obtain ⟨c, k, h1, h2⟩ := PR.bind_ok q
    have hE := h.eb ts us i hi
    have hs := (hf c).st _ _ _ _ h2
    cases hp : P ts i with
    | ok a' k' =>
      rw [hp] at hE
      obtain ⟨hb, e1, e2⟩ := hE
      simp only [Bd] at hb
      by_cases c1 : k' < ts.length
      · have := e1 c1
        rw [h1] at this
        cases this
        exact (hf c).cut ts us k b j hb.2 h2
      · have : k' = ts.length := by omega
        subst this
        have := (e2 rfl).lt h1
        refine ⟨fun _ => by omega, fun _ => ?_⟩
        exact (hf a').at_end ts
    | fail e k' =>
      rw [hp] at hE
      obtain ⟨hb, e1, e2⟩ := hE
      by_cases c1 : e = 91
      · subst c1
        have := (e2 rfl).lt h1
        exact ⟨fun _ => by omega, fun _ => ⟨k', rfl⟩⟩
      · rw [e1 c1] at h1; cases h1
theorem clo_expect {α : Type} (k : Int) (x : Bs) (a : α) : Clo (fun ts i => (expectP ts k x i).bind fun _ i => .ok a i) := by
  refine ⟨(par_expect k x).bind fun _ => Par.ok a, fun ts i b j q => ?_, fun ts us i b j hi q => ?_, fun ts us i b j hi q => ?_⟩
  · obtain ⟨u, i', h1, h2⟩ := PR.bind_ok q
    have := expect_to h1; cases h2; omega
  · obtain ⟨u, i', h1, h2⟩ := PR.bind_ok q
    have hc : i < ts.length := by
      unfold expectP wrongP at h1
      cases hs : seesP ts k x i with
      | true => exact sees_lt hs
      | false => rw [hs] at h1; simp only [cond_false] at h1; split at h1 <;> cases h1
    have e : expectP (ts ++ us) k x i = expectP ts k x i := by unfold expectP wrongP; rw [sees_app hc, get_app hc]
    rw [e]; exact q
  · obtain ⟨u, i', h1, h2⟩ := PR.bind_ok q
    have := expect_to h1; cases h2
    by_cases hc : i < ts.length
    · have e : expectP (ts ++ us) k x i = expectP ts k x i := by unfold expectP wrongP; rw [sees_app hc, get_app hc]
      rw [e] at q
      exact ⟨fun _ => q, fun _ => by omega⟩
    · refine ⟨fun _ => by omega, fun _ => ⟨i, ?_⟩⟩
      unfold expectP wrongP
      rw [sees_end (by omega), List.getElem?_eq_none (by omega)]
      rfl
theorem Clo.map {α β : Type} {P : List KT → Nat → PR α} (h : Clo P) (g : α → β) : Clo (fun ts i => (P ts i).bind fun a j => .ok (g a) j) := by
  refine ⟨h.toPar.bind fun a => Par.ok _, fun ts i a j q => ?_, fun ts us i a j hi q => ?_, fun ts us i b j hi q => ?_⟩
  · obtain ⟨c, k, h1, h2⟩ := PR.bind_ok q
    cases h2; exact h.st _ _ _ _ h1
  · obtain ⟨c, k, h1, h2⟩ := PR.bind_ok q
    rw [h.ext ts us i c k hi h1]; exact h2
  · obtain ⟨c, k, h1, h2⟩ := PR.bind_ok q
    cases h2
    obtain ⟨c1, c2⟩ := h.cut ts us i c j hi h1
    refine ⟨fun hj => by rw [c1 hj]; rfl, fun hj => ?_⟩
    obtain ⟨k, hk⟩ := c2 hj
    exact ⟨k, by rw [hk]; rfl⟩
theorem clo_cal : Clo calP :=
  (par_expect 1 w_calendar).clo fun _ => par_name.clo fun name => (par_expect 3 s_lb).clo fun _ => (par_expect 1 w_zone).clo fun _ => par_int.clo fun zone => (par_expect 3 s_semi).clo fun _ =>
    (par_expect 1 w_week).clo fun _ => par_week.clo fun week => (par_expect 3 s_semi).clo fun _ => par_hols.clo fun hols => clo_expect 3 s_rb ((name, ⟨zone, week, hols⟩) : Bs × Cal)
theorem clo_oper : Clo operP := (par_expect 1 w_operator).clo fun _ => par_name.clo fun name => clo_expect 3 s_semi name
theorem clo_off (n : Nw) : Clo (fun ts i => offP ts n i) :=
  (par_expect 1 w_office).clo fun _ => par_name.clo fun name => (par_expect 3 s_lb).clo fun _ => (par_expect 1 w_operator).clo fun _ => (par_ref n.opers).clo fun oper => (par_expect 3 s_semi).clo fun _ =>
    (par_expect 1 w_calendar).clo fun _ => (par_ref n.names).clo fun cal => (par_expect 3 s_semi).clo fun _ => (par_field w_pockets).clo fun a => (par_field w_passes).clo fun b => (par_field w_minutes).clo fun c =>
    par_codesAll.clo fun codes => clo_expect 3 s_rb (⟨name, oper, cal, a, b, c, codes⟩ : Off)
theorem clo_lin (n : Nw) : Clo (fun ts i => linP ts n i) :=
  (par_expect 1 w_line).clo fun _ => par_name.clo fun name => (par_expect 3 s_colon).clo fun _ => (par_ref _).clo fun a => (par_expect 3 s_arrow).clo fun _ => (par_ref _).clo fun b =>
    (par_expect 1 w_at).clo fun _ => par_number.clo fun c => (par_expect 1 w_travel).clo fun _ => par_number.clo fun d => (par_expect 1 w_load).clo fun _ => par_number.clo fun e => clo_expect 3 s_semi (⟨name, a, b, c, d, e⟩ : Lin)
theorem clo_cls : Clo clsP :=
  (par_expect 1 w_class).clo fun _ => par_name.clo fun name => (par_expect 3 s_lb).clo fun _ => (par_field w_cut).clo fun a => (par_field w_deliver).clo fun b => clo_expect 3 s_rb (⟨name, a, b⟩ : Cls)
/-! ### Sections -/
def calS (n : Nw) (ts : List KT) (i : Nat) : PR Nw := (calP ts i).bind fun c i => .ok { n with cals := n.cals ++ [c.2], names := n.names ++ [c.1] } i
def operS (n : Nw) (ts : List KT) (i : Nat) : PR Nw := (operP ts i).bind fun c i => .ok { n with opers := n.opers ++ [c] } i
def offS (n : Nw) (ts : List KT) (i : Nat) : PR Nw := (offP ts n i).bind fun c i => .ok { n with offs := n.offs ++ [c] } i
def linS (n : Nw) (ts : List KT) (i : Nat) : PR Nw := (linP ts n i).bind fun c i => .ok { n with lins := n.lins ++ [c] } i
def clsS (n : Nw) (ts : List KT) (i : Nat) : PR Nw := (clsP ts i).bind fun c i => .ok { n with clss := n.clss ++ [c] } i
theorem clo_calS (n : Nw) : Clo (calS n) := clo_cal.map _
theorem clo_operS (n : Nw) : Clo (operS n) := clo_oper.map _
theorem clo_offS (n : Nw) : Clo (offS n) := (clo_off n).map _
theorem clo_linS (n : Nw) : Clo (linS n) := (clo_lin n).map _
theorem clo_clsS (n : Nw) : Clo (clsS n) := clo_cls.map _
theorem cals_lp (ts : List KT) : ∀ (f : Nat) (n : Nw) (i : Nat), calsP ts f n i = lpP true 1 w_calendar calS ts f n i
  | 0, n, i => rfl
  | f + 1, n, i => by
    unfold lpP calsP
    cases seesP ts 1 w_calendar i with
    | false => rfl
    | true => simp only [beq_self_eq_true, cond_true, calS, PR.asso]; exact PR.bind_congr fun c i _ => cals_lp ts f _ i
theorem opers_lp (ts : List KT) : ∀ (f : Nat) (n : Nw) (i : Nat), opersP ts f n i = lpP true 1 w_operator operS ts f n i
  | 0, n, i => rfl
  | f + 1, n, i => by
    unfold lpP opersP
    cases seesP ts 1 w_operator i with
    | false => rfl
    | true => simp only [beq_self_eq_true, cond_true, operS, PR.asso]; exact PR.bind_congr fun c i _ => opers_lp ts f _ i
theorem offs_lp (ts : List KT) : ∀ (f : Nat) (n : Nw) (i : Nat), offsP ts f n i = lpP true 1 w_office offS ts f n i
  | 0, n, i => rfl
  | f + 1, n, i => by
    unfold lpP offsP
    cases seesP ts 1 w_office i with
    | false => rfl
    | true => simp only [beq_self_eq_true, cond_true, offS, PR.asso]; exact PR.bind_congr fun c i _ => offs_lp ts f _ i
theorem lins_lp (ts : List KT) : ∀ (f : Nat) (n : Nw) (i : Nat), linsP ts f n i = lpP true 1 w_line linS ts f n i
  | 0, n, i => rfl
  | f + 1, n, i => by
    unfold lpP linsP
    cases seesP ts 1 w_line i with
    | false => rfl
    | true => simp only [beq_self_eq_true, cond_true, linS, PR.asso]; exact PR.bind_congr fun c i _ => lins_lp ts f _ i
theorem clss_lp (ts : List KT) : ∀ (f : Nat) (n : Nw) (i : Nat), clssP ts f n i = lpP true 1 w_class clsS ts f n i
  | 0, n, i => rfl
  | f + 1, n, i => by
    unfold lpP clssP
    cases seesP ts 1 w_class i with
    | false => rfl
    | true => simp only [beq_self_eq_true, cond_true, clsS, PR.asso]; exact PR.bind_congr fun c i _ => clss_lp ts f _ i
def sec (k : Bs) (B : Nw → List KT → Nat → PR Nw) (n : Nw) (ts : List KT) (i : Nat) : PR Nw := lpP true 1 k B ts ts.length n i
theorem par_sec {k : Bs} {B : Nw → List KT → Nat → PR Nw} (hB : ∀ n, Clo (B n)) (n : Nw) : Par (sec k B n) :=
  par_lp (b := true) (k := 1) (x := k) (fun s => (hB s).toPar) (fun s ts i s' j h => (hB s).st _ _ _ _ h) n (fun n => n) (by simp [ex])
def finP (n : Nw) (ts : List KT) (i : Nat) : PR Nw := bif decide (i < ts.length) then .fail 90 i else .ok n i
theorem par_fin (n : Nw) : Par (finP n) where
  up ts i := by unfold finP; cases decide (i < ts.length) <;> simp [Up]
  eb ts us i hi := by
    unfold finP
    by_cases c : i < ts.length
    · rw [decide_eq_true c, decide_eq_true (by simp; omega)]
      exact ⟨⟨Nat.le_refl _, .inl ⟨by decide, c⟩⟩, fun _ => rfl, fun h => by cases h⟩
    · have : i = ts.length := by omega
      subst this
      rw [decide_eq_false (by omega)]
      refine Eb.of_end ⟨Nat.le_refl _, Nat.le_refl _⟩ ?_
      cases decide (ts.length < (ts ++ us).length) <;> simp [Up]
  sh ts us i hi := by
    unfold finP
    rw [show decide (us.length + i < (us ++ ts).length) = decide (i < ts.length) by simp]
    cases decide (i < ts.length) <;> rfl
/-- The network that the tokens from a place on are. -/
def netQ (ts : List KT) (i : Nat) : PR Nw :=
  (sec w_calendar calS nw0 ts i).bind fun n i => (sec w_operator operS n ts i).bind fun n i => (sec w_office offS n ts i).bind fun n i => (sec w_line linS n ts i).bind fun n i => (sec w_class clsS n ts i).bind fun n i => finP n ts i
theorem netP_eq (ts : List KT) : netP ts = netQ ts 0 := by
  unfold netP netQ sec
  simp only [cals_lp, opers_lp, offs_lp, lins_lp, clss_lp]
  rfl
theorem par_net : Par netQ := (par_sec clo_calS nw0).bind fun n => (par_sec clo_operS n).bind fun n => (par_sec clo_offS n).bind fun n => (par_sec clo_linS n).bind fun n => (par_sec clo_clsS n).bind fun n => par_fin n
/-- An error that is not the end: the tokens up to it have it too, and those before it none, or the end. -/
theorem net_first {ts : List KT} {e : Int} {k : Nat} (h : netP ts = .fail e k) : (e = 91 ∧ k = ts.length) ∨ (k < ts.length ∧ e ≠ 91 ∧ netP (ts.take (k + 1)) = .fail e k ∧ ((∃ n j, netP (ts.take k) = .ok n j) ∨ ∃ j, netP (ts.take k) = .fail 91 j)) := by
  rw [netP_eq] at h
  have hb := (par_net.eb ts [] 0 (Nat.zero_le _)).1
  rw [h] at hb
  simp only [Bd] at hb
  rcases hb.2 with ⟨h1, h2⟩ | h1
  · refine .inr ⟨h2, h1, ?_, ?_⟩
    · have hE := par_net.eb (ts.take (k + 1)) (ts.drop (k + 1)) 0 (Nat.zero_le _)
      rw [List.take_append_drop, h] at hE
      rw [netP_eq]
      obtain ⟨hbd, hE⟩ := hE
      cases q : netQ (ts.take (k + 1)) 0 with
      | ok n j =>
        rw [q] at hE hbd
        simp only [Bd, List.length_take] at hbd
        simp only [List.length_take] at hE
        by_cases c : j < min (k + 1) ts.length
        · have := hE.1 c; cases this
        · have := hE.2 (by omega); simp only [Up] at this; omega
      | fail e' j =>
        rw [q] at hE hbd
        simp only [List.length_take] at hE
        by_cases c : e' = 91
        · have := hE.2 c; simp only [Up] at this; omega
        · have := hE.1 c; cases this; rfl
    · have hE := par_net.eb (ts.take k) (ts.drop k) 0 (Nat.zero_le _)
      rw [List.take_append_drop, h] at hE
      rw [netP_eq]
      obtain ⟨hbd, hE⟩ := hE
      cases q : netQ (ts.take k) 0 with
      | ok n j => exact .inl ⟨n, j, rfl⟩
      | fail e' j =>
        rw [q] at hE hbd
        by_cases c : e' = 91
        · exact .inr ⟨j, by rw [c]⟩
        · have := hE.1 c
          cases this
          simp only [Bd, List.length_take] at hbd
          omega
  · exact .inl h1
end Go.Proofs.YtmhlneeboefkgaaDoor.Pl
