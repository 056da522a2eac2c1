import Derived.Test.YtkmhjamdgncpoaaDoorKd
import Derived.RecoverIn
set_option linter.unusedSimpArgs false
set_option linter.unusedVariables false
set_option linter.unusedSectionVars false
namespace Go.Av
open Go.RowKit (Below)
/-- The same, a nil slice seen as one without elements. -/
def nle0 : AV → AV → Prop
  | .raw (.slice none 0 0), .sl _ [] => True
  | x, y => x = y
def nles0 : List AV → List AV → Prop
  | [], [] => True
  | x :: xs, y :: ys => nle0 x y ∧ nles0 xs ys
  | _, _ => False
def nle : AV → AV → Prop
  | .agg cs, .agg ds => nles0 cs ds
  | x, y => nle0 x y
def nles : List AV → List AV → Prop
  | [], [] => True
  | x :: xs, y :: ys => nle x y ∧ nles xs ys
  | _, _ => False
section
variable {C : CellSet} {w : World} {mu : Mu}
theorem nle0_rep (x y : AV) {v : Value} (h : nle0 x y) (hr : Rep C w x mu v) : Rep C w y mu v := by
  unfold nle0 at h
  split at h
  · unfold Rep at hr ⊢
    exact .inl ⟨⟨none, hr⟩, rfl⟩
  · subst h; exact hr
theorem nles0_rep : ∀ (xs ys : List AV) {vs : List Value}, nles0 xs ys → Reps C w xs mu vs → Reps C w ys mu vs
  | [], [], vs, _, hr => hr
  | x :: xs, y :: ys, vs, h, hr => by
    unfold Reps at hr ⊢
    obtain ⟨v, vs', h1, h2, h3⟩ := hr
    exact ⟨v, vs', h1, nle0_rep x y h.1 h2, nles0_rep xs ys h.2 h3⟩
  | [], _ :: _, _, h, _ => h.elim
  | _ :: _, [], _, h, _ => h.elim
theorem nle_rep (x y : AV) {v : Value} (h : nle x y) (hr : Rep C w x mu v) : Rep C w y mu v := by
  unfold nle at h
  split at h
  · unfold Rep at hr ⊢
    obtain ⟨vs, h1, h2⟩ := hr
    exact ⟨vs, h1, nles0_rep _ _ h h2⟩
  · exact nle0_rep _ _ h hr
theorem nles_rep : ∀ (xs ys : List AV) {vs : List Value}, nles xs ys → Reps C w xs mu vs → Reps C w ys mu vs
  | [], [], vs, _, hr => hr
  | x :: xs, y :: ys, vs, h, hr => by
    unfold Reps at hr ⊢
    obtain ⟨v, vs', h1, h2, h3⟩ := hr
    exact ⟨v, vs', h1, nle_rep x y h.1 h2, nles_rep xs ys h.2 h3⟩
  | [], _ :: _, _, h, _ => h.elim
  | _ :: _, [], _, h, _ => h.elim
end
/-- A call, its arguments seen otherwise. -/
theorem ACall.args {P : Program} {f : FuncId} {args args' : List AV} {E : List AV} {H : List HO} {K : AV → KK} {X : XX} (hl : nles args args') (h : ACall P f args' E H K X) : ACall P f args E H K X :=
  ⟨h.good, fun G C mu a w vs hP hst hr => h.out G C mu a w vs hP hst (nles_rep _ _ hl hr)⟩
end Go.Av

set_option linter.unusedSimpArgs false
set_option linter.unusedVariables false
set_option linter.unusedSectionVars false
namespace Go.Av
/-- The fields of a value of a struct type. -/
def TydF (P : Program) (m : Nat) : List TypeId → List (List AV) → Prop
  | [], [] => True
  | t :: ts, p :: ps => Tyd P m t p ∧ TydF P m ts ps
  | _, _ => False
section
variable {P : Program}
theorem tydF_of {m : Nat} : ∀ (fs : List Field) (parts : List (List AV)), parts.length = fs.length → (∀ (i : Nat) f p, fs[i]? = some f → parts[i]? = some p → Tyd P m f.type p) → TydF P m (fs.map (·.type)) parts
  | [], [], _, _ => trivial
  | f :: fs, p :: ps, hl, h => ⟨h 0 f p rfl rfl, tydF_of fs ps (by simpa using hl) fun i f p h1 h2 => h (i + 1) f p (by simpa using h1) (by simpa using h2)⟩
  | [], _ :: _, hl, _ => by simp at hl
  | _ :: _, [], hl, _ => by simp at hl
theorem tyd_fields {t : TypeId} {fs : Array Field} {ts : List TypeId} {m : Nat} {cs : List AV} (hu : P.underlying t = some (.struct fs)) (hts : fs.toList.map (·.type) = ts) (h : Tyd P (m + 1) t cs) :
    ∃ parts, cs = parts.flatten ∧ TydF P m ts parts := by
  unfold Tyd at h
  rw [hu] at h
  obtain ⟨parts, h1, h2, h3⟩ := h
  refine ⟨parts, h1, ?_⟩
  rw [← hts]
  exact tydF_of fs.toList parts (by simpa using h2) fun i f p e1 e2 => h3 i f p (by simpa using e1) e2
theorem tyd_struct {t : TypeId} {fs : Array Field} {ts : List TypeId} {m : Nat} {x : AV} (hu : P.underlying t = some (.struct fs)) (hts : fs.toList.map (·.type) = ts) (h : TydV P (m + 1) t x) :
    ∃ parts, x = .agg parts.flatten ∧ TydF P m ts parts := by
  obtain ⟨c, rfl⟩ := h.2.1 (by simp [isAggB, hu])
  obtain ⟨parts, h1, h2⟩ := tyd_fields hu hts h.1
  exact ⟨parts, by rw [← h1]; rfl, h2⟩
theorem tydF_cons {m : Nat} {t : TypeId} {ts : List TypeId} {ps : List (List AV)} (h : TydF P m (t :: ts) ps) : ∃ p r, ps = p :: r ∧ Tyd P m t p ∧ TydF P m ts r := by
  cases ps with
  | nil => exact h.elim
  | cons p r => exact ⟨p, r, rfl, h.1, h.2⟩
theorem tydF_nil {m : Nat} {ps : List (List AV)} (h : TydF P m [] ps) : ps = [] := by
  cases ps with
  | nil => rfl
  | cons p r => exact h.elim
theorem cell_int {t : TypeId} {k : IntKind} {m : Nat} {p : List AV} (hu : P.underlying t = some (.int k)) (h : Tyd P (m + 1) t p) : ∃ n, p = [.int k n] ∧ inK k n := by
  unfold Tyd at h; rw [hu] at h; exact h
theorem cell_bool {t : TypeId} {m : Nat} {p : List AV} (hu : P.underlying t = some .bool) (h : Tyd P (m + 1) t p) : ∃ b, p = [.bool b] := by
  unfold Tyd at h; rw [hu] at h; exact h
theorem cell_str {t : TypeId} {m : Nat} {p : List AV} (hu : P.underlying t = some .string) (h : Tyd P (m + 1) t p) : ∃ l, p = [.str l] ∧ l.length ≤ reachBytes := by
  unfold Tyd at h; rw [hu] at h; exact h
theorem cell_slice {t e : TypeId} {m : Nat} {p : List AV} (hu : P.underlying t = some (.slice e)) (h : Tyd P (m + 1) t p) : ∃ es : List AV, p = [.sl (P.cellsOf e) es] ∧ es.length ≤ maxLen ∧ ∀ y ∈ es, TydV P m e y := by
  unfold Tyd at h; rw [hu] at h; exact h
theorem cell_ints {t e : TypeId} {k : IntKind} {m : Nat} {p : List AV} (hu : P.underlying t = some (.slice e)) (he : P.underlying e = some (.int k)) (hc : P.cellsOf e = 1) (h : Tyd P (m + 2) t p) :
    ∃ l : List Int, p = [.sl 1 (l.map (.int k))] ∧ l.length ≤ maxLen ∧ ∀ n ∈ l, inK k n := by
  obtain ⟨es, rfl, h1, h2⟩ := cell_slice hu h
  obtain ⟨l, rfl, h3⟩ := list_form (f := AV.int k) (p := inK k) fun y hy => tyd_int he (h2 y hy)
  exact ⟨l, by rw [hc], by simpa using h1, h3⟩
theorem cell_strs {t e : TypeId} {m : Nat} {p : List AV} (hu : P.underlying t = some (.slice e)) (he : P.underlying e = some .string) (hc : P.cellsOf e = 1) (h : Tyd P (m + 2) t p) :
    ∃ l : List (List UInt8), p = [.sl 1 (l.map .str)] ∧ l.length ≤ maxLen ∧ ∀ s ∈ l, s.length ≤ reachBytes := by
  obtain ⟨es, rfl, h1, h2⟩ := cell_slice hu h
  obtain ⟨l, rfl, h3⟩ := list_form (f := AV.str) (p := fun s => s.length ≤ reachBytes) fun y hy => tyd_str he (h2 y hy)
  exact ⟨l, by rw [hc], by simpa using h1, h3⟩
end
end Go.Av

/-
  AV: functions that are deferred and recover.
-/
set_option linter.unusedSimpArgs false
set_option linter.unusedVariables false
namespace Go.Av
open Go.RowKit (Below)

/-- Operations that give a value or nothing: no calls. -/
def quietOp : Op → Bool
  | .move _ | .assign _ | .build _ _ | .load _ _ | .store _ _ _ | .field _ _ _ | .fieldAddr _ _ _ | .extract _ _ | .typeAssert _ _ _ _ | .unOp _ _ _ | .binOp _ _ _ _ _ | .convert _ _ _ | .makeInterface _ _ | .alloc _ | .box _ _ => true
  | _ => false
section
variable {G : Cx} {C C' : CellSet} {w w' : World} {mu : Mu} {H : List HO} {E : List AV} {a : Act} {T : List TY} {P : Program}

theorem quiet_ok {ρ : Operand → Value} {o : Oper} (hq : quietOp o.op = true) {r : Next} (h : (execOp ρ o).run P w = .ok r w') : (∃ v, r = .value v) ∨ r = .skip := by
  have hv : ∀ s : Sem Value, (do pure (Next.value (← s)) : Sem Next).run P w = .ok r w' → ∃ v, r = .value v := fun s h => by
    rw [Sem.run_bind] at h
    cases hs : s.run P w with
    | ok v w2 =>
      rw [hs] at h
      simp only [Result.andThen_ok, Sem.run_pure, Result.ok.injEq] at h
      exact ⟨v, h.1.symm⟩
    | halt e w2 => rw [hs] at h; cases h
  have hu : ∀ s : Sem Unit, (do s; pure Next.skip : Sem Next).run P w = .ok r w' → r = .skip := fun s h => by
    rw [Sem.run_bind] at h
    cases hs : s.run P w with
    | ok v w2 =>
      rw [hs] at h
      simp only [Result.andThen_ok, Sem.run_pure, Result.ok.injEq] at h
      exact h.1.symm
    | halt e w2 => rw [hs] at h; cases h
  unfold execOp at h
  cases ho : o.op <;> rw [ho] at h hq <;> first
    | (simp [quietOp] at hq; done)
    | exact .inl (hv _ h)
    | exact .inr (hu _ h)
    | (simp only [Sem.run_pure, Result.ok.injEq] at h; exact .inl ⟨_, h.1.symm⟩)

theorem quiet_mono {n : Nat} {o : Oper} (hq : quietOp o.op = true) {next next' : Act → World → Prop} {Q Q' : Exit → Act → World → Prop} (hn : ∀ a' w', next a' w' → a'.defers = a.defers → next' a' w')
    (hQ : ∀ e a' w', Q e a' w' → a'.defers = a.defers → Q' e a' w') (h : o.wpIn (fw none) n P a w next Q) : o.wpIn (fw none) n P a w next' Q' := by
  refine ⟨h.1, ?_⟩
  have h2 := h.2
  rw [show (fw none).round = none from rfl, Oper.semAt_none] at h2 ⊢
  cases hr : (execOp a.eval o).run P w with
  | ok r w' =>
    rw [hr] at h2
    rcases quiet_ok hq hr with ⟨v, rfl⟩ | rfl
    · exact hn _ _ h2 (put_defers _ _ _)
    · exact hn _ _ h2 (put_defers _ _ _)
  | halt e w' =>
    rw [hr] at h2
    cases e with
    | panic v => exact hQ _ _ _ h2 rfl
    | _ => exact h2

theorem wpList_keep {n : Nat} {ops : Array Oper} {Q : Exit → Act → World → Prop} {d : List Deferred} : ∀ (l : List Oper) {a : Act} {w : World}, (l.all fun o => quietOp o.op) = true → a.defers = d → wpListIn (fw none) n P ops Q l a w → wpListIn (fw none) n P ops (fun e a w => Q e a w ∧ a.defers = d) l a w
  | [], a, w, _, hd, h => ⟨h, hd⟩
  | o :: l, a, w, hq, hd, h => by
    simp only [List.all_cons, Bool.and_eq_true] at hq
    unfold wpListIn at h ⊢
    split at h
    · rename_i hw
      rw [if_pos hw]
      exact quiet_mono hq.1 (fun a' w' k e => wpList_keep l hq.2 (e.trans hd) k) (fun e a' w' k e' => ⟨k, e'.trans hd⟩) h
    · rename_i hw
      rw [if_neg hw]
      exact ⟨h.1, wpList_keep l hq.2 ((put_defers _ _ _).trans hd) h.2⟩

theorem wpAny_keep {n : Nat} {ops : Array Oper} {Q : Exit → Act → World → Prop} {d : List Deferred} (hq : (ops.toList.all fun o => quietOp o.op) = true) : ∀ (fuel : Nat) (listed : Array Bool) {a : Act} {w : World}, a.defers = d → wpAnyIn (fw none) n P .any ops Q fuel listed a w →
    wpAnyIn (fw none) n P .any ops (fun e a w => Q e a w ∧ a.defers = d) fuel listed a w
  | 0, listed, a, w, hd, h => ⟨h.1, h.2, hd⟩
  | fuel + 1, listed, a, w, hd, h => by
    refine ⟨fun hr => ⟨h.1 hr, hd⟩, fun i hi => ?_⟩
    have h := h.2 i hi
    unfold wpOpIn at h ⊢
    cases ho : ops[i]? with
    | none =>
      rw [ho] at h
      exact wpAny_keep hq fuel _ hd h
    | some o =>
      rw [ho] at h
      simp only at h ⊢
      have hqo : quietOp o.op = true := List.all_eq_true.1 hq o (by
        have : o ∈ ops := Array.mem_of_getElem? ho
        simpa using this)
      split at h
      · rename_i hw
        rw [if_pos hw]
        exact quiet_mono hqo (fun a' w' k e => wpAny_keep hq fuel _ (e.trans hd) k) (fun e a' w' k e' => ⟨k, e'.trans hd⟩) h
      · rename_i hw
        rw [if_neg hw]
        exact ⟨h.1, wpAny_keep hq fuel _ ((put_defers _ _ _).trans hd) h.2⟩

/-- Code that leaves the deferred calls alone. -/
structure KCode (P : Program) (c : Code) (E : List AV) (H : List HO) (K : KK) (X : XX) : Prop where
  out : ∀ (n : Nat) (G : Cx) (a : Act) (w : World) (d : List Deferred), G.P = P → G.rd = none → St G E H a w → a.defers = d → c.wpIn (fw none) n P (fun e a' w' => QOf G K X e a' w' ∧ a'.defers = d) a w
def sdK (P : Program) (T : List TY) : Code → List AV → List HO → KK → XX → Prop
  | .skip, E, H, K, _ => K E H
  | .region id ops draw, E, H, K, X => match draw with
    | false => (match ops.toList.all (fun o => quietOp o.op) with | true => regK P T ops.toList ops.toList E H K X | false => False)
    | true => KCode P (.region id ops true) E H K X
  | .seq a b, E, H, K, X => sdK P T a E H (fun E H => sdK P T b E H K X) X
  | .cond c a b, E, H, K, X => evK E c fun v => match v with
    | .lit t => (match t with | true => sdK P T a E H K X | false => sdK P T b E H K X)
    | .bool t => (t = true → sdK P T a E H K X) ∧ (t = false → sdK P T b E H K X)
    | _ => False
  | .ret, E, H, _, X => X .ret E H
  | c, E, H, K, X => KCode P c E H K X

theorem sd_sound (hT : TOk P T) : ∀ (c : Code) {E : List AV} {H : List HO} {K : KK} {X : XX}, sdK P T c E H K X → KCode P c E H K X
  | .skip, E, H, K, X, h => ⟨fun n G a w d hP hrd hst hd => wpIn_skip ⟨⟨E, H, h, hst⟩, hd⟩⟩
  | .region id ops draw, E, H, K, X, h => by
    unfold sdK at h
    cases draw with
    | false =>
      refine ⟨fun n G a w d hP hrd hst hd => ?_⟩
      obtain ⟨C, mu, hst⟩ := hst
      subst hP
      simp only at h
      split at h
      · rename_i hq
        exact wpIn_region_list (wpList_keep _ hq hd (reg_sound hT _ h hst))
      · exact h.elim
    | true => exact h
  | .seq x y, E, H, K, X, h => ⟨fun n G a w d hP hrd hst hd => by
    unfold sdK at h
    refine wpIn_seq (wpIn_mono ((sd_sound hT x h).out n G a w d hP hrd hst hd) fun e a w q => ?_)
    cases e with
    | normal => obtain ⟨⟨E', H', h1, h2⟩, hd⟩ := q; exact (sd_sound hT y h1).out n G a w d hP hrd h2 hd
    | _ => exact q⟩
  | .cond c x y, E, H, K, X, h => ⟨fun n G a w d hP hrd hst hd => by
    unfold sdK at h
    rw [evK_iff] at h
    have hst0 := hst
    obtain ⟨C, mu, hst'⟩ := hst0
    have hr := rep_ev hst'.env c
    split at h
    · rename_i t hb
      rw [hb] at hr
      have hv := rep_lit_inv hr
      cases t with
      | true => exact wpIn_cond_true hv ((sd_sound hT x h).out n G a w d hP hrd hst hd)
      | false => exact wpIn_cond_false hv ((sd_sound hT y h).out n G a w d hP hrd hst hd)
    · rename_i t hb
      rw [hb] at hr
      have hv := rep_bool_inv hr
      exact wpIn_cond_split hv (fun ht => (sd_sound hT x (h.1 ht)).out n G a w d hP hrd hst hd) (fun ht => (sd_sound hT y (h.2 ht)).out n G a w d hP hrd hst hd)
    · exact h.elim⟩
  | .ret, E, H, K, X, h => ⟨fun n G a w d hP hrd hst hd => wpIn_ret ⟨⟨E, H, h, hst⟩, hd⟩⟩
  | .block _ _, _, _, _, _, h => h
  | .exit _, _, _, _, _, h => h
  | .loop b, _, _, _, _, h => h
  | .rangeFunc _ _ _ _, _, _, _, _, h => h
  | .scope _, _, _, _, _, h => h
  | .label _, _, _, _, _, h => h
  | .goto _, _, _, _, _, h => h
  | .refuse _, _, _, _, _, h => h

theorem KCode.drawI {id : Nat} {ops : Array Oper} {K : KK} {X : XX} (im we : List Nat) (hT : TOk P T) (hm : P.follows .mixedOrders = true) (hq : (ops.toList.all fun o => quietOp o.op) = true) (hB : drawB ops we = true)
    (h : rdK P T ops.toList H.length we 0 ops.toList E (H ++ pads im ops.size) K X) : KCode P (.region id ops true) E H K X := by
  refine ⟨fun n G a w d hP hrd hst hd => ?_⟩
  subst hP
  obtain ⟨C, mu, hst⟩ := hst
  have hst' : StC G C mu E H a w.drew := hst.drew
  have hs2 := hst'.pad im ops.size
  have h1 := anyD_lex (ops := ops) (n0 := H.length) (we := we) (K := K) (X := X) hT ops.toList 0 (Array.replicate ops.size false) E _ (by simp) (by simpa [drawB] using hB) h
  refine wpIn_region_any hm ?_
  have h2 := anyD_sound (r := none) (n := n) hT _ _ _ _ a _ h1 ⟨C, mu, hs2⟩
  exact wpAny_keep hq _ _ hd (by simpa using h2)

/-! ### The operations before the first branch: recover among them -/
/-- What recover finds. -/
def RecOK (C : CellSet) (w : World) (mu : Mu) (u : FrameMode) (rv : Option AV) : Prop :=
  match rv with
  | none => u = .returning
  | some x => ∃ v, u = .panicking [{ v, recovered := false }] ∧ Rep C w x mu v
def recV (rv : Option AV) : AV := match rv with | none => .raw .nilIface | some x => x
def taK (T : List TY) (x : AV) (t : TypeId) (K : AV → Prop) : Prop :=
  lkK T t fun y => match y.k with
    | .struct _ => (match x with
      | .iface t' v => (match Nat.beq t' t with | true => K (.tuple [v, .lit true]) | false => False)
      | .raw .nilIface => (match Nat.beq y.zero.length y.size && Nat.ble 2 y.size with | true => K (.tuple [.agg y.zero, .lit false]) | false => False)
      | _ => False)
    | _ => False
def isRec (o : Op) : Bool := match o with
  | .call c => (match c.callee with | .builtin .recover => (match c.args.toList with | [] => true | _ => false) | _ => false)
  | _ => false
/-- The operations behind recover. -/
def recRK (P : Program) (T : List TY) (ops : List Oper) : List Oper → List AV → List HO → KK → Prop
  | [], E, H, K => K E H
  | o :: r, E, H, K => gdK ops E o.guard
      (fun E => match o.op with
        | .typeAssert x _ t true => evK E x fun v => taK T v t fun v => updOK E o.dst v fun E => recRK P T ops r E H K
        | op => (match quietOp op with
          | true => opK none P T E H op (fun v E' H' => updOK E' o.dst v fun E => recRK P T ops r E H' K) (fun _ _ _ => False)
          | false => False))
      (fun E => updOK E o.dst (.raw undef) fun E => recRK P T ops r E H K)
/-- The region: recover comes first. -/
def recK (P : Program) (T : List TY) (ops : List Oper) (rv : AV) (E : List AV) (H : List HO) (K : KK) : Prop :=
  match ops with
  | o :: r => (isRec o.op = true ∧ o.guard = none) ∧ updOK E o.dst rv fun E => recRK P T ops r E H K
  | [] => False

theorem ta_sound (hT : TOk G.P T) {x : AV} {v : Value} (hx : Rep C w x mu v) {xt t : TypeId} {K : AV → Prop} (h : taK T x t K) :
    ∃ r u, K r ∧ Rep C w r mu u ∧ (Instr.typeAssert v xt t true).run G.P w = .ok u w := by
  unfold taK at h
  replace h := (lkK_iff _ _ _).1 h; obtain ⟨y, hy, h⟩ := h
  obtain ⟨i, d, hi, hd, he⟩ := hT.facts hy
  split at h
  · rename_i fs hk
    have hst : ∃ fs, d = .struct fs := by
      rw [he] at hk
      simp only at hk
      cases d <;> first | exact ⟨_, rfl⟩ | (simp [kindOf] at hk; done)
    obtain ⟨fs', rfl⟩ := hst
    split at h
    · rename_i t' av
      split at h
      · rename_i hb
        obtain rfl := Nat.eq_of_beq_eq_true hb
        unfold Rep at hx
        obtain ⟨q, rfl, hq⟩ := hx
        refine ⟨_, .tuple #[q, .bool true], h, by unfold Rep; exact ⟨[q, .bool true], rfl, by simp [Reps, hq, Rep]⟩, ?_⟩
        simp [Instr.typeAssert, underlying, hd]
      · exact h.elim
    · unfold Rep at hx
      subst hx
      split at h
      · rename_i hb
        simp only [Bool.and_eq_true] at hb
        have hb2 : 2 ≤ y.size := Nat.le_of_ble_eq_true hb.2
        obtain ⟨z, hz, hzr⟩ := zero_reps (C := C) (mu := mu) (w := w) hT hy (Nat.eq_of_beq_eq_true hb.1) (by omega)
        have hzl := reps_len _ hzr
        have hag : ∃ cs, z = .agg cs := by
          cases z with
          | agg cs => exact ⟨cs, rfl⟩
          | _ =>
            exfalso
            have := Nat.eq_of_beq_eq_true hb.1
            simp [Value.cells] at hzl
            omega
        obtain ⟨cs, rfl⟩ := hag
        refine ⟨_, .tuple #[.agg cs, .bool false], h, by unfold Rep; exact ⟨[.agg cs, .bool false], rfl, by simp only [Reps, Rep]; exact ⟨_, _, rfl, ⟨cs.toList, by simp, hzr⟩, _, _, rfl, rfl, rfl⟩⟩, ?_⟩
        simp [Instr.typeAssert, underlying, hd, hz]
      · exact h.elim
    · exact h.elim
  · exact h.elim

theorem rec_call {o : Oper} (h : isRec o.op = true) (ρ : Operand → Value) (w : World) : (execOp ρ o).run P w = .ok .recover w := by
  unfold isRec at h
  split at h
  · rename_i c hc
    split at h
    · rename_i hb
      split at h
      · rename_i ha
        simp [execOp, hc, resolve, hb, invoke, builtin]
      · cases h
    · cases h
  · cases h

theorem quiet_run {n : Nat} {o : Oper} (hq : quietOp o.op = true) {next : Act → World → Prop} {Q : Exit → Act → World → Prop} (h : o.wpIn (fw none) n P a w next Q) :
    (∃ v w', (execOp a.eval o).run P w = .ok (.value v) w' ∧ next (a.put o.dst v) w') ∨ (∃ w', (execOp a.eval o).run P w = .ok .skip w' ∧ next (a.put o.dst undef) w') ∨ ∃ v w', Q (.panic [{ v, recovered := false }]) a w' := by
  have h2 := h.2
  rw [show (fw none).round = none from rfl, Oper.semAt_none] at h2
  cases hr : (execOp a.eval o).run P w with
  | ok r w' =>
    rw [hr] at h2
    rcases quiet_ok hq hr with ⟨v, rfl⟩ | rfl
    · exact .inl ⟨v, w', rfl, h2⟩
    · exact .inr (.inl ⟨w', rfl, h2⟩)
  | halt e w' =>
    rw [hr] at h2
    cases e with
    | panic v => exact .inr (.inr ⟨v, w', h2⟩)
    | _ => exact h2.elim

theorem recR_sound (hT : TOk G.P T) {n : Nat} {ops : Array Oper} {Q : Exit → Act → List Frame → World → Prop} {cs0 : List Frame} {K : KK} {D : List Deferred}
    (hQ : ∀ E' H' a' w', K E' H' → St G E' H' a' w' → a'.defers = D → Q .normal a' cs0 w') :
    ∀ (l : List Oper) (k : Nat), (∀ j, l[j]? = ops[k + j]?) → ∀ {C : CellSet} {mu : Mu} {E : List AV} {H : List HO} {a : Act} {w : World}, recRK G.P T ops.toList l E H K → StC G C mu E H a w → a.defers = D →
      wpOpsSIn (fw none) n G.P ops Q (List.range' k l.length) a cs0 w
  | [], k, hk, C, mu, E, H, a, w, h, hst, hD => by
    unfold recRK at h
    exact hQ _ _ _ _ h ⟨C, mu, hst⟩ hD
  | o :: l, k, hk, C, mu, E, H, a, w, h, hst, hD => by
    have h0 : ops[k]? = some o := by simpa using (hk 0).symm
    have hk' : ∀ j, l[j]? = ops[k + 1 + j]? := fun j => by have := hk (j + 1); simp only [List.getElem?_cons_succ] at this; rw [this]; congr 1; omega
    unfold recRK at h
    simp only [List.length_cons, List.range'_succ]
    unfold wpOpsSIn
    simp only [h0]
    refine ⟨fun _ _ => trivial, ?_⟩
    rcases gd_sound rfl hst h with ⟨hw, E', h1, h2⟩ | ⟨hw, E', h1, h2⟩
    · rw [if_pos hw]
      split at h1
      · rename_i x xt t ho
        rw [evK_iff] at h1
        obtain ⟨r, v, k1, k2, k3⟩ := ta_sound hT (rep_ev h2.env x) (xt := xt) h1
        have : (execOp a.eval o).run G.P w = .ok (.value v) w := by simp [execOp, ho, k3]
        simp only [this]
        rw [updOK_iff] at k1
        exact recR_sound hT hQ l (k + 1) hk' k1 (h2.frame (reps_put h2.env o.dst k2) (put_defers _ _ _)) ((put_defers _ _ _).trans hD)
      · split at h1
        · rename_i hq
          have hw := op_sound (r := none) (n := n) (Kn := K) hT h1 h2 (next := fun a' w' => OpPost G o (fun v E' H' => updOK E' o.dst v fun E => recRK G.P T ops.toList l E H' K) a' w') (fun _ _ h => h)
          have go : ∀ {a' : Act} {w' : World}, OpPost G o (fun v E' H' => updOK E' o.dst v fun E => recRK G.P T ops.toList l E H' K) a' w' → a'.defers = D → wpOpsSIn (fw none) n G.P ops Q (List.range' (k + 1) l.length) a' cs0 w' := by
            intro a' w' hp hd
            obtain ⟨r, E'', H'', hk2, C', mu', hst'⟩ := hp
            rw [updOK_iff] at hk2
            exact recR_sound hT hQ l (k + 1) hk' hk2 hst' hd
          rcases quiet_run hq hw with ⟨v, w', e1, e2⟩ | ⟨w', e1, e2⟩ | ⟨v, w', e2⟩
          · simp only [e1]
            exact go e2 ((put_defers _ _ _).trans hD)
          · simp only [e1]
            exact go e2 ((put_defers _ _ _).trans hD)
          · obtain ⟨x, v', E1, H1, C1, mu1, _, hf, _⟩ := e2
            exact hf.elim
        · exact h1.elim
    · rw [if_neg (by simp [hw])]
      rw [updOK_iff] at h1
      exact recR_sound hT hQ l (k + 1) hk' h1 (h2.frame (reps_put h2.env o.dst (show Rep C w (.raw undef) mu undef by unfold Rep; rfl)) (put_defers _ _ _)) ((put_defers _ _ _).trans hD)

theorem rec_sound (hT : TOk G.P T) {n : Nat} {ops : Array Oper} {Q : Exit → Act → List Frame → World → Prop} {c₀ : Frame} {cs : List Frame} {u : FrameMode} {rv : Option AV} {K : KK} {D : List Deferred}
    (hu : c₀.mode = u) (hrv : RecOK C w mu u rv) (hQ : ∀ u' E' H' a' w', settle u' = .returning → K E' H' → St G E' H' a' w' → a'.defers = D → Q .normal a' ({ c₀ with mode := u' } :: cs) w')
    (h : recK G.P T ops.toList (recV rv) E H K) (hst : StC G C mu E H a w) (hD : a.defers = D) : wpOpsSIn (fw none) n G.P ops Q (List.range ops.size) a (c₀ :: cs) w := by
  unfold recK at h
  split at h
  · rename_i o r hops
    obtain ⟨⟨h1, h2⟩, h3⟩ := h
    rw [updOK_iff] at h3
    have hsz : ops.size = r.length + 1 := by rw [← Array.length_toList, hops]; rfl
    have h0 : ops[0]? = some o := by rw [← Array.getElem?_toList, hops]; rfl
    have hk' : ∀ j, r[j]? = ops[0 + 1 + j]? := fun j => by rw [← Array.getElem?_toList, hops, show 0 + 1 + j = j + 1 by omega, List.getElem?_cons_succ]
    rw [hsz, List.range_eq_range', List.range'_succ]
    unfold wpOpsSIn
    simp only [h0]
    refine ⟨fun _ _ => trivial, ?_⟩
    rw [if_pos (by simp [Region.wanted, h2]), rec_call h1]
    cases rv with
    | none =>
      have hm : c₀.mode = .returning := hu.trans hrv
      have : recoverD (c₀ :: cs) = none := by simp [recoverD, hm]
      simp only [this]
      have he : c₀ = { c₀ with mode := .returning } := by rw [← hm]
      rw [he]
      exact recR_sound hT (fun E' H' a' w' q1 q2 q3 => hQ .returning E' H' a' w' rfl q1 q2 q3) r (0 + 1) hk' h3 (hst.frame (reps_put hst.env o.dst (show Rep C w (.raw .nilIface) mu .nilIface by unfold Rep; rfl)) (put_defers _ _ _)) ((put_defers _ _ _).trans hD)
    | some x =>
      obtain ⟨v, hv, hx⟩ := hrv
      have hm : c₀.mode = .panicking [{ v, recovered := false }] := hu.trans hv
      have : recoverD (c₀ :: cs) = some (v, { c₀ with mode := .panicking [{ v, recovered := true }] } :: cs) := by simp [recoverD, hm]
      simp only [this]
      exact recR_sound hT (fun E' H' a' w' q1 q2 q3 => hQ _ E' H' a' w' rfl q1 q2 q3) r (0 + 1) hk' h3 (hst.frame (reps_put hst.env o.dst hx) (put_defers _ _ _)) ((put_defers _ _ _).trans hD)
  · exact h.elim

/-- The contract of a deferred call that recovers: it is handed objects of its maker's; 'rv': what the panic holds, if there is one. -/
structure DCtr (P : Program) (f : FuncId) (args : List AV) (H0 : List HO) (rv : Option AV) (R : List HO → Prop) : Prop where
  good : goodF P f = true
  out : ∀ (n : Nat) (C : CellSet) (mu : Mu) (w : World) (vs : List Value) (u : FrameMode), COK C w → HeapRel C w (fun _ => True) mu H0 → Reps C w args mu vs → RecOK C w mu u rv →
    CallsDIn (fw none) n P f vs.toArray u w fun e u' w' => ∃ v H1 C' mu', e = .returned v ∧ settle u' = .returning ∧ R H1 ∧ HPost C mu w C' mu' w' ∧ HeapRel C' w' (fun _ => True) mu' H1 ∧
      H1.length = H0.length ∧ realH H1 = true ∧ ∀ l : Nat, H0[l]? = some HO.dead → H1[l]? = some HO.dead

theorem DCtr.of_body {f : FuncId} {fn : Func} {id : Nat} {ops : Array Oper} {rest : Code} {args : List AV} {H0 : List HO} {rv : Option AV} {R : List HO → Prop} (hf : P.funcs[f]? = some fn) (hb : fn.body = some (.seq (.region id ops false) rest)) (hres : fn.results = #[])
    (hT : TOk P T) (hg : goodF P f = true) (hreal : realH H0 = true)
    (h : enterK fn.ntmps args fun E => recK P T ops.toList (recV rv) E H0 fun E H => KCode P rest E H (fun _ H => hendK H0.length H H0 H R) (fun e _ H => match e with | .ret => hendK H0.length H H0 H R | _ => False)) : DCtr P f args H0 rv R := by
  refine ⟨hg, fun n C mu w vs u hlt hh hr hrv => callsDIn_of_wpSIn hf hb trivial fun c₀ cs hu => ?_⟩
  unfold enterK at h
  rw [repK_iff, appK_iff] at h
  let G : Cx := { P := P, gok := ⟨hlt, fun b o hc ⟨l, g, hl, hg⟩ => (hh.fresh l g b hl hg).2.2 o hc⟩, C0 := C, M0 := fun b => ∃ l g, mu l = some g ∧ g.block? = some b, W0 := w, pin := fun l b => mu l = some (.blk b), np := H0.length }
  have hst : StC G C mu (args ++ List.replicate (fn.ntmps - args.length) (.raw undef)) H0 { tmps := vs.toArray ++ Array.replicate (fn.ntmps - vs.toArray.size) undef, defers := [] } w := by
    refine ⟨fun _ _ h => h, fun _ _ h => .inl h, hlt.lt, ⟨hh.dom, fun l g b hl hg => ⟨.inr ⟨l, g, hl, hg⟩, (hh.fresh l g b hl hg).2⟩, hh.sep, hh.dead, hh.recs, hh.arrs, hh.maps⟩, ?_, ⟨[], rfl, xrel_real hreal⟩, ⟨rfl, rfl, rfl, Nat.le_refl _, fun _ _ _ => rfl⟩, Nat.le_refl _, fun _ _ _ h => h⟩
    have hl := reps_len _ hr
    have := reps_append hr (reps_replicate (C := C) (w := w) (mu := mu) (fn.ntmps - args.length))
    simpa [hl] using this
  have hrun : ∀ (tmps : Array Value) (w : World), (results fn tmps).run P w = .ok (.tuple #[]) w := fun tmps w => by
    rw [results_eq, hres]; simp
  refine wpSIn_seq (wpSIn_region ?_)
  refine rec_sound (G := G) hT hu hrv (D := []) (fun u' E' H' a' w1 hu' hk hst' hD => ?_) h hst rfl
  · skip
    have fin : ∀ H a w', hendK H0.length H H0 H R → (∃ E, St G E H a w') → ∃ v H1 C' mu', Ending.returned (.tuple #[]) = .returned v ∧ settle u' = .returning ∧ R H1 ∧ HPost C mu w C' mu' w' ∧ HeapRel C' w' (fun _ => True) mu' H1 ∧
        H1.length = H0.length ∧ realH H1 = true ∧ ∀ l : Nat, H0[l]? = some HO.dead → H1[l]? = some HO.dead := by
      rintro H a w' hk ⟨E, C1, mu1, hst⟩
      obtain ⟨r, H1, C', mu', k1, k2, k3, _, k4⟩ := hfin (x := .bool true) (v := .bool true) (R := fun _ H1 => R H1) (n := 0) hh hst (by unfold Rep; rfl) (by unfold closeN; simpa [closed, AV.force_iff] using hk)
      exact ⟨_, H1, C', mu', rfl, hu', k1, k2, k3, k4⟩
    refine wpSIn_of_wpIn rfl (wpIn_mono (hk.out n G a' w1 [] rfl rfl hst' hD) fun e a w' q => ?_)
    obtain ⟨q, hd⟩ := q
    cases e with
    | normal => obtain ⟨E, H, h1, h2⟩ := q; exact ⟨hd, u', rfl, _, hrun _ _, fin H a w' h1 ⟨E, h2⟩⟩
    | ret => obtain ⟨E, H, h1, h2⟩ := q; exact ⟨hd, u', rfl, _, hrun _ _, fin H a w' h1 ⟨E, h2⟩⟩
    | exit id => obtain ⟨E, H, h1, h2⟩ := q; exact h1.elim
    | goto l => exact q.elim
    | outgrown => exact q.elim
    | panic ch => obtain ⟨x, v, E, H, C1, mu1, _, hk, _⟩ := q; exact hk.elim
end
end Go.Av

/-
  AV: functions that defer one call, which recovers.
-/
set_option linter.unusedSimpArgs false
set_option linter.unusedVariables false
namespace Go.Av
open Go.RowKit (Below)
section
variable {G : Cx} {C C' : CellSet} {w w' : World} {mu : Mu} {H H0 : List HO} {E : List AV} {a : Act} {T : List TY} {P : Program}

/-- The deferred call, at the end. -/
structure DCall (P : Program) (f : FuncId) (cap : List AV) (rv : Option AV) (E : List AV) (H : List HO) (K : KK) : Prop where
  good : goodF P f = true
  out : ∀ (n : Nat) (G : Cx) C mu (a : Act) (w : World) (vs : List Value) (u : FrameMode), G.P = P → StC G C mu E H a w → Reps C w cap mu vs → RecOK C w mu u rv →
    CallsDIn (fw none) n P f vs.toArray u w fun e u' w' => ∃ v E' H' C' mu', e = .returned v ∧ settle u' = .returning ∧ K E' H' ∧ StC G C' mu' E' H' a w'
def recL (rv : Option AV) : List AV := match rv with | some x => [x] | none => []
theorem DCall.of_d {f : FuncId} {cap : List AV} {rv : Option AV} {R : List HO → Prop} {K : KK} (h : DCtr P f cap H0 rv R) (hw : withins H0 cap = true) (hx : withins H0 (recL rv) = true) (hh : handK H0 H0 H True)
    (hk : ∀ H1, R H1 → scrK H0 E fun E' => mergeK H0 H0 H1 H fun H' => K E' H') : DCall P f cap rv E H K := by
  refine ⟨h.good, fun n G C mu a w vs u hP hst hr hrv => (h.out n C (mu.only H0) w vs u hst.cok (only_rel hst hh) (withins_rep cap hw hr) ?_).mono fun e u' w' hp => ?_⟩
  · cases rv with
    | none => exact hrv
    | some x =>
      obtain ⟨v, hv, hx'⟩ := hrv
      have := withins_rep (H0 := H0) [x] hx (C := C) (w := w) (mu := mu) (vs := [v]) (by unfold Reps; exact ⟨v, [], rfl, hx', by unfold Reps; rfl⟩)
      unfold Reps at this
      obtain ⟨v', vs', he, k, _⟩ := this
      simp only [List.cons.injEq] at he
      obtain ⟨rfl, _⟩ := he
      exact ⟨v, hv, k⟩
  · obtain ⟨v, H1, C', mu', he, hs, hR, hp, hrel, hlen, hreal, hdead⟩ := hp
    have hr0 := (handK_ok hh).1
    have hk := hk H1 hR
    rw [scrK_iff] at hk
    obtain ⟨H', k1, k2, k3, k4⟩ := mergeK_ok hr0 hk
    obtain ⟨m1, m2⟩ := merged hst hh hp hrel hlen hreal hdead k2 k3 k4
    exact ⟨v, _, _, C', _, he, hs, k1, m1⟩

/-- The frame of reference behind a defer statement. -/
def Cx.dfd (G : Cx) (ms : List Nat) (f : FuncId) (vs : List Value) : Cx :=
  { G with ds := { target := .fn (.func f) vs.toArray, args := #[] } :: (ms.map mark ++ G.ds), rds := ms.map (fun D => (D, dfr)) ++ G.rds, hrd := fun l h => let ⟨r, hr⟩ := G.hrd l h; ⟨r, List.mem_append_right _ hr⟩ }
/-- What the deferred call was handed lies at place g. -/
def gh (g : Nat) (vs : List Value) (H : List HO) : Prop := ∃ cap, H[g]? = some (.ghost cap vs [])
abbrev DK := FuncId → Nat → List Value → KK
abbrev DX := FuncId → Nat → List Value → XX
def QD (G : Cx) (K : KK) (X : XX) (K2 : DK) (X2 : DX) (e : Exit) (a : Act) (w : World) : Prop :=
  QOf G K X e a w ∨ ∃ ms f vs g, goodF G.P f = true ∧ QOf (G.dfd ms f vs) (fun E H => gh g vs H ∧ K2 f g vs E H) (fun e E H => gh g vs H ∧ X2 f g vs e E H) e a w
/-- Code in which one call may be deferred: what holds where none was, and where one was. -/
structure ADef (P : Program) (c : Code) (E : List AV) (H : List HO) (K : KK) (X : XX) (K2 : DK) (X2 : DX) : Prop where
  out : ∀ (n : Nat) (G : Cx) (a : Act) (w : World), G.P = P → G.rd = none → St G E H a w → c.wpIn (fw none) n P (QD G K X K2 X2) a w

theorem ADef.of {c : Code} {K : KK} {X : XX} {K2 : DK} {X2 : DX} (h : ACode P c E H K X) : ADef P c E H K X K2 X2 :=
  ⟨fun n G a w hP hr hst => wpIn_mono (by have := h.out n G a w hP hst; rwa [hr] at this) fun e a w q => .inl q⟩
theorem ADef.seq1 {x y : Code} {K : KK} {X : XX} {K2 : DK} {X2 : DX} (h : ACode P x E H (fun E H => ADef P y E H K X K2 X2) X) : ADef P (.seq x y) E H K X K2 X2 :=
  ⟨fun n G a w hP hr hst => wpIn_seq (wpIn_mono (by have := h.out n G a w hP hst; rwa [hr] at this) fun e a w q => by
    cases e with
    | normal => obtain ⟨E', H', h1, h2⟩ := q; exact h1.out n G a w hP hr h2
    | _ => exact .inl q)⟩
theorem ADef.seq2 {x y : Code} {K : KK} {X : XX} {K2 : DK} {X2 : DX} (h : ADef P x E H (fun E H => ADef P y E H K X K2 X2) X (fun f g vs E H => ACode P y E H (fun E H => gh g vs H ∧ K2 f g vs E H) (fun e E H => gh g vs H ∧ X2 f g vs e E H)) X2) : ADef P (.seq x y) E H K X K2 X2 :=
  ⟨fun n G a w hP hr hst => wpIn_seq (wpIn_mono (h.out n G a w hP hr hst) fun e a w q => by
    rcases q with q | ⟨ms, f, vs, g, hg, q⟩
    · cases e with
      | normal => obtain ⟨E', H', h1, h2⟩ := q; exact h1.out n G a w hP hr h2
      | _ => exact .inl q
    · cases e with
      | normal =>
        obtain ⟨E', H', ⟨_, h1⟩, h2⟩ := q
        refine wpIn_mono (by have := h1.out n (G.dfd ms f vs) a w hP h2; rwa [show (G.dfd ms f vs).rd = none from hr] at this) fun e a w q => .inr ⟨ms, f, vs, g, hg, q⟩
      | _ => exact .inr ⟨ms, f, vs, g, hg, q⟩)⟩
theorem ADef.cond {c : Operand} {x y : Code} {K : KK} {X : XX} {K2 : DK} {X2 : DX} {t : Bool} (hc : evD E c = .bool t) (h1 : t = true → ADef P x E H K X K2 X2) (h2 : t = false → ADef P y E H K X K2 X2) : ADef P (.cond c x y) E H K X K2 X2 :=
  ⟨fun n G a w hP hr hst => by
    obtain ⟨C, mu, hst'⟩ := id hst
    have hv := rep_ev hst'.env c
    rw [hc] at hv
    exact wpIn_cond_split (rep_bool_inv hv) (fun ht => (h1 ht).out n G a w hP hr hst) (fun ht => (h2 ht).out n G a w hP hr hst)⟩

/-! ### The statement -/
def regDK (P : Program) (T : List TY) (ops : List Oper) : List Oper → List AV → List HO → (FuncId → List AV → KK) → XX → Prop
  | [], _, _, _, _ => False
  | o :: r, E, H, K, X => match o.op with
    | .defer c => (match r, o.guard with
      | [], none => (match c.callee, c.args.toList with
        | .value f, [] => evK E f fun v => (match v with
          | .fn f cap => goodF P f = true ∧ updOK E o.dst (.raw undef) fun E => K f cap E H
          | _ => False)
        | _, _ => False)
      | _, _ => False)
    | op => gdK ops E o.guard (fun E => opK none P T E H op (fun v E' H' => updOK E' o.dst v fun E'' => regDK P T ops r E'' H' K X) X) (fun E => updOK E o.dst (.raw undef) fun E' => regDK P T ops r E' H K X)

theorem oper_mono {F : Fence} {n : Nat} {o : Oper} {K K' : Act → World → Prop} {Q Q' : Exit → Act → World → Prop} (h : ∀ a w, K a w → K' a w) (hq : ∀ e a w, Q e a w → Q' e a w) (hh : o.wpIn F n P a w K Q) : o.wpIn F n P a w K' Q' := by
  unfold Oper.wpIn at *
  refine ⟨hh.1, ?_⟩
  have hh := hh.2
  have hl : LetsOut Q → LetsOut Q' := fun h => by
    obtain ⟨a, w, k⟩ := h
    exact ⟨a, w, hq _ _ _ k⟩
  generalize (o.semAt F.round a.eval).run P w = r at *
  cases r with
  | ok x w' =>
    cases x <;> simp only [Oper.uponIn] at hh ⊢ <;>
      first
        | exact h _ _ hh
        | exact ⟨hh.1, CallsIn.mono hh.2 (fun e w'' he => by cases e <;> first | exact h _ _ he | exact hq _ _ _ he | exact hl he)⟩
        | exact ⟨hh.1, RowsIn.mono hh.2 (fun _ _ he => h _ _ he)⟩
        | exact ⟨hh.1, RoundIn.mono hh.2 (fun e w'' he => by cases e <;> first | exact h _ _ he | exact hq _ _ _ he | exact hl he)⟩
  | halt x w' => cases x <;> simp only [Oper.uponIn] at hh ⊢ <;> first | exact hq _ _ _ hh | exact hh

theorem st_defer {ms : List Nat} {f : FuncId} {cap : List AV} {vs : List Value} (h : StC G C mu E H a w) (d1 : a.defers = ms.map mark ++ G.ds) (d2 : XRel C w G.fresh mu H (ms.map (fun D => (D, dfr)) ++ G.rds)) (hr : Reps C w cap mu vs) :
    StC (G.dfd ms f vs) C mu E (H ++ [.ghost cap vs []]) { a with defers := { target := .fn (.func f) vs.toArray, args := #[] } :: a.defers } w := by
  have get : ∀ {l : Nat} {ob : HO}, (H ++ [HO.ghost cap vs []])[l]? = some ob → H[l]? = some ob ∨ (l = H.length ∧ ob = .ghost cap vs []) := fun {l ob} hl => by
    rcases Nat.lt_or_ge l H.length with k | k
    · rw [List.getElem?_append_left k] at hl; exact .inl hl
    · rw [List.getElem?_append_right k] at hl
      have : l - H.length = 0 := by
        have := (List.getElem?_eq_some_iff.1 hl).1
        simp at this; omega
      rw [this] at hl
      simp at hl
      exact .inr ⟨by omega, hl.symm⟩
  refine ⟨h.c0, h.c1, h.lt, ⟨fun l g hl => ?_, h.heap.fresh, h.heap.sep, fun l hl => ?_, fun l cs hl => ?_, fun l e sz es hl => ?_, fun l ks vs hl => ?_⟩, h.env, ⟨[], by simp [Cx.dfd, d1], ⟨fun l cs vs' ms' hl => ?_, fun l I hl => ?_, fun D hD => d2.marks D (by simpa [Cx.dfd] using hD), ?_, fun l l' cs vs1 ms1 cs' vs2 ms2 hl hl' hne D hD hD' => ?_⟩⟩, ⟨h.keep.os, h.keep.tape, h.keep.output, h.keep.size, h.keep.block⟩, ?_⟩
  · have := h.heap.dom l g hl; simp; omega
  · rcases get hl with k | ⟨_, k⟩
    · exact h.heap.dead l k
    · cases k
  · rcases get hl with k | ⟨_, k⟩
    · exact h.heap.recs l cs k
    · cases k
  · rcases get hl with k | ⟨_, k⟩
    · exact h.heap.arrs l e sz es k
    · cases k
  · rcases get hl with k | ⟨_, k⟩
    · exact h.heap.maps l ks vs k
    · cases k
  · rcases get hl with k | ⟨_, k⟩
    · obtain ⟨q1, q2, q3⟩ := d2.ghosts l cs vs' ms' k
      exact ⟨q1, q2, fun D hD => ⟨(q3 D hD).1, by simpa [Cx.dfd] using (q3 D hD).2⟩⟩
    · cases k
      exact ⟨hr, List.nodup_nil, fun D hD => by cases hD⟩
  · rcases get hl with k | ⟨_, k⟩
    · obtain ⟨h0, Sw, Sr, q1, q2, q3, q4⟩ := d2.invs l I k
      refine ⟨h0, Sw, Sr, q1, q2, fun D hD => q3 D (by simpa [Cx.dfd] using hD), fun l' cs vs' ms' hl' D hD => ?_⟩
      rcases get hl' with k' | ⟨_, k'⟩
      · exact q4 l' cs vs' ms' k' D hD
      · cases k'; cases hD
    · cases k
  · have := d2.nd
    simpa [Cx.dfd] using this
  · rcases get hl with k | ⟨k0, k⟩
    · rcases get hl' with k' | ⟨_, k'⟩
      · exact d2.sep l l' cs vs1 ms1 cs' vs2 ms2 k k' hne D hD hD'
      · cases k'; cases hD'
    · cases k; cases hD
  · exact ⟨by have := h.pin.1; simp only [List.length_append, List.length_cons, List.length_nil]; exact Nat.le_trans this (by omega), h.pin.2⟩

theorem regD_sound (hT : TOk G.P T) (hrd : G.rd = none) {n : Nat} {ops : Array Oper} {K0 : KK} {K : FuncId → List AV → KK} {X : XX} {K2 : DK} {X2 : DX} (hK : ∀ f cap E H, K f cap E H → ∀ vs, K2 f H.length vs E (H ++ [.ghost cap vs []])) :
    ∀ (l : List Oper) {C : CellSet} {mu : Mu} {E : List AV} {H : List HO} {a : Act} {w : World}, regDK G.P T ops.toList l E H K X → StC G C mu E H a w → wpListIn (fw none) n G.P ops (QD G K0 X K2 X2) l a w
  | [], _, _, _, _, _, _, h, hst => by unfold regDK at h; exact h.elim
  | o :: l, C, mu, E, H, a, w, h, hst => by
    unfold regDK at h
    split at h
    · rename_i c hop
      split at h
      · rename_i hg
        split at h
        · rename_i f hc ha
          rw [evK_iff] at h
          split at h
          · rename_i fi cap hfe
            obtain ⟨hgood, h⟩ := h
            rw [updOK_iff] at h
            have hf := rep_ev hst.env f
            rw [hfe] at hf
            unfold Rep at hf
            obtain ⟨vs, hfv, hvs⟩ := hf
            obtain ⟨ms, d1, d2⟩ := hst.defers
            unfold wpListIn
            rw [if_pos (by simp [Region.wanted, hg])]
            refine ⟨fun _ _ => trivial, ?_⟩
            rw [show (fw none).round = none from rfl, Oper.semAt_none]
            have hrun : (execOp a.eval o).run G.P w = .ok (.defer { target := .fn (.func fi) vs.toArray, args := #[] }) w := by
              obtain ⟨cal, args, tys⟩ := c
              simp only at hc ha
              subst hc
              have : args = #[] := by simpa using ha
              subst this
              simp [execOp, hop, resolve, hfv, Deferred.ofValue]
            rw [hrun, Oper.uponIn_defer]
            refine .inr ⟨ms, fi, vs, H.length, hgood, _, _, ⟨⟨cap, by simp⟩, hK _ _ _ _ h vs⟩, C, mu, ?_⟩
            have hx : Rep C w (.raw undef) mu undef := by unfold Rep; rfl
            exact (st_defer hst d1 d2 hvs).frame (reps_put (a := { a with defers := { target := .fn (.func fi) vs.toArray, args := #[] } :: a.defers }) hst.env o.dst hx) (put_defers _ _ _)
          · exact h.elim
        · exact h.elim
      · exact h.elim
    · unfold wpListIn
      rcases gd_sound rfl hst h with ⟨hw, E', h1, h2⟩ | ⟨hw, E', h1, h2⟩
      · rw [if_pos hw]
        refine oper_mono (fun _ _ h => h) (fun e a w q => .inl q) (op_sound (r := none) (Kn := K0) hT h1 h2 fun a' w' hp => ?_)
        obtain ⟨x, E'', H', h3, C', mu', h4⟩ := hp
        rw [updOK_iff] at h3
        exact regD_sound hT hrd hK l h3 h4
      · rw [if_neg (by simp [hw])]
        rw [updOK_iff] at h1
        exact ⟨fun _ _ => trivial, regD_sound hT hrd hK l h1 (h2.frame (reps_put h2.env o.dst (show Rep C w (.raw undef) mu undef by unfold Rep; rfl)) (put_defers _ _ _))⟩

/-- A region whose last operation defers. -/
theorem ADef.region {id : Nat} {ops : Array Oper} {K : KK} {X : XX} {K2 : DK} {X2 : DX} (hT : TOk P T) (h : regDK P T ops.toList ops.toList E H (fun f cap E H => ∀ vs, K2 f H.length vs E (H ++ [.ghost cap vs []])) X) : ADef P (.region id ops false) E H K X K2 X2 :=
  ⟨fun n G a w hP hr hst => by
    obtain ⟨C, mu, hst⟩ := hst
    subst hP
    exact wpIn_region_list (regD_sound hT hr (fun f cap E H k => k) _ h hst)⟩
end
end Go.Av

/-
  AV: how such a function ends.
-/
set_option linter.unusedSimpArgs false
set_option linter.unusedVariables false
namespace Go.Av
open Go.RowKit (Below)
section
variable {G : Cx} {C C' : CellSet} {w w' : World} {mu : Mu} {H H0 : List HO} {E : List AV} {a : Act} {T : List TY} {P : Program}

theorem XRel.less {fr : Nat → Prop} {d1 d2 : List (Nat × Obj)} (h : XRel C w fr mu H (d1 ++ d2)) : XRel C w fr mu H d2 := by
  refine ⟨fun l cs vs ms hl => ?_, fun l I hl => ?_, fun D hD => h.marks D (List.mem_append_right _ hD), ?_, h.sep⟩
  · obtain ⟨q1, q2, q3⟩ := h.ghosts l cs vs ms hl
    refine ⟨q1, q2, fun D hD => ⟨(q3 D hD).1, fun hd => (q3 D hD).2 ?_⟩⟩
    rw [List.map_append]; exact List.mem_append_right _ hd
  · obtain ⟨h0, Sw, Sr, q1, q2, q3, q4⟩ := h.invs l I hl
    exact ⟨h0, Sw, Sr, q1, q2, fun D hD => q3 D (List.mem_append_right _ hD), q4⟩
  · have := h.nd
    rw [List.map_append] at this
    exact (List.nodup_append.1 this).2.1

theorem leaves_marks {n : Nat} {fn : Func} {R : Ending → World → Prop} {tmps tm2 : Array Value} {u : FrameMode} (hu : u ≠ .run) : ∀ (ms : List Nat) {w : World} {a : Act}, a.tmps = tm2 → StC G C mu E H a w → XRel C w G.fresh mu H (ms.map (fun D => (D, dfr)) ++ G.rds) →
    (∀ a' w', a'.tmps = tm2 → StC G C mu E H a' w' → XRel C w' G.fresh mu H G.rds → LeavesInM (fw none) n G.P fn tmps R G.ds u w') → LeavesInM (fw none) n G.P fn tmps R (ms.map mark ++ G.ds) u w
  | [], w, a, ha, h, hx, hr => hr a w ha h (by simpa using hx)
  | D :: ms, w, a, ha, h, hx, hr => by
    simp only [List.map_cons, List.cons_append, LeavesInM]
    obtain ⟨h1, h2⟩ := h.takeMark hx
    refine ⟨hu, .inl ⟨D, _, rfl, run_takeDeferred ?_, leaves_marks hu ms (a := { a with defers := ms.map mark ++ G.ds }) (by exact ha) h1 h2 hr⟩⟩
    exact (hx.marks (D, dfr) (by simp)).at_

theorem run_enter {f : FuncId} {vs : List Value} (hg : goodF P f = true) (w : World) : (invoke (.fn (.func f) vs.toArray) #[]).run P w = .ok (.enter f vs.toArray) w := by
  unfold goodF at hg
  cases hfn : P.funcs[f]? with
  | none => rw [hfn] at hg; cases hg
  | some fn =>
    rw [hfn] at hg
    simp only [Bool.and_eq_true] at hg
    have hne : fn.name ≠ "runtime.NumGoroutine" := by simpa using hg.2
    have hb : fn.body ≠ none := by cases hh : fn.body <;> simp_all
    simp [invoke, callFunc, hfn, hne, hb]

/-- The end: the marks of the loops behind the defer statement, the deferred call, the marks of the loops before it, the results. -/
theorem leave_defer {n : Nat} {fn : Func} {R : Ending → World → Prop} {tmps : Array Value} (hds : G.ds = []) (hrds : G.rds = []) {ms : List Nat} {f : FuncId} {vs : List Value} {g : Nat} {rv : Option AV} {u : FrameMode} {K : KK} (hu : u ≠ .run) (hgf : goodF G.P f = true)
    (hst : StC (G.dfd ms f vs) C mu E H a w) (hrv : RecOK C w mu u rv) (hgh : gh g vs H) (hd : ∀ cap vs', H[g]? = some (.ghost cap vs' []) → DCall G.P f cap rv E H K) (ht : a.tmps = tmps)
    (hfin : ∀ E H C mu a w, K E H → a.tmps = tmps → StC G C mu E H a w → ∃ v, (results fn tmps).run G.P w = .ok v w ∧ R (.returned v) w) : LeavesInM (fw none) n G.P fn tmps R a.defers u w := by
  obtain ⟨ms2, d1, d2⟩ := hst.defers
  rw [d1]
  -- the panic's value rides in the frame
  obtain ⟨rs, hrs, hback⟩ : ∃ rs : List Value, Reps C w (recL rv) mu rs ∧ ∀ w', Reps C w' (recL rv) mu rs → RecOK C w' mu u rv := by
    cases rv with
    | none => exact ⟨[], by unfold recL Reps; rfl, fun _ _ => hrv⟩
    | some x =>
      obtain ⟨v, hv, hx⟩ := hrv
      refine ⟨[v], by unfold recL Reps; exact ⟨v, [], rfl, hx, by unfold Reps; rfl⟩, fun w' h => ⟨v, hv, ?_⟩⟩
      unfold recL Reps at h
      obtain ⟨v', vs', he, k, _⟩ := h
      simp only [List.cons.injEq] at he
      obtain ⟨rfl, _⟩ := he
      exact k
  have hl : rs.length = (recL rv).length := reps_len _ hrs
  have hst2 : StC (G.dfd ms f vs) C mu (recL rv ++ E) H { tmps := (rs ++ a.tmps.toList).toArray, defers := a.defers } w := hst.frame (by simpa using reps_append hrs hst.env) rfl
  refine leaves_marks (G := G.dfd ms f vs) hu ms2 rfl hst2 d2 fun a' w' ha hs hx => ?_
  have henv := hs.env
  rw [ha] at henv
  have h1 : Reps C w' (recL rv) mu rs := by
    have := henv.take (recL rv).length
    simpa [← hl] using this
  have h2 : Reps C w' E mu a.tmps.toList := by
    have := henv.drop (recL rv).length
    simpa [← hl] using this
  have hs' : StC (G.dfd ms f vs) C mu E H { tmps := a.tmps, defers := a'.defers } w' := hs.frame h2 rfl
  obtain ⟨cap, hcap⟩ := hgh
  have hvs : Reps C w' cap mu vs := (hx.ghosts g cap vs [] hcap).1
  show LeavesInM (fw none) n G.P fn tmps R ({ target := .fn (.func f) vs.toArray, args := #[] } :: (ms.map mark ++ G.ds)) u w'
  unfold LeavesInM
  refine ⟨hu, .inr ⟨fun h => (by cases h), _, _, f, vs.toArray, rfl, run_enter hgf w', fun _ _ => trivial, ((hd cap vs hcap).out (n - 1) (G.dfd ms f vs) C mu _ w' vs u rfl hs' hvs (hback w' h1)).mono fun e u' w'' hp => ?_⟩⟩
  obtain ⟨v, E', H', C', mu', rfl, hset, hk, hst3⟩ := hp
  obtain ⟨ms3, e1, e2⟩ := hst3.defers
  simp only [hset]
  have e3 : XRel C' w'' G.fresh mu' H' (ms.map (fun D => (D, dfr)) ++ G.rds) := e2.less
  have hst4 : StC G C' mu' E' H' { tmps := a.tmps, defers := ms.map mark ++ G.ds } w'' := ⟨hst3.c0, hst3.c1, hst3.lt, hst3.heap, hst3.env, ⟨ms, rfl, e3⟩, ⟨hst3.keep.os, hst3.keep.tape, hst3.keep.output, hst3.keep.size, hst3.keep.block⟩, hst3.pin⟩
  rw [show ms.map mark ++ G.ds = ms.map mark by simp [hds]]
  exact leaves_ok hds ms (by exact ht) hst4 e3 fun a' w' ha hs => hfin _ _ _ _ _ _ hk ha hs

def endD (P : Program) (T : List TY) (rs : List ResultVar) (R : AV → Prop) (f : FuncId) (g : Nat) (rv : Option AV) (E : List AV) (H : List HO) : Prop :=
  lkK H g fun ob => match ob with | .ghost cap _ _ => DCall P f cap rv E H (retK T rs R) | _ => False

theorem Ctr.of_body_defer {f : FuncId} {fn : Func} {c : Code} {args : List AV} {R : AV → Prop} (hf : P.funcs[f]? = some fn) (hb : fn.body = some c) (hT : TOk P T) (hg : goodF P f = true)
    (h : enterK fn.ntmps args fun E => ADef P c E [] (retK T fn.results.toList R) (fun e E H => match e with | .ret => retK T fn.results.toList R E H | _ => False)
      (fun f g _ E H => endD P T fn.results.toList R f g none E H) (fun f g _ e E H => match e with | .ret => endD P T fn.results.toList R f g none E H | .panic x => endD P T fn.results.toList R f g (some x) E H | _ => False)) : Ctr P f args R := by
  refine ⟨hg, fun C w vs hlt hr => (callsIn_wide (n := 0)).1 (callsIn_of_wp_marks (F := Fence.wide) (n := 0) hf hb trivial ?_ rfl)⟩
  unfold enterK at h
  rw [repK_iff, appK_iff] at h
  let G : Cx := { P := P, C0 := C, M0 := fun _ => False, W0 := w, gok := ⟨hlt, fun _ _ _ h => h⟩ }
  have hst : St G (args ++ List.replicate (fn.ntmps - args.length) (.raw undef)) [] { tmps := vs.toArray ++ Array.replicate (fn.ntmps - vs.toArray.size) undef, defers := [] } w := by
    refine ⟨C, Mu.none, fun _ _ h => h, fun _ _ h => .inl h, hlt.lt, heap_empty _ _ _, ?_, ⟨[], rfl, xrel_empty _ _ _ _⟩, ⟨rfl, rfl, rfl, Nat.le_refl _, fun _ _ _ => rfl⟩, Nat.zero_le _, fun _ _ h => absurd h (Nat.not_lt_zero _)⟩
    have hl := reps_len _ hr
    have := reps_append hr (reps_replicate (C := C) (w := w) (mu := Mu.none) (fn.ntmps - args.length))
    simpa [hl] using this
  let RR : Ending → World → Prop := fun e w' => ∃ r v', e = .returned v' ∧ R r ∧ Below w.heap.size w w' ∧ Rep (newC C w.heap.size w'.heap.size) w' r Mu.none v'
  have rfin : ∀ tmps E H C1 mu1 a w', retK T fn.results.toList R E H → a.tmps = tmps → StC G C1 mu1 E H a w' → ∃ v, (results fn tmps).run G.P w' = .ok v w' ∧ RR (.returned v) w' := by
    intro tmps E H C1 mu1 a w' hk ha hs
    obtain ⟨r, v, h1, h2, h3⟩ := ret_ok (G := G) hT hs (fun _ h => h) hk
    rw [ha] at h2
    exact ⟨v, h2, r, v, rfl, h1, ⟨hs.keep.os, hs.keep.tape, hs.keep.output, hs.keep.size, fun k hk => hs.keep.block k hk (fun h => h)⟩, h3⟩
  have fin : ∀ E H a w', retK T fn.results.toList R E H → St G E H a w' → LeavesInM (fw none) 0 P fn a.tmps RR a.defers .returning w' := by
    rintro E H a w' hk ⟨C', mu', hst⟩
    obtain ⟨ms, d1, d2⟩ := hst.defers
    rw [show a.defers = ms.map mark by simpa [G] using d1]
    exact leaves_ok (G := G) rfl ms rfl hst d2 fun a' w'' ha hs' => rfin _ _ _ _ _ _ _ hk ha hs'
  have fin2 : ∀ {ms f vs g rv u} {C1 : CellSet} {mu1 : Mu} {E H a w'}, u ≠ .run → goodF P f = true → gh g vs H → endD P T fn.results.toList R f g rv E H → StC (G.dfd ms f vs) C1 mu1 E H a w' → RecOK C1 w' mu1 u rv → LeavesInM (fw none) 0 P fn a.tmps RR a.defers u w' := by
    intro ms f vs g rv u C1 mu1 E H a w' hu hgf hgh hk hst hrv
    refine leave_defer (G := G) rfl rfl hu hgf hst hrv hgh (K := retK T fn.results.toList R) (fun cap vs' hcap => ?_) rfl (fun E H C mu a w hk ha hs => rfin _ _ _ _ _ _ _ hk ha hs)
    unfold endD at hk
    replace hk := (lkK_iff _ _ _).1 hk; obtain ⟨ob, hob, hk⟩ := hk
    rw [hcap] at hob
    simp only [Option.some.injEq] at hob
    subst hob
    exact hk
  refine wpIn_mono (h.out 0 G _ w rfl rfl hst) fun e a w' q => ?_
  rcases q with q | ⟨ms, f', vs', g, hgf, q⟩
  · cases e with
    | normal => obtain ⟨E, H, h1, h2⟩ := q; exact fin E H a w' h1 h2
    | ret => obtain ⟨E, H, h1, h2⟩ := q; exact fin E H a w' h1 h2
    | exit id => obtain ⟨E, H, h1, h2⟩ := q; exact h1.elim
    | panic ch => obtain ⟨x, v, E, H, C, mu, _, h1, _⟩ := q; exact h1.elim
    | goto l => exact q.elim
    | outgrown => exact q.elim
  · cases e with
    | normal => obtain ⟨E, H, ⟨h0, h1⟩, C1, mu1, h2⟩ := q; exact fin2 (by simp) hgf h0 h1 h2 rfl
    | ret => obtain ⟨E, H, ⟨h0, h1⟩, C1, mu1, h2⟩ := q; exact fin2 (by simp) hgf h0 h1 h2 rfl
    | exit id => obtain ⟨E, H, h1, h2⟩ := q; exact h1.2.elim
    | panic ch => obtain ⟨x, v, E, H, C1, mu1, rfl, ⟨h0, h1⟩, h2, h3⟩ := q; exact fin2 (rv := some x) (by simp) hgf h0 h1 h2 ⟨v, rfl, h3⟩
    | goto l => exact q.elim
    | outgrown => exact q.elim
end
end Go.Av

/-
  AV: one statement at a time (what comes behind it stays closed: the kernel's check of a long row of statements in one go costs too much).
-/
set_option linter.unusedSimpArgs false
set_option linter.unusedVariables false
set_option linter.unusedSectionVars false
namespace Go.Av
section
variable {E : List AV} {H : List HO} {T : List TY} {P : Program} {K : KK} {X : XX}
theorem ACode.s_reg (hT : TOk P T) {id : Nat} {ops : Array Oper} (h : regK P T ops.toList ops.toList E H K X) : ACode P (.region id ops false) E H K X :=
  cd_sound hT (.region id ops false) (by unfold cdK; exact h)
theorem ACode.s_cond {c : Operand} {x y : Code} (h : evK E c fun v => match v with
    | .lit t => (match t with | true => ACode P x E H K X | false => ACode P y E H K X)
    | .bool t => (t = true → ACode P x E H K X) ∧ (t = false → ACode P y E H K X)
    | _ => False) : ACode P (.cond c x y) E H K X := ⟨fun n G a w hP hst => by
    rw [evK_iff] at h
    have hst0 := hst
    obtain ⟨C, mu, hst'⟩ := hst0
    have hr := rep_ev hst'.env c
    split at h
    · rename_i t hb
      rw [hb] at hr
      have hv := rep_lit_inv hr
      cases t with
      | true => exact wpIn_cond_true hv (h.out n G a w hP hst)
      | false => exact wpIn_cond_false hv (h.out n G a w hP hst)
    · rename_i t hb
      rw [hb] at hr
      have hv := rep_bool_inv hr
      exact wpIn_cond_split hv (fun ht => (h.1 ht).out n G a w hP hst) (fun ht => (h.2 ht).out n G a w hP hst)
    · exact h.elim⟩
theorem ACode.s_block {id : Nat} {b : Code} (h : ACode P b E H K fun e E H => match e with
    | .exit i => (match Nat.beq i id with | true => K E H | false => X (.exit i) E H)
    | .ret => X .ret E H
    | .panic x => X (.panic x) E H) : ACode P (.block id b) E H K X := ⟨fun n G a w hP hst => by
    refine wpIn_block (wpIn_mono (h.out n G a w hP hst) fun e a w q => ?_)
    cases e with
    | normal => exact q
    | exit i =>
      obtain ⟨E', H', h1, h2⟩ := q
      simp only [Exit.inBlock]
      simp only at h1
      split at h1
      · rename_i hb
        rw [if_pos (Nat.eq_of_beq_eq_true hb)]
        exact ⟨E', H', h1, h2⟩
      · rename_i hb
        rw [if_neg (Nat.ne_of_beq_eq_false hb)]
        exact ⟨E', H', h1, h2⟩
    | ret => exact q
    | panic ch => exact q
    | goto l => exact q
    | outgrown => exact q⟩
theorem ACode.s_scope {b : Code} (h : ACode P b E H K X) : ACode P (.scope b) E H K X := ⟨fun n G a w hP hst => wpIn_scope (fun l a w q => q) (h.out n G a w hP hst)⟩
theorem ACode.s_skip (h : K E H) : ACode P .skip E H K X := ⟨fun n G a w hP hst => wpIn_skip ⟨E, H, h, hst⟩⟩
theorem ACode.s_label {l : Nat} (h : K E H) : ACode P (.label l) E H K X := ⟨fun n G a w hP hst => wpIn_label ⟨E, H, h, hst⟩⟩
theorem ACode.s_exit {id : Nat} (h : X (.exit id) E H) : ACode P (.exit id) E H K X := ⟨fun n G a w hP hst => wpIn_exit ⟨E, H, h, hst⟩⟩
theorem ACode.s_ret (h : X .ret E H) : ACode P .ret E H K X := ⟨fun n G a w hP hst => wpIn_ret ⟨E, H, h, hst⟩⟩
end
end Go.Av

/-
  AV: a call of a function that is handed a pointer to one of the caller's variables, and leaves some of its cells alone, whatever they hold ('raw').
-/
set_option linter.unusedSimpArgs false
set_option linter.unusedVariables false
set_option linter.unusedSectionVars false
namespace Go.Av
open Go.RowKit (Below)
section
variable {G : Cx} {C C' : CellSet} {w w' : World} {mu mu' : Mu} {H H0 : List HO} {E : List AV} {a : Act} {T : List TY} {P : Program}
/-- The cells that are marked: as they are. -/
def blend : List Bool → List AV → List Value → List AV
  | true :: m, _ :: cs, v :: vs => .raw v :: blend m cs vs
  | false :: m, c :: cs, _ :: vs => c :: blend m cs vs
  | _, _, _ => []
def back : List Bool → List AV → List AV → List AV
  | true :: m, _ :: cs1, c :: cs => c :: back m cs1 cs
  | false :: m, c1 :: cs1, _ :: cs => c1 :: back m cs1 cs
  | _, _, _ => []
def oneK : Nat → List AV → List HO
  | 0, cs => [.cells cs]
  | l + 1, cs => .dead :: oneK l cs
theorem blend_rep : ∀ {m : List Bool} {cs : List AV} {vs : List Value}, m.length = cs.length → Reps C w cs mu vs → Reps C w (blend m cs vs) mu vs
  | [], [], _, _, h => by unfold Reps at h; subst h; unfold blend Reps; rfl
  | [], _ :: _, _, hm, _ => by cases hm
  | _ :: _, [], _, hm, _ => by cases hm
  | b :: m, c :: cs, _, hm, h => by
    unfold Reps at h
    obtain ⟨v, vs', rfl, h1, h2⟩ := h
    cases b with
    | true => unfold blend Reps; exact ⟨v, vs', rfl, by unfold Rep; rfl, blend_rep (by simpa using hm) h2⟩
    | false => unfold blend Reps; exact ⟨v, vs', rfl, h1, blend_rep (by simpa using hm) h2⟩
theorem back_rep (hx : Ext C C' w w') (hle : MuLe mu mu') : ∀ {m : List Bool} {cs1 cs : List AV} {vs us : List Value}, m.length = cs.length → cs1.length = cs.length → Reps C w cs mu vs → Reps C' w' (blend m cs1 vs) mu' us → Reps C' w' (back m cs1 cs) mu' us
  | [], [], [], _, us, _, _, h, h' => by unfold Reps at h; subst h; unfold blend Reps at h'; subst h'; unfold back Reps; rfl
  | b :: m, c1 :: cs1, c :: cs, _, us, hm, hl, h, h' => by
    unfold Reps at h
    obtain ⟨v, vs', rfl, h1, h2⟩ := h
    cases b with
    | true =>
      unfold blend Reps at h'
      obtain ⟨u, us', rfl, k1, k2⟩ := h'
      unfold Rep at k1
      subst k1
      unfold back Reps
      exact ⟨_, us', rfl, Rep.mono hx _ hle h1, back_rep hx hle (by simpa using hm) (by simpa using hl) h2 k2⟩
    | false =>
      unfold blend Reps at h'
      obtain ⟨u, us', rfl, k1, k2⟩ := h'
      unfold back Reps
      exact ⟨u, us', rfl, k1, back_rep hx hle (by simpa using hm) (by simpa using hl) h2 k2⟩
  | [], _, _ :: _, _, _, hm, _, _, _ => by cases hm
  | _ :: _, _, [], _, _, hm, _, _, _ => by cases hm
  | [], _ :: _, [], _, _, _, hl, _, _ => by cases hl
  | _ :: _, [], _ :: _, _, _, _, hl, _, _ => by cases hl
theorem oneK_len : ∀ (l : Nat) (cs : List AV), (oneK l cs).length = l + 1
  | 0, _ => rfl
  | l + 1, cs => by simp [oneK, oneK_len l cs]
theorem oneK_real : ∀ (l : Nat) (cs : List AV) (i : Nat), realAt (oneK l cs) i = true → i = l
  | 0, cs, 0, _ => rfl
  | 0, cs, i + 1, h => by
    obtain ⟨ob, h1, _⟩ := realAt_iff.1 h
    simp [oneK] at h1
  | l + 1, cs, 0, h => by
    obtain ⟨ob, h1, h2⟩ := realAt_iff.1 h
    simp [oneK] at h1
    subst h1; cases h2
  | l + 1, cs, i + 1, h => by
    obtain ⟨ob, h1, h2⟩ := realAt_iff.1 h
    rw [oneK_real l cs i (realAt_iff.2 ⟨ob, by simpa [oneK] using h1, h2⟩)]
theorem oneK_get : ∀ (l : Nat) (cs : List AV), (oneK l cs)[l]? = some (.cells cs)
  | 0, _ => rfl
  | l + 1, cs => by simpa [oneK] using oneK_get l cs
theorem oneK_arr : ∀ (l : Nat) (cs : List AV) (i : Nat), arrAt (oneK l cs) i = false
  | 0, cs, 0 => rfl
  | 0, cs, i + 1 => rfl
  | l + 1, cs, 0 => rfl
  | l + 1, cs, i + 1 => oneK_arr l cs i
mutual
theorem scr_id (h : ∀ i, arrAt H0 i = false) : ∀ x : AV, scr H0 x = x
  | .own k sz lo n => by unfold scr; rw [h k]
  | .el k sz i o => by unfold scr; rw [h k]
  | .fn f cap => by unfold scr; rw [scrs_id h cap]
  | .mv f cap => by unfold scr; rw [scrs_id h cap]
  | .iface t x => by unfold scr; rw [scr_id h x]
  | .agg cs => by unfold scr; rw [scrs_id h cs]
  | .tuple vs => by unfold scr; rw [scrs_id h vs]
  | .any => by unfold scr; rfl
  | .int _ _ => by unfold scr; rfl
  | .bool _ => by unfold scr; rfl
  | .lit _ => by unfold scr; rfl
  | .str _ => by unfold scr; rfl
  | .sl _ _ => by unfold scr; rfl
  | .at_ _ => by unfold scr; rfl
  | .raw _ => by unfold scr; rfl
  | .ptr _ _ => by unfold scr; rfl
  | .mp _ _ => by unfold scr; rfl
  | .om _ => by unfold scr; rfl
theorem scrs_id (h : ∀ i, arrAt H0 i = false) : ∀ xs : List AV, scrs H0 xs = xs
  | [] => by unfold scrs; rfl
  | x :: xs => by unfold scrs; rw [scr_id h x, scrs_id h xs]
end
theorem scrH_id (h : ∀ i, arrAt H0 i = false) (o : HO) : scrH H0 o = o := by
  cases o <;> simp [scrH, scrs_id h]
/-- The cells of a variable, said otherwise. -/
theorem StC.recell (hst : StC G C mu E H a w) {l : Nat} {cs cs' : List AV} (hl : H[l]? = some (.cells cs)) (h : ∀ b cur e, mu l = some (.blk b) → w.heap[b]? = some (.cells cur e (0, 0)) → Reps C w cs mu cur.toList → Reps C w cs' mu cur.toList) : StC G C mu E (H.set l (.cells cs')) a w := by
  have hlt : l < H.length := (List.getElem?_eq_some_iff.1 hl).1
  have hg : ∀ {k : Nat} {ob : HO}, (H.set l (.cells cs'))[k]? = some ob → k ≠ l → H[k]? = some ob := fun {k ob} hk hkl => by
    rwa [List.getElem?_set_ne (fun e => hkl e.symm)] at hk
  have hs : ∀ {ob : HO}, (H.set l (.cells cs'))[l]? = some ob → ob = .cells cs' := fun {ob} hk => by
    rw [List.getElem?_set_self hlt] at hk; simpa using hk.symm
  refine ⟨hst.c0, hst.c1, hst.lt, ⟨fun i g hi => by simpa using hst.heap.dom i g hi, hst.heap.fresh, hst.heap.sep, fun k hk => ?_, fun k cs2 hk => ?_, fun k e sz es hk => ?_, fun k ks vs hk => ?_⟩, hst.env, ?_, hst.keep, by simpa using hst.pin.1, hst.pin.2⟩
  · by_cases hkl : k = l
    · subst hkl; cases hs hk
    · exact hst.heap.dead k (hg hk hkl)
  · by_cases hkl : k = l
    · subst hkl
      have := hs hk
      simp only [HO.cells.injEq] at this
      subst this
      obtain ⟨b, cur, e, k1, k2, k3, k4⟩ := hst.heap.recs k cs hl
      exact ⟨b, cur, e, k1, k2, h b cur e k1 k2 k3, k4⟩
    · exact hst.heap.recs k cs2 (hg hk hkl)
  · by_cases hkl : k = l
    · subst hkl; cases hs hk
    · exact hst.heap.arrs k e sz es (hg hk hkl)
  · by_cases hkl : k = l
    · subst hkl; cases hs hk
    · exact hst.heap.maps k ks vs (hg hk hkl)
  · obtain ⟨ms, d1, d2⟩ := hst.defers
    have hg2 : ∀ {k : Nat} {ob : HO}, (H.set l (.cells cs'))[k]? = some ob → ob.real = false → H[k]? = some ob := fun {k ob} hk hre => by
      by_cases hkl : k = l
      · subst hkl; rw [hs hk] at hre; cases hre
      · exact hg hk hkl
    exact ⟨ms, d1, ⟨fun k cs' vs gm hk => d2.ghosts k cs' vs gm (hg2 hk rfl), fun k I hk => by
      obtain ⟨h0, Sw, Sr, q1, q2, q3, q4⟩ := d2.invs k I (hg2 hk rfl)
      exact ⟨h0, Sw, Sr, q1, q2, q3, fun k' cs' vs gm hk' => q4 k' cs' vs gm (hg2 hk' rfl)⟩, d2.marks, d2.nd, fun k k' cs' vs gm cs2 vs2 gm2 hk hk' => d2.sep k k' cs' vs gm cs2 vs2 gm2 (hg2 hk rfl) (hg2 hk' rfl)⟩⟩
theorem oneK_hand {l : Nat} {cs : List AV} {F : List HO} (hw : withins F cs = true) : ∀ {H : List HO} (l : Nat), H[l]? = some (.cells cs) → handK F (oneK l cs) H True
  | [], l, h => by simp at h
  | o :: r, 0, h => by
    simp at h; subst h
    unfold oneK handK
    exact ⟨rfl, hw, by unfold handK; trivial⟩
  | o :: r, l + 1, h => by
    unfold oneK handK
    exact oneK_hand (l := l) hw l (by simpa using h)

theorem ACall.of_hr {f : FuncId} {args : List AV} {l : Nat} (m : List Bool) {cs : List AV} {R X' : List Value → AV → List HO → Prop} {K : AV → KK} {X : XX} (hl : H[l]? = some (.cells cs)) (hm : m.length = cs.length)
    (h : ∀ vs : List Value, vs.length = cs.length → HCtr P f args (oneK l (blend m cs vs)) (R vs) (X' vs))
    (hw : ∀ c, withins (oneK l c) args = true) (hwc : ∀ vs : List Value, vs.length = cs.length → withins (oneK l (blend m cs vs)) (blend m cs vs) = true)
    (hk : ∀ (vs : List Value) r H1, vs.length = cs.length → R vs r H1 → ∃ cs1, H1 = oneK l (blend m cs1 vs) ∧ cs1.length = cs.length ∧ updK H l (.cells (back m cs1 cs)) fun H' => K r E H')
    (hx : ∀ (vs : List Value) r H1, vs.length = cs.length → X' vs r H1 → ∃ cs1, H1 = oneK l (blend m cs1 vs) ∧ cs1.length = cs.length ∧ updK H l (.cells (back m cs1 cs)) fun H' => X (.panic r) E H') : ACall P f args E H K X := by
  refine ⟨(h (cs.map fun _ => undef) (by simp)).good, fun G C mu a w vs0 hP hst hr => ?_⟩
  obtain ⟨b, cur, e0, hb, hcell, hcs, hone⟩ := hst.heap.recs l cs hl
  have hlen : cur.toList.length = cs.length := reps_len _ hcs
  have hlt : l < H.length := (List.getElem?_eq_some_iff.1 hl).1
  have hst2 : StC G C mu E (H.set l (.cells (blend m cs cur.toList))) a w := hst.recell hl fun b' cur' e' k1 k2 k3 => by
    rw [hb] at k1
    simp only [Option.some.injEq, GO.blk.injEq] at k1
    subst k1
    rw [hcell] at k2
    simp only [Option.some.injEq, Obj.cells.injEq] at k2
    obtain ⟨rfl, _⟩ := k2
    exact blend_rep hm hcs
  have hgl : (H.set l (.cells (blend m cs cur.toList)))[l]? = some (.cells (blend m cs cur.toList)) := by rw [List.getElem?_set_self hlt]
  have hh : handK (oneK l (blend m cs cur.toList)) (oneK l (blend m cs cur.toList)) (H.set l (.cells (blend m cs cur.toList))) True := oneK_hand (l := l) (hwc _ hlen) l hgl
  have hct := h cur.toList hlen
  refine (hct.out C (mu.only (oneK l (blend m cs cur.toList))) w vs0 hst.cok (only_rel hst2 hh) (withins_rep args (hw _) hr)).mono fun e w' hp => ?_
  obtain ⟨r, v, H1, C', mu', hout, hpost, hrel, hrep, hlen1, hreal, hdead⟩ := hp
  have hext : Ext C C' w w' := Ext.of_block (hpost.sub) fun b o hc => hpost.same.block b ⟨hst.lt b o hc, fun l g hl hg => (hst.heap.fresh l g b (only_some hl).2 hg).2.2 o hc⟩
  have hr0 : realAt (oneK l (blend m cs cur.toList)) l = true := realAt_iff.2 ⟨_, oneK_get _ _, rfl⟩
  have hmule : MuLe mu (mu.mix mu' (oneK l (blend m cs cur.toList))) := fun i g hi => by
    cases hri : realAt (oneK l (blend m cs cur.toList)) i with
    | false => rw [mix_ne hri]; exact hi
    | true =>
      rw [mix_eq hri]
      have := oneK_real _ _ _ hri
      subst this
      rw [hb] at hi
      simp only [Option.some.injEq] at hi
      subst hi
      exact hpost.pin i b (by rw [only_eq hri]; exact hb)
  have key : ∀ cs1, H1 = oneK l (blend m cs1 cur.toList) → cs1.length = cs.length →
      StC G C' (mu.mix mu' (oneK l (blend m cs cur.toList))) E (H.set l (.cells (back m cs1 cs))) a w' ∧ MuLe mu' (mu.mix mu' (oneK l (blend m cs cur.toList))) := fun cs1 hH1 hl1 => by
    subst hH1
    obtain ⟨m1, m2⟩ := merged (H' := H.set l (.cells (blend m cs1 cur.toList))) hst2 hh hpost hrel hlen1 hreal hdead (by simp)
      (fun i hi => by
        have := oneK_real _ _ _ hi
        subst this
        rw [List.getElem?_set_self hlt, oneK_get])
      (fun i hi => by
        have hne : ¬ l = i := fun e => by subst e; rw [hr0] at hi; cases hi
        rw [List.getElem?_set_ne hne, List.getElem?_set_ne hne]
        cases H[i]? with
        | none => rfl
        | some o => simp [scrH_id (oneK_arr l _)])
    refine ⟨?_, m2⟩
    rw [scrs_id (oneK_arr l _)] at m1
    have h3 := m1.recell (l := l) (cs := blend m cs1 cur.toList) (cs' := back m cs1 cs) (List.getElem?_set_self hlt) fun b' cur' e' k1 k2 k3 => back_rep hext hmule hm hl1 hcs k3
    rwa [List.set_set] at h3
  rcases hout with ⟨rfl, hR⟩ | ⟨rfl, hR⟩
  · obtain ⟨cs1, h1, h2, h3⟩ := hk _ r H1 hlen hR
    rw [updK_iff] at h3
    obtain ⟨m1, m2⟩ := key cs1 h1 h2
    exact .inl ⟨r, v, _, _, C', _, rfl, h3, m1, Rep.mono (Ext.refl _ _) _ m2 hrep⟩
  · obtain ⟨cs1, h1, h2, h3⟩ := hx _ r H1 hlen hR
    rw [updK_iff] at h3
    obtain ⟨m1, m2⟩ := key cs1 h1 h2
    exact .inr ⟨r, v, _, _, C', _, rfl, h3, m1, Rep.mono (Ext.refl _ _) _ m2 hrep⟩
end
end Go.Av

/-
  AV: a region whose order is open, every order by itself (for regions in which a call stands beside operations that read).
-/
set_option linter.unusedSimpArgs false
set_option linter.unusedVariables false
set_option linter.unusedSectionVars false
namespace Go.Av
/-- The orders: which operation comes first, and what then; the other ones that may come first. -/
inductive OT where
  | done
  | none
  | one (j : Nat) (t r : OT)
def OT.isNone : OT → Bool
  | .none => true
  | _ => false
section
variable {G : Cx} {C : CellSet} {w w' : World} {mu : Mu} {H : List HO} {E : List AV} {a : Act} {T : List TY} {P : Program} {ops : Array Oper} {K : KK} {X : XX}
def okT (ops : Array Oper) : OT → Nat → Array Bool → List Nat → Bool
  | .done, _, listed, rs => rs.isEmpty && (Region.ready .any ops listed).isEmpty
  | .none, _, _, rs => rs.isEmpty
  | .one j t r, f + 1, listed, i :: rs => Nat.beq i j && !t.isNone && okT ops t f (listed.setIfInBounds j true) (Region.ready .any ops (listed.setIfInBounds j true)) && okT ops r (f + 1) listed rs
  | .one _ _ _, _, _, _ => false
def drawT (ops : Array Oper) (t : OT) : Bool := !t.isNone && okT ops t ops.size (Array.replicate ops.size false) (Region.ready .any ops (Array.replicate ops.size false))
def enT (P : Program) (T : List TY) (ops : List Oper) (K : KK) (X : XX) : OT → List AV → List HO → Prop
  | .done, E, H => K E H
  | .none, _, _ => True
  | .one j t r, E, H => (∃ o Kw, ops[j]? = some o ∧ wstK P T ops o E H Kw X ∧ ∀ E' H', Kw E' H' → enT P T ops K X t E' H') ∧ enT P T ops K X r E H
/-- The same, closed; one step of it. -/
structure EnF (P : Program) (T : List TY) (ops : List Oper) (K : KK) (X : XX) (t : OT) (E : List AV) (H : List HO) : Prop where
  out : enT P T ops K X t E H
def en1 (P : Program) (T : List TY) (ops : List Oper) (K : KK) (X : XX) (t : OT) (E : List AV) (H : List HO) : Prop :=
  match t with
  | .done => K E H
  | .none => True
  | .one j t r => (lkK ops j fun o => wstK P T ops o E H (fun E' H' => EnF P T ops K X t E' H') X) ∧ EnF P T ops K X r E H
theorem EnF.step {lops : List Oper} {t : OT} (h : en1 P T lops K X t E H) : EnF P T lops K X t E H := by
  cases t with
  | done => exact ⟨h⟩
  | none => exact ⟨h⟩
  | one j t r =>
    obtain ⟨h1, h2⟩ := h
    replace h1 := (lkK_iff _ _ _).1 h1; obtain ⟨o, ho, h1⟩ := h1
    exact ⟨⟨o, _, ho, h1, fun _ _ h => h.out⟩, h2.out⟩
def allW : Nat → List Nat
  | 0 => []
  | n + 1 => n :: allW n
theorem allW_mem : ∀ {n i : Nat}, i < n → memB (allW n) i = true
  | n + 1, i, h => by
    unfold allW memB
    split
    · rfl
    · rename_i hb
      have := Nat.ne_of_beq_eq_false hb
      exact allW_mem (by omega)
theorem en_any {n0 : Nat} : ∀ (t : OT) (f : Nat) (listed : Array Bool) (rs : List Nat) (E : List AV) (H : List HO), okT ops t f listed rs = true → enT P T ops.toList K X t E H →
    (∀ i ∈ rs, ∃ f', f = f' + 1 ∧ dOp P T ops n0 (allW ops.size) K X i (anyD P T ops n0 (allW ops.size) K X f' (listed.setIfInBounds i true)) E H) ∧ (t.isNone = false → rs = Region.ready .any ops listed → anyD P T ops n0 (allW ops.size) K X f listed E H)
  | .done, f, listed, rs, E, H, hB, h => by
    unfold okT at hB
    simp only [Bool.and_eq_true, List.isEmpty_iff] at hB
    obtain ⟨rfl, hr⟩ := hB
    refine ⟨fun i hi => by simp at hi, fun _ _ => ?_⟩
    cases f with
    | zero => unfold anyD; exact fun _ => ⟨hr, h⟩
    | succ f => unfold anyD; exact fun _ => ⟨fun _ => h, fun i hi => by rw [hr] at hi; simp at hi⟩
  | .none, f, listed, rs, E, H, hB, h => by
    unfold okT at hB
    simp only [List.isEmpty_iff] at hB
    subst hB
    exact ⟨fun i hi => by simp at hi, fun hn => by cases hn⟩
  | .one j t r, f, listed, rs, E, H, hB, h => by
    cases f with
    | zero => unfold okT at hB; cases hB
    | succ f =>
      cases rs with
      | nil => unfold okT at hB; cases hB
      | cons i rs =>
        unfold okT at hB
        simp only [Bool.and_eq_true, Bool.not_eq_true'] at hB
        obtain ⟨⟨⟨h1, h2⟩, h3⟩, h4⟩ := hB
        obtain rfl := Nat.eq_of_beq_eq_true h1
        unfold enT at h
        obtain ⟨k1, k2⟩ := h
        obtain ⟨o, Kw, ho, k1, k3⟩ := k1
        have ho' : ops[i]? = some o := by simpa using ho
        have hlt : i < ops.size := (Array.getElem?_eq_some_iff.1 ho').1
        have hd : dOp P T ops n0 (allW ops.size) K X i (anyD P T ops n0 (allW ops.size) K X f (listed.setIfInBounds i true)) E H := by
          unfold dOp
          rw [ho']; simp only
          rw [allW_mem hlt]; simp only
          exact ⟨_, k1, fun E1 H1 hk => (en_any (n0 := n0) t f _ _ E1 H1 h3 (k3 _ _ hk)).2 h2 rfl⟩
        have hr := (en_any (n0 := n0) r (f + 1) listed rs E H h4 k2).1
        have hall : ∀ i' ∈ i :: rs, ∃ f', f + 1 = f' + 1 ∧ dOp P T ops n0 (allW ops.size) K X i' (anyD P T ops n0 (allW ops.size) K X f' (listed.setIfInBounds i' true)) E H := by
          intro i' hi'
          rcases List.mem_cons.1 hi' with rfl | hi'
          · exact ⟨f, rfl, hd⟩
          · exact hr i' hi'
        refine ⟨hall, fun _ hrs => ?_⟩
        unfold anyD
        refine fun _ => ⟨fun h0 => (by rw [← hrs] at h0; cases h0), fun i' hi' => ?_⟩
        rw [← hrs] at hi'
        obtain ⟨f', e, hh⟩ := hall i' hi'
        cases e
        exact hh
theorem ACode.drawAll {id : Nat} (t : OT) (hT : TOk P T) (hm : P.follows .mixedOrders = true) (hB : drawT ops t = true) (h : EnF P T ops.toList K X t E H) : ACode P (.region id ops true) E H K X := by
  refine ⟨fun n G a w hP hst => ?_⟩
  subst hP
  obtain ⟨C, mu, hst⟩ := hst
  have hst' : StC G C mu E H a w.drew := hst.drew
  unfold drawT at hB
  simp only [Bool.and_eq_true, Bool.not_eq_true'] at hB
  have h1 := (en_any (n0 := H.length) t _ _ _ E H hB.2 h.out).2 hB.1 rfl
  refine wpIn_region_any hm ?_
  have h2 := anyD_sound (r := G.rd) (n := n) hT _ _ _ _ a _ h1 ⟨C, mu, hst'⟩
  simpa using h2
theorem KCode.drawAll {id : Nat} (t : OT) (hT : TOk P T) (hm : P.follows .mixedOrders = true) (hq : (ops.toList.all fun o => quietOp o.op) = true) (hB : drawT ops t = true) (h : EnF P T ops.toList K X t E H) : KCode P (.region id ops true) E H K X := by
  refine ⟨fun n G a w d hP hrd hst hd => ?_⟩
  subst hP
  obtain ⟨C, mu, hst⟩ := hst
  have hst' : StC G C mu E H a w.drew := hst.drew
  unfold drawT at hB
  simp only [Bool.and_eq_true, Bool.not_eq_true'] at hB
  have h1 := (en_any (n0 := H.length) t _ _ _ E H hB.2 h.out).2 hB.1 rfl
  refine wpIn_region_any hm ?_
  have h2 := anyD_sound (r := none) (n := n) hT _ _ _ _ a _ h1 ⟨C, mu, hst'⟩
  exact wpAny_keep hq _ _ hd (by simpa using h2)
end
end Go.Av

/-
  AV: what is known behind a piece of code, said once for all its ends.
-/
set_option linter.unusedSimpArgs false
set_option linter.unusedVariables false
set_option linter.unusedSectionVars false
namespace Go.Av
section
variable {H : List HO} {E : List AV} {T : List TY} {P : Program}
theorem ACode.cutK {x y : Code} {ι : Type} (tm : ι → List AV) (hp : ι → List HO) (pre : ι → Prop) {K : KK} {X : XX} (ok : ∀ i, pre i → withins (hp i) (tm i) = true ∧ objsOK (hp i) (hp i) True) (len : ∀ i, H.length ≤ (hp i).length)
    (h1 : ACode P x E H (fun E' H' => ∃ j, leK E' (tm j) (hpreK H' (hp j) (pre j))) X) (h2 : ∀ j, pre j → ACode P y (tm j) (hp j) K X) : ACode P x E H (fun E H => ACode P y E H K X) X := by
  refine ⟨fun n G a w hP hst => ?_⟩
  have hnp : G.np ≤ H.length := by obtain ⟨C, mu, h⟩ := hst; exact h.pin.1
  refine wpIn_mono (h1.out n G a w hP hst) fun e a' w' hq => ?_
  cases e with
  | normal =>
    obtain ⟨E', H', ⟨j, hj⟩, hst'⟩ := hq
    obtain ⟨hle', hj⟩ := leK_iff _ _ _ hj
    obtain ⟨hpj, R, rfl⟩ := hpreK_iff hj
    obtain ⟨C, mu, hst'⟩ := hst'.le hle'
    exact ⟨tm j, hp j, h2 j hpj, C, _, hst'.drop (ok j hpj).1 (ok j hpj).2 (Nat.le_trans hnp (len j))⟩
  | exit id => exact hq
  | ret => exact hq
  | panic c => exact hq
  | goto l => exact hq
  | outgrown => exact hq
end
end Go.Av

/-
  AV: a region whose order is open, in which a part of a call's result may be taken before or behind a store through a pointer.
-/
set_option linter.unusedSimpArgs false
set_option linter.unusedVariables false
set_option linter.unusedSectionVars false
namespace Go.Av
section
variable {G : Cx} {C : CellSet} {w w' : World} {mu : Mu} {H : List HO} {E : List AV} {a : Act} {T : List TY} {P : Program} {ops : Array Oper} {n0 i j : Nat} {o oi oj : Oper} {we : List Nat} {K : KK} {X : XX}
def exB (o : Oper) : Bool := match o.op with | .extract (.tmp _) _ => o.guard.isNone && o.dst.isSome | _ => false
def stB (o : Oper) : Bool := match o.op with | .store _ (.tmp _) (.tmp _) => o.guard.isNone && o.dst.isNone | _ => false
/-- A move, or reckoning with two values. -/
def pvB (o : Oper) : Bool := match o.op with | .move (.tmp _) => o.guard.isNone && o.dst.isSome | .binOp _ _ _ _ _ => o.guard.isNone && o.dst.isSome | _ => false
def swB (oi oj : Oper) : Bool := (mvB oi && apB oj) || ((exB oi && stB oj) || (pvB oi && stB oj))
/-- Nothing in it leads to an array of one's own. -/
def noOwn (v : AV) : Bool := match v with | .own _ _ _ _ => false | .agg cs => cs.all noArr | _ => true
theorem frzCs_none : ∀ (cs : List AV) {K : KK}, cs.all noArr = true → (frzCsK cs E H K ↔ K E H)
  | [], K, _ => by unfold frzCsK; exact Iff.rfl
  | v :: r, K, h => by
    simp only [List.all_cons, Bool.and_eq_true] at h
    unfold frzCsK
    have := frzCs_none r (K := K) h.2
    cases v <;> first | exact this | exact absurd h.1 (by simp [noArr])
theorem frzV_none {v : AV} {K : KK} (h : noOwn v = true) : frzVK v E H K ↔ K E H := by
  unfold frzVK
  cases v <;> first | exact Iff.rfl | exact frzCs_none _ h | cases h
/-- A store goes through a pointer. -/
def StOK (E : List AV) (o : Oper) : Prop := match o.op with | .store _ a x => (match evD E a with | .ptr _ _ => True | .el _ _ _ _ => noOwn (evD E x) = true | _ => False) | _ => True
def stoK (E : List AV) (o : Oper) (Q : Prop) : Prop := match o.op with | .store _ a x => evK E a fun p => (match p with | .ptr _ _ => Q | .el _ _ _ _ => evK E x fun v => (match noOwn v with | true => Q | false => False) | _ => False) | _ => Q
theorem stoK_iff {E : List AV} {o : Oper} {Q : Prop} : stoK E o Q ↔ StOK E o ∧ Q := by
  unfold stoK StOK
  split
  · rw [evK_iff]
    split
    · simp
    · rw [evK_iff]
      split
      · rename_i h; simp [h]
      · rename_i h; simp [h]
    · simp
  · simp
theorem once_store {t : TypeId} {ad x : Operand} {K : AV → KK} {l k : Nat} (hp : evD E ad = .ptr l k) (h : storeK T E H t ad x K) :
    ∃ H', K (.raw undef) E H' ∧ ∀ (E2 : List AV), evD E2 ad = evD E ad → evD E2 x = evD E x → ∀ K' : AV → KK, K' (.raw undef) E2 H' → storeK T E2 H t ad x K' := by
  unfold storeK at h
  obtain ⟨y, hy, h⟩ := (lkK_iff _ _ _).1 h
  rw [evK_iff, evK_iff, cellsK_iff, hp] at h
  split at h
  case h_2 => exact h.elim
  rename_i hc
  simp only at h
  obtain ⟨ob, hob, h⟩ := (lkK_iff _ _ _).1 h
  split at h
  case h_2 => exact h.elim
  split at h
  case h_2 => exact h.elim
  rename_i hb
  rw [putsK_iff, updK_iff] at h
  refine ⟨_, h, fun E2 e1 e2 K' k => ?_⟩
  unfold storeK
  refine (lkK_iff _ _ _).2 ⟨y, hy, ?_⟩
  rw [evK_iff, evK_iff, cellsK_iff, e1, e2, hp]
  simp only [hc]
  refine (lkK_iff _ _ _).2 ⟨_, hob, ?_⟩
  simp only [hb]
  rw [putsK_iff, updK_iff]
  exact k
theorem once_store_el {t : TypeId} {ad x : Operand} {K : AV → KK} {l z i k : Nat} (hp : evD E ad = .el l z i k) (h : storeK T E H t ad x K) :
    ∃ H', K (.raw undef) E H' ∧ ∀ (E2 : List AV), evD E2 ad = evD E ad → evD E2 x = evD E x → ∀ K' : AV → KK, K' (.raw undef) E2 H' → storeK T E2 H t ad x K' := by
  unfold storeK at h
  obtain ⟨y, hy, h⟩ := (lkK_iff _ _ _).1 h
  rw [evK_iff, evK_iff, cellsK_iff, hp] at h
  split at h
  case h_2 => exact h.elim
  rename_i hc
  simp only at h
  obtain ⟨ob, hob, h⟩ := (lkK_iff _ _ _).1 h
  split at h
  case h_2 => exact h.elim
  split at h
  case h_2 => exact h.elim
  rename_i hb
  obtain ⟨old, hold, h⟩ := h
  rw [cellsK_iff] at h
  split at h
  case h_2 => exact h.elim
  rename_i hb2
  split at h
  · rename_i hb3
    rw [updK_iff] at h
    refine ⟨_, h, fun E2 e1 e2 K' k => ?_⟩
    unfold storeK
    refine (lkK_iff _ _ _).2 ⟨y, hy, ?_⟩
    rw [evK_iff, evK_iff, cellsK_iff, e1, e2, hp]
    simp only [hc]
    refine (lkK_iff _ _ _).2 ⟨_, hob, ?_⟩
    simp only [hb]
    refine ⟨old, hold, ?_⟩
    rw [cellsK_iff]
    simp only [hb2, hb3]
    rw [updK_iff]
    exact k
  · rename_i hb3
    rw [putsK_iff, updK_iff] at h
    refine ⟨_, h, fun E2 e1 e2 K' k => ?_⟩
    unfold storeK
    refine (lkK_iff _ _ _).2 ⟨y, hy, ?_⟩
    rw [evK_iff, evK_iff, cellsK_iff, e1, e2, hp]
    simp only [hc]
    refine (lkK_iff _ _ _).2 ⟨_, hob, ?_⟩
    simp only [hb]
    refine ⟨old, hold, ?_⟩
    rw [cellsK_iff]
    simp only [hb2, hb3]
    rw [putsK_iff, updK_iff]
    exact k
theorem ex_over (hmi : exB oi = true) (hmj : stB oj = true) (p1 : ∀ t, oi.dst = some t → t ∉ oj.looksAt ops) {Kw : KK}
    (h : stK P T ops.toList n0 i oi E H fun E' H' => StOK E' oj ∧ wstK P T ops.toList oj E' H' Kw X) : StOK E oj ∧ wstK P T ops.toList oj E H (fun E1 H1 => stK P T ops.toList n0 i oi E1 H1 Kw) X := by
  obtain ⟨idst, iop, ity, ipos, iaft, igd⟩ := oi
  obtain ⟨jdst, jop, jty, jpos, jaft, jgd⟩ := oj
  unfold exB at hmi
  unfold stB at hmj
  simp only at hmi hmj
  cases iop <;> first | cases hmi | skip
  rename_i x m
  cases x <;> first | cases hmi | skip
  rename_i s
  cases igd <;> simp at hmi
  cases idst <;> simp at hmi
  rename_i d
  cases jop <;> first | cases hmj | skip
  rename_i st ad xx
  cases ad <;> first | cases hmj | skip
  rename_i ta
  cases xx <;> first | cases hmj | skip
  rename_i tx
  cases jgd <;> simp at hmj
  subst hmj
  have hd := p1 d rfl
  have q1 : (Operand.tmp ta) ≠ .tmp d := fun e => hd (by cases e; simp [Oper.looksAt, Op.operands])
  have q2 : (Operand.tmp tx) ≠ .tmp d := fun e => hd (by cases e; simp [Oper.looksAt, Op.operands])
  have ev1 : ∀ {v : AV} {x : Operand}, x ≠ .tmp d → evD (E.set d v) x = evD E x := fun {v x} hx => by
    have := evD_upd (E := E) (d := some d) (x := v) (y := x) (fun t ht he => hx (by cases ht; exact he))
    simpa [updO] using this
  have ex : ∀ {E : List AV} {H : List HO} {K : KK}, stK P T ops.toList n0 i { dst := some d, op := .extract (.tmp s) m, type := ity, pos := ipos, after := iaft, guard := none } E H K ↔ ∃ vs v, evD E (.tmp s) = .tuple vs ∧ vs[m]? = some v ∧ nbK v fun v => K (E.set d v) H := fun {E H K} => by
    unfold stK gd2 rK pureK
    simp only [evK_iff, setOK, updOK_iff, updO]
    constructor
    · intro h
      split at h
      · rename_i vs hv
        obtain ⟨v, hv2, h⟩ := (lkK_iff _ _ _).1 h
        rw [AV.force_iff] at h
        exact ⟨vs, v, hv, hv2, h⟩
      · exact h.elim
    · intro ⟨vs, v, hv, hv2, h⟩
      rw [hv]
      refine (lkK_iff _ _ _).2 ⟨v, hv2, ?_⟩
      rw [AV.force_iff]
      exact h
  rw [ex] at h
  obtain ⟨vs, v, hv, hv2, h⟩ := h
  obtain ⟨u, ⟨h0, h1⟩, hu, _, _⟩ := once_nb h
  unfold StOK at h0 ⊢
  simp only at h0 ⊢
  rw [ev1 q1, ev1 q2] at h0
  refine ⟨h0, ?_⟩
  have wst : ∀ {E : List AV} {H : List HO} {K : KK}, ((∃ l k, evD E (.tmp ta) = .ptr l k) ∨ ∃ l z i k, evD E (.tmp ta) = .el l z i k ∧ noOwn (evD E (.tmp tx)) = true) → (wstK P T ops.toList { dst := none, op := .store st (.tmp ta) (.tmp tx), type := jty, pos := jpos, after := jaft, guard := none } E H K X ↔ storeK T E H st (.tmp ta) (.tmp tx) (fun v E' H' => nbK v fun v => K E' H')) := fun {E H K} hp => by
    unfold wstK gd2 opK
    rcases hp with ⟨l, k, hp⟩ | ⟨l, z, i, k, hp, hn⟩
    · simp only [evK_iff, hp, updOK]
    · simp only [evK_iff, hp, updOK]
      exact frzV_none hn
  generalize hp : evD E (.tmp ta) = p at h0
  have hpp : (∃ l k, p = .ptr l k) ∨ ∃ l z i k, p = .el l z i k ∧ noOwn (evD E (.tmp tx)) = true := by cases p <;> first | exact .inl ⟨_, _, rfl⟩ | exact .inr ⟨_, _, _, _, rfl, h0⟩ | exact h0.elim
  rw [wst (by rw [ev1 q1, ev1 q2, hp]; exact hpp)] at h1
  rw [wst (by rw [hp]; exact hpp)]
  obtain ⟨H', h2, h3⟩ : ∃ H', nbK (.raw undef) (fun v => Kw (E.set d u) H') ∧ ∀ (E2 : List AV), evD E2 (.tmp ta) = evD (E.set d u) (.tmp ta) → evD E2 (.tmp tx) = evD (E.set d u) (.tmp tx) → ∀ K' : AV → KK, K' (.raw undef) E2 H' → storeK T E2 H st (.tmp ta) (.tmp tx) K' := by
    rcases hpp with ⟨l, k, rfl⟩ | ⟨l, z, i, k, rfl, _⟩
    · exact once_store (by rw [ev1 q1]; exact hp) h1
    · exact once_store_el (by rw [ev1 q1]; exact hp) h1
  refine h3 E (ev1 q1).symm (ev1 q2).symm _ ?_
  unfold nbK at h2 ⊢
  simp only at h2 ⊢
  rw [ex]
  exact ⟨vs, v, hv, hv2, hu _ h2⟩
theorem pv_over (hmi : pvB oi = true) (hmj : stB oj = true) (p1 : ∀ t, oi.dst = some t → t ∉ oj.looksAt ops) {Kw : KK}
    (h : stK P T ops.toList n0 i oi E H fun E' H' => StOK E' oj ∧ wstK P T ops.toList oj E' H' Kw X) : StOK E oj ∧ wstK P T ops.toList oj E H (fun E1 H1 => stK P T ops.toList n0 i oi E1 H1 Kw) X := by
  obtain ⟨idst, iop, ity, ipos, iaft, igd⟩ := oi
  obtain ⟨jdst, jop, jty, jpos, jaft, jgd⟩ := oj
  unfold pvB at hmi
  unfold stB at hmj
  simp only at hmi hmj
  obtain ⟨hg, hdd⟩ : igd = none ∧ ∃ d, idst = some d := by
    cases iop <;> first | cases hmi | skip
    · rename_i x
      cases x <;> first | cases hmi | skip
      cases igd <;> cases idst <;> simp at hmi
      exact ⟨rfl, _, rfl⟩
    · cases igd <;> cases idst <;> simp at hmi
      exact ⟨rfl, _, rfl⟩
  obtain ⟨d, rfl⟩ := hdd
  subst hg
  cases jop <;> first | cases hmj | skip
  rename_i st ad xx
  cases ad <;> first | cases hmj | skip
  rename_i ta
  cases xx <;> first | cases hmj | skip
  rename_i tx
  cases jgd <;> simp at hmj
  subst hmj
  have hd := p1 d rfl
  have q1 : (Operand.tmp ta) ≠ .tmp d := fun e => hd (by cases e; simp [Oper.looksAt, Op.operands])
  have q2 : (Operand.tmp tx) ≠ .tmp d := fun e => hd (by cases e; simp [Oper.looksAt, Op.operands])
  have ev1 : ∀ {v : AV} {x : Operand}, x ≠ .tmp d → evD (E.set d v) x = evD E x := fun {v x} hx => by
    have := evD_upd (E := E) (d := some d) (x := v) (y := x) (fun t ht he => hx (by cases ht; exact he))
    simpa [updO] using this
  have pv : ∀ {E : List AV} {H : List HO} {K : KK}, stK P T ops.toList n0 i { dst := some d, op := iop, type := ity, pos := ipos, after := iaft, guard := none } E H K ↔ pureK T E H iop fun v => nbK v fun v => K (E.set d v) H := fun {E H K} => by
    cases iop <;> first | cases hmi | skip
    all_goals
      unfold stK gd2 rK pureK
      simp only [evK_iff, setOK, updOK_iff, updO]
  have noH : ∀ {E : List AV} {H H' : List HO} {K : AV → Prop}, pureK T E H iop K → pureK T E H' iop K := fun {E H H' K} h => by
    cases iop <;> first | cases hmi | skip
    all_goals exact h
  rw [pv] at h
  obtain ⟨r, hr, hback⟩ := once_pure h
  obtain ⟨u, ⟨h0, h1⟩, hu, _, _⟩ := once_nb hr
  unfold StOK at h0 ⊢
  simp only at h0 ⊢
  rw [ev1 q1, ev1 q2] at h0
  refine ⟨h0, ?_⟩
  have wst : ∀ {E : List AV} {H : List HO} {K : KK}, ((∃ l k, evD E (.tmp ta) = .ptr l k) ∨ ∃ l z i k, evD E (.tmp ta) = .el l z i k ∧ noOwn (evD E (.tmp tx)) = true) → (wstK P T ops.toList { dst := none, op := .store st (.tmp ta) (.tmp tx), type := jty, pos := jpos, after := jaft, guard := none } E H K X ↔ storeK T E H st (.tmp ta) (.tmp tx) (fun v E' H' => nbK v fun v => K E' H')) := fun {E H K} hp => by
    unfold wstK gd2 opK
    rcases hp with ⟨l, k, hp⟩ | ⟨l, z, i, k, hp, hn⟩
    · simp only [evK_iff, hp, updOK]
    · simp only [evK_iff, hp, updOK]
      exact frzV_none hn
  generalize hp : evD E (.tmp ta) = p at h0
  have hpp : (∃ l k, p = .ptr l k) ∨ ∃ l z i k, p = .el l z i k ∧ noOwn (evD E (.tmp tx)) = true := by cases p <;> first | exact .inl ⟨_, _, rfl⟩ | exact .inr ⟨_, _, _, _, rfl, h0⟩ | exact h0.elim
  rw [wst (by rw [ev1 q1, ev1 q2, hp]; exact hpp)] at h1
  rw [wst (by rw [hp]; exact hpp)]
  obtain ⟨H', h2, h3⟩ : ∃ H', nbK (.raw undef) (fun v => Kw (E.set d u) H') ∧ ∀ (E2 : List AV), evD E2 (.tmp ta) = evD (E.set d u) (.tmp ta) → evD E2 (.tmp tx) = evD (E.set d u) (.tmp tx) → ∀ K' : AV → KK, K' (.raw undef) E2 H' → storeK T E2 H st (.tmp ta) (.tmp tx) K' := by
    rcases hpp with ⟨l, k, rfl⟩ | ⟨l, z, i, k, rfl, _⟩
    · exact once_store (by rw [ev1 q1]; exact hp) h1
    · exact once_store_el (by rw [ev1 q1]; exact hp) h1
  refine h3 E (ev1 q1).symm (ev1 q2).symm _ ?_
  unfold nbK at h2 ⊢
  simp only at h2 ⊢
  rw [pv]
  exact noH (H := H) (hback E H (fun _ _ => rfl) (fun _ _ _ _ _ h => h) _ (hu _ h2))
theorem sw_over (hm : swB oi oj = true) (p1 : ∀ t, oi.dst = some t → t ∉ oj.looksAt ops) (p2 : ∀ t, oi.dst = some t → oj.dst ≠ some t) (p3 : ∀ t, oj.dst = some t → t ∉ oi.looksAt ops) {Kw : KK}
    (h : stK P T ops.toList n0 i oi E H fun E' H' => StOK E' oj ∧ wstK P T ops.toList oj E' H' Kw X) : StOK E oj ∧ wstK P T ops.toList oj E H (fun E1 H1 => stK P T ops.toList n0 i oi E1 H1 Kw) X := by
  unfold swB at hm
  rcases Bool.or_eq_true _ _ ▸ hm with hm | hm
  · rw [Bool.and_eq_true] at hm
    refine ⟨?_, mv_over hm.1 hm.2 p1 p2 p3 (stK_mono h fun _ _ k => k.2)⟩
    have h2 := hm.2
    unfold apB at h2
    unfold StOK
    split
    · rename_i hop; rw [hop] at h2; simp at h2
    · trivial
  · rcases Bool.or_eq_true _ _ ▸ hm with hm | hm <;> rw [Bool.and_eq_true] at hm
    · exact ex_over hm.1 hm.2 p1 h
    · exact pv_over hm.1 hm.2 p1 h
def rdK2 (P : Program) (T : List TY) (ops : List Oper) (n0 : Nat) (we : List Nat) : Nat → List Oper → List AV → List HO → KK → XX → Prop
  | _, [], E, H, K, _ => K E H
  | i, o :: r, E, H, K, X => match memB we i with
    | false => stK P T ops n0 i o E H fun E H => rdK2 P T ops n0 we (i + 1) r E H K X
    | true => stoK E o (gd2 ops E o.guard (opK none P T E H o.op (fun v E' H' => nbK v fun v => updOK E' o.dst v fun E'' => rdK2 P T ops n0 we (i + 1) r E'' H' K X) X)
        (updOK E o.dst (.raw undef) fun E' => rdK2 P T ops n0 we (i + 1) r E' H K X))
theorem stOK_of {ops' : List Oper} {Kw : KK} (h : stoK E o (wstK P T ops' o E H Kw X)) : StOK E o ∧ wstK P T ops' o E H Kw X := stoK_iff.1 h
def dOp2 (P : Program) (T : List TY) (ops : Array Oper) (n0 : Nat) (we : List Nat) (K : KK) (X : XX) (j : Nat) (Kn : KK) (E : List AV) (H : List HO) : Prop :=
  match ops[j]? with
  | none => Kn E H
  | some o => match memB we j with
    | false => stK P T ops.toList n0 j o E H Kn
    | true => ∃ Kw : KK, StOK E o ∧ wstK P T ops.toList o E H Kw X ∧ ∀ E H, Kw E H → Kn E H
def anyD2 (P : Program) (T : List TY) (ops : Array Oper) (n0 : Nat) (we : List Nat) (K : KK) (X : XX) : Nat → Array Bool → List AV → List HO → Prop
  | 0, listed, E, H => Sat P E H → Region.ready .any ops listed = [] ∧ K E H
  | fuel + 1, listed, E, H => Sat P E H → (Region.ready .any ops listed = [] → K E H) ∧
    ∀ i ∈ Region.ready .any ops listed, dOp2 P T ops n0 we K X i (anyD2 P T ops n0 we K X fuel (listed.setIfInBounds i true)) E H
theorem dOp_sound2 (hT : TOk G.P T) {r : Option Nat} {n : Nat} {Kn K : KK} (h : dOp2 G.P T ops n0 we K X i Kn E H) (hst : StC G C mu E H a w) :
    wpOpIn (fw r) n G.P ops (QOf G K X) i (fun a w => ∃ E' H', Kn E' H' ∧ St G E' H' a w) a w := by
  unfold dOp2 at h
  by_cases hwr : (∃ o, ops[i]? = some o) ∧ memB we i = true
  · obtain ⟨⟨o, ho⟩, hm⟩ := hwr
    rw [ho] at h; simp only at h; rw [hm] at h
    obtain ⟨Kw, _, h, hKw⟩ := h
    unfold wstK at h
    unfold wpOpIn
    rw [ho]; simp only
    rcases gd2_sound hst h with ⟨hw, h⟩ | ⟨hw, h⟩
    · rw [if_pos hw]
      refine op_sound hT h hst fun a' w' hp => ?_
      obtain ⟨r, E', H', hk, C', mu', hst'⟩ := hp
      obtain ⟨E1, H1, k1, k2⟩ := nb_sound (Kn := fun E H => Kw E H) hk hst'
      exact ⟨E1, H1, hKw _ _ k1, k2⟩
    · rw [if_neg (by simp [hw])]
      rw [updOK_iff] at h
      exact ⟨fun _ _ => trivial, updO E o.dst (.raw undef), H, hKw _ _ h, C, mu, hst.frame (reps_put hst.env o.dst (by unfold Rep; rfl)) (put_defers _ _ _)⟩
  unfold wpOpIn
  split
  · rename_i ho; rw [ho] at h; exact ⟨E, H, h, C, mu, hst⟩
  · rename_i o ho
    rw [ho] at h
    simp only at h
    split at h
    · rcases st_sound hT ho h hst with ⟨hw, h⟩ | ⟨hw, h⟩
      · rw [if_pos hw]; exact h
      · rw [if_neg (by simp [hw])]; exact ⟨fun _ _ => trivial, h⟩
    · rename_i hm
      exact absurd ⟨⟨o, ho⟩, hm⟩ hwr

theorem anyD_sound2 (hT : TOk G.P T) {r : Option Nat} {n : Nat} : ∀ (fuel : Nat) (listed : Array Bool) (E : List AV) (H : List HO) (a : Act) (w : World), anyD2 G.P T ops n0 we K X fuel listed E H → St G E H a w → wpAnyIn (fw r) n G.P .any ops (QOf G K X) fuel listed a w
  | 0, listed, E, H, a, w, h, hst => by
    unfold anyD2 at h
    obtain ⟨h1, h2⟩ := h ⟨G, a, w, rfl, hst⟩
    exact ⟨h1, E, H, h2, hst⟩
  | fuel + 1, listed, E, H, a, w, h, hst => by
    unfold anyD2 at h
    obtain ⟨h1, h2⟩ := h ⟨G, a, w, rfl, hst⟩
    refine ⟨fun h0 => ⟨E, H, h1 h0, hst⟩, fun i hi => ?_⟩
    obtain ⟨C, mu, hst⟩ := hst
    exact wpOpIn_mono (fun a' w' ⟨E', H', k1, k2⟩ => anyD_sound2 hT fuel _ E' H' a' w' k1 k2) (dOp_sound2 hT (h2 i hi) hst)

theorem anyD_first2 (hT : TOk P T) (hi : ops[i]? = some oi) (hwi : memB we i = false) {U : Nat → Bool} (hUi : U i = true)
    (hUp : ∀ j oj, U j = true → j ≠ i → ops[j]? = some oj → ∃ e ∈ oj.after, Region.binds .any e = true ∧ U e.on = true) :
    ∀ (fuel : Nat) (listed : Array Bool) (E : List AV) (H : List HO), (∀ j, U j = true → listed.getD j false = false) →
      (∀ j oj, ops[j]? = some oj → U j = false → listed.getD j true = false → (memB we j = false ∨ swB oi oj = true) ∧ oi.apart ops oj = true) →
      i ∈ Region.ready .any ops listed → stK P T ops.toList n0 i oi E H (anyD2 P T ops n0 we K X fuel (listed.setIfInBounds i true)) → anyD2 P T ops n0 we K X (fuel + 1) listed E H := by
  intro fuel
  induction fuel with
  | zero =>
    intro listed E H hU hap hr h
    unfold anyD2
    intro hs
    refine ⟨fun h0 => (by rw [h0] at hr; cases hr), fun j hj => ?_⟩
    by_cases hji : j = i
    · subst hji; unfold dOp2; rw [hi]; simp only; rw [hwi]; exact h
    · obtain ⟨hjun, oj, hoj, hall⟩ := mem_ready.1 hj
      have hUj : U j = false := by
        cases hu : U j with
        | false => rfl
        | true =>
          obtain ⟨e, he, hb, hue⟩ := hUp j oj hu hji hoj
          have := hall e he hb
          rw [hU _ hue] at this; cases this
      obtain ⟨hwj, hapj⟩ := hap j oj hoj hUj hjun
      exfalso
      obtain ⟨vi, obi, di, ki, ti⟩ := once_st h
      have hs' : Sat P (updO E oi.dst vi) (setO H (n0 + i) obi) := st_sat hT hi (ti E H ⟨fun _ _ => rfl, fun _ _ _ _ _ _ _ => rfl⟩ (fun _ _ _ _ _ h => h) rfl _ ⟨rfl, rfl⟩) hs
      unfold anyD2 at ki
      have := ready_mono hj hji
      rw [(ki hs').1] at this; cases this
  | succ fuel ih =>
    intro listed E H hU hap hr h
    unfold anyD2
    intro hs
    refine ⟨fun h0 => (by rw [h0] at hr; cases hr), fun j hj => ?_⟩
    by_cases hji : j = i
    · subst hji; unfold dOp2; rw [hi]; simp only; rw [hwi]; exact h
    · obtain ⟨hjun, oj, hoj, hall⟩ := mem_ready.1 hj
      have hUj : U j = false := by
        cases hu : U j with
        | false => rfl
        | true =>
          obtain ⟨e, he, hb, hue⟩ := hUp j oj hu hji hoj
          have := hall e he hb
          rw [hU _ hue] at this; cases this
      obtain ⟨hwj, hapj⟩ := hap j oj hoj hUj hjun
      have rest : ∀ E1 H1, stK P T ops.toList n0 i oi E1 H1 (anyD2 P T ops n0 we K X fuel ((listed.setIfInBounds j true).setIfInBounds i true)) → anyD2 P T ops n0 we K X (fuel + 1) (listed.setIfInBounds j true) E1 H1 := fun E1 H1 k => by
        refine ih (listed.setIfInBounds j true) E1 H1 (fun k hk => ?_) (fun k ok hk hu hun => ?_) (ready_mono hr (Ne.symm hji)) k
        · have hne : j ≠ k := fun he => by subst he; rw [hUj] at hk; cases hk
          rw [getD_set_ne false hne]; exact hU k hk
        · refine hap k ok hk hu ?_
          by_cases hjk : j = k
          · subst hjk; exact hjun
          · rw [getD_set_ne true hjk] at hun; exact hun
      unfold dOp2
      rw [hoj]; simp only
      cases hmw : memB we j with
      | false =>
        simp only
        have hc := st_comm (Kj := anyD2 P T ops n0 we K X fuel ((listed.setIfInBounds i true).setIfInBounds j true)) hT hs hi hoj (Ne.symm hji) hapj h fun E' H' hs' k => by
          unfold anyD2 at k
          have := (k hs').2 j (ready_mono hj hji)
          unfold dOp2 at this
          rw [hoj] at this; simp only at this; rw [hmw] at this; exact this
        refine stK_mono hc fun E1 H1 k => rest E1 H1 ?_
        rw [Array.setIfInBounds_comm _ _ hji]; exact k
      | true =>
        simp only
        have hmv : swB oi oj = true := by
          rcases hwj with k | k
          · rw [hmw] at k; cases k
          · simpa using k
        obtain ⟨p1, p2, p3⟩ := Oper.apart_spec hapj
        obtain ⟨vi, obi, di, ki, ti⟩ := once_st h
        have refl : AgreeG ops.toList E E oi := ⟨fun _ _ => rfl, fun _ _ _ _ _ _ _ => rfl⟩
        have hs' : Sat P (updO E oi.dst vi) (setO H (n0 + i) obi) := st_sat hT hi (ti E H refl (fun _ _ _ _ _ h => h) rfl _ ⟨rfl, rfl⟩) hs
        unfold anyD2 at ki
        have hd := (ki hs').2 j (ready_mono hj hji)
        unfold dOp2 at hd
        rw [hoj] at hd; simp only at hd; rw [hmw] at hd
        obtain ⟨Kw, hw0, hw1, hw2⟩ := hd
        have h3 := ti E H refl (fun _ _ _ _ _ h => h) rfl (fun E' H' => StOK E' oj ∧ wstK P T ops.toList oj E' H' Kw X) ⟨hw0, hw1⟩
        obtain ⟨h4, h5⟩ := sw_over hmv p1 p2 p3 h3
        refine ⟨_, h4, h5, fun E1 H1 k => rest E1 H1 (stK_mono k fun E2 H2 k2 => ?_)⟩
        rw [Array.setIfInBounds_comm _ _ hji]
        exact hw2 _ _ k2

def firstB2 (ops : Array Oper) (we : List Nat) (listed : Array Bool) (k : Nat) (U : List Nat) : Bool :=
  match ops[k]? with
  | none => false
  | some ok => memB U k && (List.range ops.size).all (fun j => (!memB U j || (!listed.getD j false)) && match ops[j]? with
      | none => true
      | some oj => (match memB U j with
        | true => Nat.beq j k || oj.after.any (fun e => Region.binds .any e && memB U e.on)
        | false => listed.getD j true || ((!memB we j || swB ok oj) && ok.apart ops oj))) && U.all fun j => decide (j < ops.size)
def lexD2 (ops : Array Oper) (we : List Nat) : Nat → Nat → Array Bool → Bool
  | 0, _, listed => (Region.ready .any ops listed).isEmpty
  | fuel + 1, k, listed => (match memB we k with
    | true => (Region.ready .any ops listed == [k])
    | false => (Region.ready .any ops listed).contains k && firstB2 ops we listed k (upSet ops k)) && lexD2 ops we fuel (k + 1) (listed.setIfInBounds k true)
def drawB2 (ops : Array Oper) (we : List Nat) : Bool := lexD2 ops we ops.size 0 (Array.replicate ops.size false)
theorem anyD_lex2 (hT : TOk P T) : ∀ (l : List Oper) (k : Nat) (listed : Array Bool) (E : List AV) (H : List HO), (∀ j, l[j]? = ops[k + j]?) →
    lexD2 ops we l.length k listed = true → rdK2 P T ops.toList n0 we k l E H K X → anyD2 P T ops n0 we K X l.length listed E H
  | [], k, listed, E, H, _, hB, h => by
    unfold anyD2
    unfold rdK2 at h
    exact fun _ => ⟨by simpa [lexD2] using hB, h⟩
  | o :: l, k, listed, E, H, hl, hB, h => by
    have h0 : ops[k]? = some o := by simpa using (hl 0).symm
    have hl' : ∀ j, l[j]? = ops[k + 1 + j]? := fun j => by have := hl (j + 1); simpa [Nat.add_assoc, Nat.add_comm 1 j] using this
    simp only [List.length_cons, lexD2, Bool.and_eq_true] at hB
    obtain ⟨hB1, hB2⟩ := hB
    unfold rdK2 at h
    cases hw : memB we k with
    | false =>
      rw [hw] at h hB1
      simp only [Bool.and_eq_true] at hB1 h
      obtain ⟨hr, hf⟩ := hB1
      unfold firstB2 at hf
      rw [h0] at hf
      simp only [Bool.and_eq_true, List.all_eq_true, List.mem_range] at hf
      obtain ⟨⟨hUk, hall⟩, hlt⟩ := hf
      have lt : ∀ j, memB (upSet ops k) j = true → j < ops.size := fun j hj => by simpa using hlt j (memB_mem hj)
      refine anyD_first2 hT h0 hw (U := memB (upSet ops k)) hUk (fun j oj hu hjk hoj => ?_) l.length listed E H (fun j hu => ?_) (fun j oj hoj hu hun => ?_) (by simpa using hr) (stK_mono h fun E' H' h' => anyD_lex2 hT l (k + 1) _ E' H' hl' hB2 h')
      · have := (hall j (lt j hu)).2
        rw [hoj] at this
        simp only [hu] at this
        simp only [Bool.or_eq_true] at this
        rcases this with h1 | h1
        · exact absurd (Nat.eq_of_beq_eq_true h1) hjk
        · obtain ⟨e, he, h2⟩ := Array.any_eq_true'.1 h1
          simp only [Bool.and_eq_true] at h2
          exact ⟨e, he, h2⟩
      · have := (hall j (lt j hu)).1
        simpa [hu] using this
      · have hjl := (Array.getElem?_eq_some_iff.1 hoj).1
        have := (hall j hjl).2
        rw [hoj] at this
        simp only [hu] at this
        simp only [hun, Bool.or_eq_true, Bool.and_eq_true, Bool.not_eq_true', Bool.false_eq_true, false_or] at this
        simpa using this
    | true =>
      rw [hw] at h hB1
      simp only at h hB1
      have hr : Region.ready .any ops listed = [k] := by simpa using hB1
      unfold anyD2
      intro hs
      refine ⟨fun h0 => (by rw [hr] at h0; cases h0), fun j hj => ?_⟩
      rw [hr] at hj
      obtain rfl : j = k := by simpa using hj
      unfold dOp2
      rw [h0]; simp only; rw [hw]; simp only
      exact ⟨_, (stOK_of h).1, (stOK_of h).2, fun E1 H1 hh => anyD_lex2 hT l (j + 1) _ E1 H1 hl' hB2 hh⟩

theorem ACode.draw2 {id : Nat} (we : List Nat) (hT : TOk P T) (hm : P.follows .mixedOrders = true) (hB : drawB2 ops we = true)
    (h : rdK2 P T ops.toList H.length we 0 ops.toList E (H ++ List.replicate ops.size .dead) K X) : ACode P (.region id ops true) E H K X := by
  refine ⟨fun n G a w hP hst => ?_⟩
  subst hP
  obtain ⟨C, mu, hst⟩ := hst
  have hst' : StC G C mu E H a w.drew := hst.drew
  have hs2 := hst'.pad [] ops.size
  rw [pads_nil] at hs2
  have h1 := anyD_lex2 (ops := ops) (n0 := H.length) (we := we) (K := K) (X := X) hT ops.toList 0 (Array.replicate ops.size false) E _ (by simp) (by simpa [drawB2] using hB) h
  refine wpIn_region_any hm ?_
  have h2 := anyD_sound2 (r := G.rd) (n := n) hT _ _ _ _ a _ h1 ⟨C, mu, hs2⟩
  simpa using h2
end
end Go.Av

/-
  AV: known bools in an own array become plain ones.
-/
set_option linter.unusedSimpArgs false
set_option linter.unusedVariables false
set_option linter.unusedSectionVars false
namespace Go.Av
section
variable {G : Cx} {C : CellSet} {w : World} {mu : Mu} {H : List HO} {E : List AV} {a : Act} {P : Program}
def unlit : AV → AV
  | .lit b => .bool b
  | x => x
theorem unlit_rep {x : AV} {v : Value} (h : Rep C w x mu v) : Rep C w (unlit x) mu v := by
  cases x <;> first | exact h | (simp only [unlit]; unfold Rep at *; exact h)
theorem unlit_cells (x : AV) : (unlit x).cells = match x with | .lit b => [.bool b] | x => x.cells := by
  cases x <;> rfl
theorem unlit_flat : ∀ {es : List AV} {vs : List Value}, Reps C w (flat es) mu vs → Reps C w (flat (es.map unlit)) mu vs
  | [], _, h => h
  | x :: es, vs, h => by
    have hc : ∀ {as bs : List AV} {us : List Value}, Reps C w (as ++ bs) mu us → ∃ u1 u2, us = u1 ++ u2 ∧ Reps C w as mu u1 ∧ Reps C w bs mu u2 := by
      intro as
      induction as with
      | nil => intro bs us h; exact ⟨[], us, rfl, by unfold Reps; rfl, h⟩
      | cons c as ih =>
        intro bs us h
        rw [List.cons_append] at h
        unfold Reps at h
        obtain ⟨v, vs', rfl, h2, h3⟩ := h
        obtain ⟨u1, u2, rfl, h4, h5⟩ := ih h3
        exact ⟨v :: u1, u2, rfl, by unfold Reps; exact ⟨v, u1, rfl, h2, h4⟩, h5⟩
    rw [show flat (x :: es) = x.cells ++ flat es from by simp [flat]] at h
    obtain ⟨u1, u2, rfl, h1, h2⟩ := hc h
    rw [show flat ((x :: es).map unlit) = (unlit x).cells ++ flat (es.map unlit) from by simp [flat]]
    refine reps_append ?_ (unlit_flat h2)
    cases x <;> first | exact h1 | (
      simp only [unlit, AV.cells] at *
      unfold Reps at *
      obtain ⟨v, vs', h3, h4, h5⟩ := h1
      exact ⟨v, vs', h3, by unfold Rep at *; exact h4, h5⟩)
theorem StC.unlit (hst : StC G C mu E H a w) (l : Nat) {e : TypeId} {sz : Nat} {es : List AV} (hl : H[l]? = some (.arr e sz es)) : StC G C mu E (H.set l (.arr e sz (es.map unlit))) a w := by
  have hlt : l < H.length := (List.getElem?_eq_some_iff.1 hl).1
  have hg : ∀ {k : Nat} {ob : HO}, (H.set l (.arr e sz (es.map Av.unlit)))[k]? = some ob → (k = l ∧ ob = .arr e sz (es.map Av.unlit)) ∨ H[k]? = some ob := fun {k ob} hk => by
    by_cases hkl : k = l
    · subst hkl
      rw [List.getElem?_set_self hlt] at hk
      exact .inl ⟨rfl, (Option.some.inj hk).symm⟩
    · rw [List.getElem?_set_ne (fun e => hkl e.symm)] at hk; exact .inr hk
  have hgh : ∀ {k : Nat} {ob : HO}, (H.set l (.arr e sz (es.map Av.unlit)))[k]? = some ob → (∀ e sz es, ob ≠ .arr e sz es) → H[k]? = some ob := fun {k ob} hk hne => by
    rcases hg hk with ⟨_, h⟩ | h
    · exact absurd h (hne _ _ _)
    · exact h
  refine ⟨hst.c0, hst.c1, hst.lt, ⟨fun i g hi => by simpa using hst.heap.dom i g hi, hst.heap.fresh, hst.heap.sep, fun k hk => hst.heap.dead k (hgh hk (by intros; simp)), fun k cs hk => hst.heap.recs k cs (hgh hk (by intros; simp)), fun k e' sz' es' hk => ?_, fun k ks vs hk => hst.heap.maps k ks vs (hgh hk (by intros; simp))⟩, hst.env, ?_, hst.keep, by simpa using hst.pin.1, hst.pin.2⟩
  · rcases hg hk with ⟨rfl, h⟩ | h
    · cases h
      obtain ⟨k1, k2⟩ := hst.heap.arrs k e sz es hl
      refine ⟨fun x hx => ?_, ?_⟩
      · obtain ⟨y, hy, rfl⟩ := List.mem_map.1 hx
        have := k1 y hy
        cases y <;> exact this
      · rcases k2 with ⟨k2, rfl⟩ | ⟨b, cap, cur, k2, k3, k4, k5, k6, k7, k8⟩
        · exact .inl ⟨k2, rfl⟩
        · refine .inr ⟨b, cap, cur, by rw [List.length_map]; exact k2, k3, by rw [List.length_map]; exact k4, k5, k6, ?_, k8⟩
          rw [List.length_map]
          exact unlit_flat k7
    · exact hst.heap.arrs k e' sz' es' h
  · obtain ⟨ms, d1, d2⟩ := hst.defers
    exact ⟨ms, d1, ⟨fun k cs' vs gm hk => d2.ghosts k cs' vs gm (hgh hk (by intros; simp)), fun k I hk => by
      obtain ⟨h0, Sw, Sr, q1, q2, q3, q4⟩ := d2.invs k I (hgh hk (by intros; simp))
      exact ⟨h0, Sw, Sr, q1, q2, q3, fun k' cs' vs gm hk' => q4 k' cs' vs gm (hgh hk' (by intros; simp))⟩, d2.marks, d2.nd, fun k k' cs' vs gm cs2 vs2 gm2 hk hk' => d2.sep k k' cs' vs gm cs2 vs2 gm2 (hgh hk (by intros; simp)) (hgh hk' (by intros; simp))⟩⟩
/-- Known bools in the array at l are plain ones from here on. -/
theorem ACode.unlit (l : Nat) {e : TypeId} {sz : Nat} {es es' : List AV} {c : Code} {K : KK} {X : XX} (hl : H[l]? = some (.arr e sz es)) (he : es.map Av.unlit = es') (h : ACode P c E (H.set l (.arr e sz es')) K X) : ACode P c E H K X := by
  subst he
  refine ⟨fun n G a w hP hst => ?_⟩
  obtain ⟨C, mu, hst⟩ := hst
  exact h.out n G a w hP ⟨C, mu, hst.unlit l hl⟩
end
end Go.Av

/-
  AV: a region whose order is open, as a graph: a state for each set of operations that are done.
-/
set_option linter.unusedSimpArgs false
set_option linter.unusedVariables false
set_option linter.unusedSectionVars false
namespace Go.Av
section
variable {G : Cx} {C : CellSet} {w w' : World} {mu : Mu} {H : List HO} {E : List AV} {a : Act} {T : List TY} {P : Program} {ops : Array Oper} {K : KK} {X : XX}
theorem len_lt {l : List Nat} {p q : Nat → Bool} (h : ∀ i, q i = true → p i = true) {i : Nat} (hi : i ∈ l) (h1 : p i = true) (h2 : q i = false) : (l.filter q).length < (l.filter p).length := by
  have hle : ∀ l : List Nat, (l.filter q).length ≤ (l.filter p).length := by
    intro l
    induction l with
    | nil => simp
    | cons x l ih =>
      simp only [List.filter_cons]
      cases hq : q x with
      | true => simp [h x hq]; exact ih
      | false => cases p x <;> simp <;> omega
  induction l with
  | nil => cases hi
  | cons x l ih =>
    simp only [List.filter_cons]
    rcases List.mem_cons.1 hi with rfl | hi
    · rw [h1, h2]
      have := hle l
      simp; omega
    · have := ih hi
      cases hq : q x with
      | true => simp [h x hq]; exact this
      | false => cases p x <;> simp <;> omega
def leftN (ops : Array Oper) (b : Array Bool) : Nat := ((List.range ops.size).filter fun j => !b.getD j true).length
theorem anyD_graph {D : Array Bool → List AV → List HO → Prop} {n0 : Nat}
    (hs : ∀ b E H, D b E H → (Region.ready .any ops b = [] → K E H) ∧ ∀ i ∈ Region.ready .any ops b, ∃ (o : Oper) (Kw : KK), ops[i]? = some o ∧ wstK P T ops.toList o E H Kw X ∧ ∀ E2 H2, Kw E2 H2 → D (b.setIfInBounds i true) E2 H2) :
    ∀ (fuel : Nat) (b : Array Bool) (E : List AV) (H : List HO), leftN ops b ≤ fuel → D b E H → anyD P T ops n0 (allW ops.size) K X fuel b E H := by
  have hlt : ∀ {b : Array Bool} {i : Nat}, i ∈ Region.ready .any ops b → i < ops.size ∧ leftN ops (b.setIfInBounds i true) < leftN ops b := fun {b i} hi => by
    obtain ⟨h1, o, h2, _⟩ := mem_ready.1 hi
    have hlt := (Array.getElem?_eq_some_iff.1 h2).1
    refine ⟨hlt, len_lt (i := i) (fun j hj => ?_) (List.mem_range.2 hlt) (by rw [h1]; rfl) ?_⟩
    · by_cases hij : i = j
      · subst hij; rw [h1]; rfl
      · rw [getD_set_ne true hij] at hj; exact hj
    · have hb : i < b.size := by
        by_cases hb : i < b.size
        · exact hb
        · rw [Array.getD, dif_neg hb] at h1; cases h1
      simp [Array.getD, hb]
  intro fuel
  induction fuel with
  | zero =>
    intro b E H hf hD
    unfold anyD
    have hr : Region.ready .any ops b = [] := by
      cases hr : Region.ready .any ops b with
      | nil => rfl
      | cons i r => have := (hlt (b := b) (i := i) (by rw [hr]; simp)).2; omega
    exact fun _ => ⟨hr, (hs b E H hD).1 hr⟩
  | succ fuel ih =>
    intro b E H hf hD
    unfold anyD
    refine fun _ => ⟨(hs b E H hD).1, fun i hi => ?_⟩
    obtain ⟨o, Kw, ho, h, hk⟩ := (hs b E H hD).2 i hi
    obtain ⟨h1, h2⟩ := hlt hi
    unfold dOp
    rw [ho]; simp only
    rw [allW_mem h1]; simp only
    exact ⟨Kw, h, fun E1 H1 q => ih _ _ _ (by omega) (hk _ _ q)⟩
theorem ACode.graph {id : Nat} (D : Array Bool → List AV → List HO → Prop) (hT : TOk P T) (hm : P.follows .mixedOrders = true) (h0 : D (Array.replicate ops.size false) E H)
    (hs : ∀ b E H, D b E H → (Region.ready .any ops b = [] → K E H) ∧ ∀ i ∈ Region.ready .any ops b, ∃ (o : Oper) (Kw : KK), ops[i]? = some o ∧ wstK P T ops.toList o E H Kw X ∧ ∀ E2 H2, Kw E2 H2 → D (b.setIfInBounds i true) E2 H2) : ACode P (.region id ops true) E H K X := by
  refine ⟨fun n G a w hP hst => ?_⟩
  subst hP
  obtain ⟨C, mu, hst⟩ := hst
  have hst' : StC G C mu E H a w.drew := hst.drew
  have h1 := anyD_graph (n0 := H.length) hs ops.size _ E H (by unfold leftN; exact Nat.le_trans (List.length_filter_le _ _) (by simp)) h0
  refine wpIn_region_any hm ?_
  have h2 := anyD_sound (r := G.rd) (n := n) hT _ _ _ _ a _ h1 ⟨C, mu, hst'⟩
  simpa using h2
/-! ### States listed: which operations are done, which may come next -/
def getB : List Bool → Nat → Bool
  | [], _ => false
  | b :: _, 0 => b
  | _ :: r, n + 1 => getB r n
def setB : List Bool → Nat → List Bool
  | [], _ => []
  | _ :: r, 0 => true :: r
  | b :: r, n + 1 => b :: setB r n
def eqB : List Bool → List Bool → Bool
  | [], [] => true
  | a :: x, b :: y => (a == b) && eqB x y
  | _, _ => false
theorem eqB_eq : ∀ {x y : List Bool}, eqB x y = true → x = y
  | [], [], _ => rfl
  | a :: x, b :: y, h => by
    unfold eqB at h
    simp only [Bool.and_eq_true, beq_iff_eq] at h
    rw [h.1, eqB_eq h.2]
  | [], _ :: _, h => by cases h
  | _ :: _, [], h => by cases h
theorem setB_arr : ∀ (b : List Bool) (i : Nat), (setB b i).toArray = b.toArray.setIfInBounds i true := by
  intro b i
  have : setB b i = b.set i true := by
    induction b generalizing i with
    | nil => rfl
    | cons x b ih => cases i with
      | zero => rfl
      | succ i => simp [setB, ih]
  rw [this]; simp
def okL (ops : Array Oper) (L : List (List Bool × List Nat)) : Bool :=
  (L.all fun x => (Region.ready .any ops x.1.toArray == x.2) && x.2.all fun i => L.any fun y => eqB y.1 (setB x.1 i)) && L.any fun y => eqB y.1 (List.replicate ops.size false)
def fillE : List (Nat × Nat × AV) → List Bool → List AV → List AV
  | [], _, E => E
  | (i, s, v) :: r, b, E => fillE r b (match getB b i with | true => E.set s v | false => E)
def fillH (j : Nat) (H' : List HO) (b : List Bool) (H : List HO) : List HO := match getB b j with | true => H' | false => H
def gR (P : Program) (T : List TY) (lops : List Oper) (E : List AV) (H : List HO) (fE : List Bool → List AV) (fH : List Bool → List HO) (X : XX) (b : List Bool) : List Nat → Prop
  | [] => True
  | i :: r => (lkK lops i fun o => wstK P T lops o E H (fun E2 H2 => E2 = fE (setB b i) ∧ H2 = fH (setB b i)) X) ∧ gR P T lops E H fE fH X b r
theorem gR_mem {lops : List Oper} {fE : List Bool → List AV} {fH : List Bool → List HO} {b : List Bool} : ∀ {rs : List Nat}, gR P T lops E H fE fH X b rs → ∀ i ∈ rs, ∃ o, lops[i]? = some o ∧ wstK P T lops o E H (fun E2 H2 => E2 = fE (setB b i) ∧ H2 = fH (setB b i)) X
  | [], _, i, hi => by cases hi
  | j :: r, h, i, hi => by
    obtain ⟨h1, h2⟩ := h
    rcases List.mem_cons.1 hi with rfl | hi
    · exact (lkK_iff _ _ _).1 h1
    · exact gR_mem h2 i hi
/-- One state. -/
structure GN (P : Program) (T : List TY) (lops : List Oper) (E : List AV) (H : List HO) (fE : List Bool → List AV) (fH : List Bool → List HO) (K : KK) (X : XX) (b : List Bool) (rs : List Nat) : Prop where
  out : match rs with | [] => K E H | rs => gR P T lops E H fE fH X b rs
def gP (P : Program) (T : List TY) (lops : List Oper) (fE : List Bool → List AV) (fH : List Bool → List HO) (K : KK) (X : XX) : List (List Bool × List Nat) → Prop
  | [] => True
  | (b, rs) :: r => GN P T lops (fE b) (fH b) fE fH K X b rs ∧ gP P T lops fE fH K X r
theorem gP_mem {lops : List Oper} {fE : List Bool → List AV} {fH : List Bool → List HO} : ∀ {L : List (List Bool × List Nat)}, gP P T lops fE fH K X L → ∀ x ∈ L, GN P T lops (fE x.1) (fH x.1) fE fH K X x.1 x.2
  | [], _, x, hx => by cases hx
  | (b, rs) :: r, h, x, hx => by
    rcases List.mem_cons.1 hx with rfl | hx
    · exact h.1
    · exact gP_mem h.2 x hx
theorem ACode.graphL {id : Nat} (L : List (List Bool × List Nat)) (vals : List (Nat × Nat × AV)) (j : Nat) (H' : List HO) (hT : TOk P T) (hm : P.follows .mixedOrders = true) (hB : okL ops L = true)
    (h0 : fillE vals (List.replicate ops.size false) E = E ∧ fillH j H' (List.replicate ops.size false) H = H)
    (h : gP P T ops.toList (fun b => fillE vals b E) (fun b => fillH j H' b H) K X L) : ACode P (.region id ops true) E H K X := by
  unfold okL at hB
  simp only [Bool.and_eq_true, List.all_eq_true, List.any_eq_true, beq_iff_eq] at hB
  obtain ⟨hB1, y0, hy0, hy1⟩ := hB
  refine ACode.graph (fun b E1 H1 => ∃ x ∈ L, x.1.toArray = b ∧ E1 = fillE vals x.1 E ∧ H1 = fillH j H' x.1 H) hT hm ⟨y0, hy0, ?_, ?_, ?_⟩ ?_
  · rw [eqB_eq hy1]; simp
  · rw [eqB_eq hy1]; exact h0.1.symm
  · rw [eqB_eq hy1]; exact h0.2.symm
  · rintro b E1 H1 ⟨x, hx, rfl, rfl, rfl⟩
    have hn := (gP_mem h x hx).out
    obtain ⟨hr, hall⟩ := hB1 x hx
    obtain ⟨xb, rs⟩ := x
    simp only at hr hall hn ⊢
    cases rs with
    | nil => exact ⟨fun _ => hn, fun i hi => by rw [hr] at hi; cases hi⟩
    | cons i0 rs =>
      refine ⟨fun h0 => (by rw [hr] at h0; cases h0), fun i hi => ?_⟩
      rw [hr] at hi
      obtain ⟨o, ho, hw⟩ := gR_mem hn i hi
      refine ⟨o, _, by simpa using ho, hw, ?_⟩
      rintro E2 H2 ⟨rfl, rfl⟩
      obtain ⟨y, hy, hye⟩ := hall i hi
      exact ⟨y, hy, by rw [eqB_eq hye, setB_arr], by rw [eqB_eq hye], by rw [eqB_eq hye]⟩
/-- The same, where the objects stay as they are (a store may write what is there already). -/
theorem ACode.graphE {id : Nat} (L : List (List Bool × List Nat)) (vals : List (Nat × Nat × AV)) (hT : TOk P T) (hm : P.follows .mixedOrders = true) (hB : okL ops L = true)
    (h0 : fillE vals (List.replicate ops.size false) E = E) (h : gP P T ops.toList (fun b => fillE vals b E) (fun _ => H) K X L) : ACode P (.region id ops true) E H K X := by
  have e : (fun b => fillH 0 H b H) = fun _ => H := funext fun b => by unfold fillH; split <;> rfl
  exact ACode.graphL L vals 0 H hT hm hB ⟨h0, congrFun e _⟩ (by rw [e]; exact h)
end
end Go.Av

/-
  AV: an array of the call's own, cut short.
-/
set_option linter.unusedSimpArgs false
set_option linter.unusedVariables false
namespace Go.Av
section
variable {G : Cx} {C : CellSet} {w : World} {mu : Mu} {H : List HO} {E : List AV} {a : Act} {P : Program}

theorem flat_take {sz : Nat} (es : List AV) (hz : ∀ a ∈ es, a.cells.length = sz) (k : Nat) (hk : k ≤ es.length) : flat (es.take k) = (flat es).take (k * sz) := by
  have fa : ∀ (xs ys : List AV), flat (xs ++ ys) = flat xs ++ flat ys := fun xs ys => by unfold flat; rw [List.flatMap_append]
  have e0 : flat es = flat (es.take k) ++ flat (es.drop k) := by rw [← fa, List.take_append_drop]
  have e1 : (flat (es.take k)).length = k * sz := by
    rw [flat_length (sz := sz) _ fun a ha => hz a (List.mem_of_mem_take ha), List.length_take, Nat.min_eq_left hk]
  rw [e0, List.take_left' e1]
theorem StC.trunc (h : StC G C mu E H a w) {l : Nat} {e : TypeId} {sz : Nat} {es : List AV} (hl : H[l]? = some (.arr e sz es)) {k t : Nat} (hk : k ≤ es.length) (ht : E[t]? = some (.own l sz 0 k)) :
    ∃ mu', StC G C mu' ((scrubs l E).set t (.own l sz 0 k)) ((H.map (scrubH l)).set l (.arr e sz (es.take k))) a w := by
  have hlt : l < H.length := (List.getElem?_eq_some_iff.1 hl).1
  obtain ⟨hz, h2⟩ := h.heap.arrs l e sz es hl
  obtain ⟨v, hv, hr⟩ := getD_of_rep h.env ht
  have hr' := hr
  unfold Rep at hr
  obtain ⟨x, hm, hle, hmx, hxv⟩ := hr
  rcases h2 with ⟨h2, rfl⟩ | ⟨b, cap, cur, h3, ⟨fz, h4, hfz⟩, h5, h6, h7, h8, h9⟩
  · obtain rfl : k = 0 := by simpa using hk
    have hs := h.scrub l
    have hH : (H.map (scrubH l)).set l (.arr e sz (List.take 0 [])) = H.map (scrubH l) := by
      apply List.ext_getElem?
      intro i
      by_cases hi : i = l
      · subst hi; rw [List.getElem?_set_self (by simpa using hlt), List.getElem?_map, hl]; rfl
      · rw [List.getElem?_set_ne (Ne.symm hi)]
    rw [hH]
    exact ⟨mu, hs.frame (set_self_reps hs.env hv hr') rfl⟩
  · rw [hm] at h3
    simp only [Option.some.injEq, GO.arr.injEq] at h3
    subst h3
    have m1 : k * sz ≤ es.length * sz := Nat.mul_le_mul_right _ hk
    have hcl : cur.toList.length = cap * sz := by simpa using h7
    have hx := ext_setRow (w := w) (h.heap.fresh _ _ _ hm rfl).2.2 cur
    have hw : w.setRow b cur = w := setRow_self w b cur e fz h4
    have m := StC.write (g := .arr (.slice (some ⟨b, 0, none⟩) es.length cap)) (g' := .arr (.slice (some ⟨b, 0, none⟩) k cap)) h hm rfl
      (new := cur) h4 (.arr e sz (es.take k)) rfl (by simp) (by simp) (E' := scrubs l E)
      (Reps.mono hx _ (MuLe.refl _) (scrubs_rep _ (fun b hb => by rw [hm] at hb; cases hb) h.env)) ((H.map (scrubH l)).set l (.arr e sz (es.take k))) (by simp)
      (fun j hj => by
        rw [List.getElem?_set_ne (Ne.symm hj), List.getElem?_map]
        cases ho : H[j]? with
        | none => simp
        | some ob =>
          cases ob with
          | cells cs0 =>
            simp only [Option.map_some, scrubH, Option.some.injEq, HO.cells.injEq, reduceCtorEq, false_implies, implies_true, and_true]
            refine ⟨trivial, ?_⟩
            rintro cs rfl
            exact ⟨cs0, rfl, fun us k => scrubs_rep _ (fun b hb => by rw [hm] at hb; cases hb) k⟩
          | dead => simp [scrubH]
          | inv I => simp [scrubH]
          | map ks0 vs0 => simp [scrubH]
          | ghost cs0 vs0 ms0 =>
            simp only [Option.map_some, scrubH, Option.some.injEq, HO.ghost.injEq, reduceCtorEq, false_implies, implies_true, and_true, true_and]
            rintro cs vs ms ⟨rfl, rfl, rfl⟩
            exact ⟨cs0, ⟨rfl, rfl, rfl⟩, fun us k => scrubs_rep _ (fun b hb => by rw [hm] at hb; cases hb) k⟩
          | arr e0 sz0 es0 => simp [scrubH])
      (by simp) (by rw [List.getElem?_set_self (by simpa using hlt)])
      (by simp)
      (fun e' sz' es' hc => by
        simp only [HO.arr.injEq] at hc
        obtain ⟨rfl, rfl, rfl⟩ := hc
        refine ⟨fun x hx => hz x (List.mem_of_mem_take hx), cap, by simp [Nat.min_eq_left hk], rfl, by simp; omega, h6, h7, ?_, h9⟩
        rw [flat_take es hz k hk, List.length_take, Nat.min_eq_left hk]
        have := h8.take (k * sz)
        rwa [List.take_take, Nat.min_eq_left m1] at this)
      (fun i hi ks vs hh => by rw [List.getElem?_set_ne (Ne.symm hi)] at hh; exact scrubH_map hh) (by simp)
      ⟨fun _ h => (by cases h), fun _ _ _ _ => hfz⟩
    rw [hw] at m
    refine ⟨_, m.frame (set_self_reps m.env hv ?_) rfl⟩
    unfold Rep
    exact ⟨_, Mu.set_same _ _ _, by simp [lenSl], ⟨by simp only [lenSl, capSl]; omega, hmx.2⟩, by rw [hxv]; simp [subSl]⟩
/-- The array at l ends behind what the slice in slot t holds; what else led to it is forgotten. -/
theorem ACode.trunc (l t : Nat) {e : TypeId} {sz k : Nat} {es es' : List AV} {E' : List AV} {H' : List HO} {c : Code} {K : KK} {X : XX} (hl : H[l]? = some (.arr e sz es)) (ht : E[t]? = some (.own l sz 0 k)) (hk : k ≤ es.length) (he : es.take k = es')
    (h : scrubK l E fun E1 => updK E1 t (.own l sz 0 k) fun E2 => scrubHK l H fun H1 => updK H1 l (.arr e sz es') fun H2 => ACode P c E2 H2 K X) : ACode P c E H K X := by
  subst he
  refine ⟨fun n G a w hP hst => ?_⟩
  obtain ⟨C, mu, hst⟩ := hst
  rw [scrubK_iff, updK_iff, scrubHK_iff, updK_iff] at h
  obtain ⟨mu', h'⟩ := hst.trunc hl hk ht
  exact h.out n G a w hP ⟨C, mu', h'⟩
end
end Go.Av

/-
  AV: contracts of functions that are handed one array of the caller's own, which stays where it is and keeps its length.
-/
set_option linter.unusedSimpArgs false
set_option linter.unusedVariables false
namespace Go.Av
open Go.RowKit (Below)
section
variable {G : Cx} {C C' : CellSet} {w w' : World} {mu : Mu} {H : List HO} {E : List AV} {a : Act} {T : List TY} {P : Program}

/-- The contract: the array is number 0, the first argument is the whole of it; 'R': the result, and what the array holds behind it. -/
structure HCtrF (P : Program) (f : FuncId) (args : List AV) (e : TypeId) (sz : Nat) (es : List AV) (R : AV → List AV → Prop) : Prop where
  good : goodF P f = true
  out : ∀ (C : CellSet) (mu : Mu) (w : World) (vs : List Value), COK C w → HeapRel C w (fun _ => True) mu [.arr e sz es] → Reps C w args mu vs →
    Calls P f vs.toArray w fun en w' => ∃ r v es' C', en = .returned v ∧ R r es' ∧ es'.length = es.length ∧ HPost C mu w C' mu w' ∧ HeapRel C' w' (fun _ => True) mu [.arr e sz es'] ∧ Rep C' w' r mu v
/-- The array at the end; the first argument is remembered as 'ghost'. -/
def finF (e : TypeId) (sz n : Nat) (v : Value) (H H2 : List HO) (K : List AV → Prop) : Prop :=
  ∃ es' R, H2 = [.arr e sz es'] ∧ H = .arr e sz es' :: .ghost [.own 0 sz 0 n] [v] [] :: R ∧ es'.length = n ∧ K es'
def fretK (T : List TY) (rs : List ResultVar) (e : TypeId) (sz : Nat) (es : List AV) (n : Nat) (g : Value) (R : AV → List AV → Prop) (E : List AV) (H : List HO) : Prop :=
  resK T E H rs fun vs => match vs with
    | [v] => closeN 1 H 4 v fun v => hendK 1 H [.arr e sz es] H fun H2 => finF e sz n g H H2 fun es => R v es
    | vs => closeN 1 H 5 (.tuple vs) fun v => hendK 1 H [.arr e sz es] H fun H2 => finF e sz n g H H2 fun es => R v es

/-- The array is where it was. -/
theorem same_arr {C0 : CellSet} {mu0 : Mu} {w0 : World} {e : TypeId} {sz : Nat} {es es' : List AV} {v : Value} {R : List HO} {fr : Nat → Prop} (hh : HeapRel C0 w0 (fun _ => True) mu0 [.arr e sz es]) (hv : Rep C0 w0 (.own 0 sz 0 es.length) mu0 v)
    (h : HeapRel C w fr mu (.arr e sz es' :: .ghost [.own 0 sz 0 es.length] [v] [] :: R)) (hv' : Rep C w (.own 0 sz 0 es.length) mu v) (hl : es'.length = es.length) : mu.below 1 = mu0 := by
  funext l
  rcases l with _ | l
  · rw [below_lt (by omega)]
    unfold Rep at hv hv'
    obtain ⟨x0, m0, q1, q2, rfl⟩ := hv
    obtain ⟨x, m, p1, p2, hx⟩ := hv'
    rw [m, m0]
    congr 2
    obtain ⟨_, k0⟩ := hh.arrs 0 e sz es (by simp)
    obtain ⟨_, k⟩ := h.arrs 0 e sz es' (by simp)
    rcases k0 with ⟨k0, rfl⟩ | ⟨b0, c0, cur0, k0, _⟩ <;> rcases k with ⟨k, rfl⟩ | ⟨b, c, cur, k, _⟩
    all_goals
      rw [k0] at m0
      rw [k] at m
      simp only [Option.some.injEq, GO.arr.injEq] at m m0
      subst m
      subst m0
      simp [subSl] at hx
    · rfl
    · obtain ⟨h1, h2⟩ := hx
      rw [h1, h2, hl]
  · have h1 : mu0 (l + 1) = none := by
      cases hm : mu0 (l + 1) with
      | none => rfl
      | some g => have := hh.dom _ _ hm; simp at this
    rw [h1]
    unfold Mu.below
    simp

theorem HCtrF.of_body0 {f : FuncId} {fn : Func} {c : Code} {rest : List AV} {e : TypeId} {sz : Nat} {es : List AV} {R : AV → List AV → Prop} (hf : P.funcs[f]? = some fn) (hb : fn.body = some c) (hT : TOk P T) (hg : goodF P f = true)
    (h : ∀ v, enterK fn.ntmps (.own 0 sz 0 es.length :: rest) fun E => ACode P c E [.arr e sz es, .ghost [.own 0 sz 0 es.length] [v] []] (fretK T fn.results.toList e sz es es.length v R) (fun en E H => match en with | .ret => fretK T fn.results.toList e sz es es.length v R E H | _ => False)) :
    HCtrF P f (.own 0 sz 0 es.length :: rest) e sz es R := by
  refine ⟨hg, fun C mu w vs hlt hh hr => (callsIn_wide (n := 0)).1 (callsIn_of_wp_marks (F := Fence.wide) (n := 0) hf hb trivial ?_ rfl)⟩
  obtain ⟨v, hv, vs', rfl⟩ : ∃ v, Rep C w (.own 0 sz 0 es.length) mu v ∧ ∃ vs', vs = v :: vs' := by
    unfold Reps at hr
    obtain ⟨v, vs', h1, h2, _⟩ := hr
    exact ⟨v, h2, vs', h1⟩
  have h := h v
  unfold enterK at h
  rw [repK_iff, appK_iff] at h
  let G : Cx := { P := P, gok := ⟨hlt, fun b o hc ⟨l, g, hl, hg⟩ => (hh.fresh l g b hl hg).2.2 o hc⟩, C0 := C, M0 := fun b => ∃ l g, mu l = some g ∧ g.block? = some b, W0 := w, pin := fun l b => mu l = some (.blk b), np := 1 }
  have hst : St G ((.own 0 sz 0 es.length :: rest) ++ List.replicate (fn.ntmps - (.own 0 sz 0 es.length :: rest).length) (.raw undef)) [.arr e sz es, .ghost [.own 0 sz 0 es.length] [v] []] { tmps := (v :: vs').toArray ++ Array.replicate (fn.ntmps - (v :: vs').toArray.size) undef, defers := [] } w := by
    refine ⟨C, mu, fun _ _ h => h, fun _ _ h => .inl h, hlt.lt, ⟨fun l g hl => by have := hh.dom l g hl; simp at this ⊢; omega, fun l g b hl hg => ⟨.inr ⟨l, g, hl, hg⟩, (hh.fresh l g b hl hg).2⟩, hh.sep, fun l hl => ?_, fun l cs hl => ?_, fun l e' sz' es' hl => ?_, fun l ks us hl => ?_⟩, ?_, ⟨[], rfl, ?_⟩, ⟨rfl, rfl, rfl, Nat.le_refl _, fun _ _ _ => rfl⟩, by simp [G], fun _ _ _ h => h⟩
    · match l, hl with
      | l + 2, hl => simp at hl
    · match l, hl with
      | l + 2, hl => simp at hl
    · match l, hl with
      | 0, hl => exact hh.arrs 0 e' sz' es' hl
      | l + 2, hl => simp at hl
    · match l, hl with
      | l + 2, hl => simp at hl
    · have hl := reps_len _ hr
      have := reps_append hr (reps_replicate (C := C) (w := w) (mu := mu) (fn.ntmps - (.own 0 sz 0 es.length :: rest).length))
      rw [← hl] at this
      simpa [hl] using this
    · refine ⟨fun l cs us ms hl => ?_, fun l I hl => ?_, fun D hD => (by cases hD), List.nodup_nil, fun l l' cs us ms cs' us' ms' hl hl' hne => ?_⟩
      · match l, hl with
        | 1, hl =>
          simp at hl
          obtain ⟨rfl, rfl, rfl⟩ := hl
          exact ⟨by unfold Reps; exact ⟨v, [], rfl, hv, by unfold Reps; rfl⟩, List.nodup_nil, fun D hD => by cases hD⟩
        | l + 2, hl => simp at hl
      · match l, hl with
        | l + 2, hl => simp at hl
      · match l, hl with
        | 1, hl =>
          simp at hl
          obtain ⟨rfl, rfl, rfl⟩ := hl
          intro D hD; cases hD
        | l + 2, hl => simp at hl
  have core : ∀ {C1 : CellSet} {mu1 : Mu} {E1 : List AV} {H1 : List HO} {a1 : Act} {w1 : World} {x : AV} {u : Value} {n : Nat}, StC G C1 mu1 E1 H1 a1 w1 → Rep C1 w1 x mu1 u → (closeN 1 H1 n x fun r => hendK 1 H1 [.arr e sz es] H1 fun H2 => finF e sz es.length v H1 H2 fun es' => R r es') →
      ∃ r es' C', R r es' ∧ es'.length = es.length ∧ HPost C mu w C' mu w1 ∧ HeapRel C' w1 (fun _ => True) mu [.arr e sz es'] ∧ Rep C' w1 r mu u := by
    intro C1 mu1 E1 H1 a1 w1 x u n hs hx hk
    obtain ⟨r, H2, C', ⟨es', R', rfl, rfl, hl, hR⟩, q1, q2, q3, _⟩ := hfinB (H0 := [.arr e sz es]) (R := fun r H2 => finF e sz es.length v H1 H2 fun es' => R r es') hh hs hx hk
    obtain ⟨ms, _, d2⟩ := hs.defers
    have hgh := (d2.ghosts 1 [.own 0 sz 0 es.length] [v] [] (by simp)).1
    unfold Reps at hgh
    obtain ⟨v', _, he, hv', _⟩ := hgh
    simp only [List.cons.injEq] at he
    obtain ⟨rfl, _⟩ := he
    have hm := same_arr hh hv hs.heap hv' hl
    simp only [List.length_singleton] at q1 q2 q3
    rw [hm] at q1 q2 q3
    exact ⟨r, es', C', hR, hl, q1, q2, q3⟩
  have fin : ∀ E1 H1 a w', fretK T fn.results.toList e sz es es.length v R E1 H1 → St G E1 H1 a w' → LeavesInM (fw none) 0 P fn a.tmps (fun en w' => ∃ r u es' C', en = .returned u ∧ R r es' ∧ es'.length = es.length ∧ HPost C mu w C' mu w' ∧
      HeapRel C' w' (fun _ => True) mu [.arr e sz es'] ∧ Rep C' w' r mu u) a.defers .returning w' := by
    rintro E1 H1 a w' hk ⟨C1, mu1, hst⟩
    obtain ⟨ms, d1, d2⟩ := hst.defers
    rw [show a.defers = ms.map mark by simpa [G] using d1]
    refine leaves_gen (G := G) rfl (by simp) ms rfl hst d2 fun a' w'' ha hs' => ?_
    unfold fretK at hk
    obtain ⟨xs, us, hk, hr, hrun⟩ := res_ok (G := G) hT hs' _ hk
    have hm : (fn.results.mapM (resF a'.tmps)).run P w'' = .ok us.toArray w'' := by
      rw [Array.mapM_eq_mapM_toList]
      simp only [Sem.run_map, hrun, Result.andThen_ok, G]
    have hres : (results fn a.tmps).run P w'' = .ok (if h : us.toArray.size = 1 then us.toArray[0] else .tuple us.toArray) w'' := by
      rw [← ha, results_eq, Sem.run_bind, hm]
      rfl
    unfold LeavesIn
    split at hk
    · rename_i x
      unfold Reps at hr
      obtain ⟨u, us', rfl, hr, hr'⟩ := hr
      unfold Reps at hr'
      subst hr'
      obtain ⟨r, es', C', k1, k2, k3⟩ := core hs' hr hk
      exact ⟨u, by rw [hres]; simp, r, u, es', C', rfl, k1, k2, k3⟩
    · rename_i hne
      have hl : us.length ≠ 1 := fun e => by
        have := reps_len _ hr
        rw [e] at this
        cases xs with
        | nil => simp at this
        | cons x xs =>
          cases xs with
          | nil => exact hne x rfl
          | cons _ _ => simp at this
      have hrt : Rep C1 w'' (.tuple xs) mu1 (.tuple us.toArray) := by unfold Rep; exact ⟨us, rfl, hr⟩
      obtain ⟨r, es', C', k1, k2, k3⟩ := core hs' hrt hk
      exact ⟨.tuple us.toArray, by rw [hres]; simp [hl], r, .tuple us.toArray, es', C', rfl, k1, k2, k3⟩
  refine wpIn_mono (h.out 0 G _ w rfl hst) fun en a w' q => ?_
  cases en with
  | normal => obtain ⟨E, H, h1, h2⟩ := q; exact fin E H a w' h1 h2
  | ret => obtain ⟨E, H, h1, h2⟩ := q; exact fin E H a w' h1 h2
  | exit id => obtain ⟨E, H, h1, h2⟩ := q; exact h1.elim
  | goto l => exact q.elim
  | outgrown => exact q.elim
  | panic ch => obtain ⟨x, v, E, H, C1, mu1, rfl, hk, hst, hx⟩ := q; exact hk.elim

theorem HCtrF.of_body {f : FuncId} {fn : Func} {c : Code} {rest : List AV} {e : TypeId} {sz n : Nat} {es : List AV} {R : AV → List AV → Prop} (hf : P.funcs[f]? = some fn) (hb : fn.body = some c) (hT : TOk P T) (hg : goodF P f = true) (hn : n = es.length)
    (h : ∀ v, enterK fn.ntmps (.own 0 sz 0 n :: rest) fun E => ACode P c E [.arr e sz es, .ghost [.own 0 sz 0 n] [v] []] (fretK T fn.results.toList e sz es n v R) (fun en E H => match en with | .ret => fretK T fn.results.toList e sz es n v R E H | _ => False)) :
    HCtrF P f (.own 0 sz 0 n :: rest) e sz es R := by
  subst hn
  exact HCtrF.of_body0 hf hb hT hg h

/-- A call of a function that is handed an array, which stays where it is. -/
theorem ACall.of_hf {f : FuncId} {args : List AV} {e : TypeId} {sz : Nat} {es : List AV} {R : AV → List AV → Prop} {K : AV → KK} {X : XX} (h : HCtrF P f args e sz es R) (hw : withins [.arr e sz es] args = true) (hh : handK [.arr e sz es] [.arr e sz es] H True)
    (hk : ∀ r es', R r es' → es'.length = es.length → updK H 0 (.arr e sz es') fun H' => K r E H') : ACall P f args E H K X := by
  refine ⟨h.good, fun G C mu a w vs hP hst hr => (h.out C (mu.only [.arr e sz es]) w vs hst.cok (only_rel hst hh) (withins_rep args hw hr)).mono fun en w' hp => ?_⟩
  obtain ⟨r, v, es', C', rfl, hR, hlen, hpost, hrel, hrep⟩ := hp
  have hk := hk r es' hR hlen
  rw [updK_iff] at hk
  have harr : ∀ i, arrAt ([] : List HO) i = false := fun i => rfl
  have hmix : mu.mix (mu.only [.arr e sz es]) [.arr e sz es] = mu := by
    funext l
    unfold Mu.mix
    split
    · rename_i h; exact only_eq h
    · rfl
  obtain ⟨_, hle, _⟩ := handK_ok hh
  have hH : 0 < H.length := by simp at hle; omega
  have hr0 : ∀ i : Nat, realAt [.arr e sz es] i = true → i = 0 := fun i hi => by
    obtain ⟨ob, ho, _⟩ := realAt_iff.1 hi
    have := (List.getElem?_eq_some_iff.1 ho).1
    simpa using this
  obtain ⟨m1, m2⟩ := mergedG (HS := []) (H1 := [.arr e sz es']) (H' := H.set 0 (.arr e sz es')) hst hh hpost hrel (by simp) rfl (fun l hl => by match l, hl with | l + 1, hl => simp at hl)
    (by simp) (fun i hi => by obtain rfl := hr0 i hi; rw [List.getElem?_set_self hH]; rfl)
    (fun i hi => by
      have hne : i ≠ 0 := fun h0 => by subst h0; cases hi
      rw [List.getElem?_set_ne (Ne.symm hne)]
      cases H[i]? with
      | none => rfl
      | some o => simp only [Option.map_some]; rw [scrH_id harr])
    (fun l x _ hm => by rw [hmix]; exact hm)
  rw [scrs_id harr, hmix] at m1
  rw [hmix] at m2
  exact .inl ⟨r, v, _, _, C', _, rfl, hk, m1, Rep.mono (Ext.refl _ _) _ m2 hrep⟩
end
end Go.Av
