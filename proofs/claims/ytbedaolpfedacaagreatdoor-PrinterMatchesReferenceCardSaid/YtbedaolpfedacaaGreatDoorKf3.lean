/-
  AV: contracts of the library's functions, as the kit's shelf has them, read as contracts of ours.
-/
import Derived.Test.YtbedaolpfedacaaGreatDoorKd3
import Derived.Shelf.Strings.FuncGrows
import Derived.Shelf.Strings.OnBuilder
import Derived.Shelf.Strconv.Itoa3
import Derived.RecoverIn
import Derived.Lib.AppendStr
import Derived.Lib.UnsafeStr
import Derived.Shelf.Strings.Builder1
set_option linter.unusedSimpArgs false
set_option linter.unusedVariables false
namespace Go.Av
open Go.RowKit (Below)
open Go.Proofs Go.Shelf
theorem rows_strs {C : CellSet} {w : World} : ∀ {l : List (List UInt8)} {b o : Nat}, Rows C w 1 (l.map AV.str) b o →
  ∀ (j : Nat) x, (l.map fun s => (⟨s.toArray⟩ : ByteArray))[j]? = some x → C b (o + j) ∧ w.cell? ⟨b, o + j, none⟩ = some (.string x)
 | [], _, _, _, j, x, hj => by simp at hj
 | s :: l, b, o, h, j, x, hj => by
  simp only [List.map_cons] at h hj
  unfold Rows at h
  obtain ⟨_, ⟨v, _, hc, hv⟩, hr⟩ := h
  cases j with
  | zero =>
   unfold Rep at hv
   obtain ⟨rfl, _⟩ := hv
   simp at hj; subst hj
   exact hc
  | succ j =>
   have := rows_strs hr j x (by simpa using hj)
   rw [show o + (j + 1) = o + 1 + j by omega]; exact this
theorem join_ctr {P : Program} {ρ : Ren} (L : Lays.n156 P ρ) (X : Builder.Extra P ρ) {f : Nat} (hf : ρ.f 156 = f) (hg : goodF P f = true) (l : List (List UInt8)) (sep : List UInt8)
  (hN : l.length ≤ 140737488355328) (hlen : (Lib.join l sep).length ≤ 140737488355328) :
  Ctr P f [.sl 1 (l.map AV.str), .str sep] (fun r => r = .str (Lib.join l sep)) := by
 refine ⟨hg, fun C w vs hlt hr => ?_⟩
 unfold Reps at hr
 obtain ⟨v1, _, rfl, h1, hr⟩ := hr
 unfold Reps at hr
 obtain ⟨v2, _, rfl, h2, hr⟩ := hr
 unfold Reps at hr
 subst hr
 unfold Rep at h1 h2
 obtain ⟨rfl, _⟩ := h2
 subst hf
 have e0 : (l.map fun s => (⟨s.toArray⟩ : ByteArray)).map (·.data.toList) = l := by rw [List.map_map]; simp [Function.comp_def]
 have none' : ∀ a c, l = [] → Calls P (ρ.f 156) [Value.slice a 0 c, Value.string ⟨sep.toArray⟩].toArray w fun e w' => ∃ r v, e = .returned v ∧ r = AV.str (Lib.join l sep) ∧ Below w.heap.size w w' ∧ Rep (newC C w.heap.size w'.heap.size) w' r Mu.none v := fun a c hl => by
  refine (Any.strings_Join_none L X a c ⟨sep.toArray⟩ w).mono fun e w' ⟨h3, h4⟩ => ?_
  subst h4; subst hl
  exact ⟨_, _, h3, rfl, Below.refl _ _, by unfold Rep; exact ⟨rfl, by simp [Lib.join]⟩⟩
 rcases h1 with ⟨⟨a, rfl⟩, he⟩ | ⟨b, o, cap, rfl, hcap, _, hrows⟩
 ·exact none' a 0 (by simpa using he)
 ·by_cases hl : l = []
  ·subst hl; exact none' _ _ rfl
  ·have hc := rows_strs hrows
   have hb : b < w.heap.size := by
    cases l with
    | nil => exact absurd rfl hl
    | cons s l => exact hlt.lt b _ (hc 0 _ rfl).1
   have hj := Any.strings_Join L X b o cap (l.map fun s => (⟨s.toArray⟩ : ByteArray)) ⟨sep.toArray⟩ w (fun j x h => (hc j x h).2) hb (by simpa using hN) (by simpa using hcap) (by rw [e0]; exact hlen)
   rw [e0] at hj
   have e1 : (l.map fun s => (⟨s.toArray⟩ : ByteArray)).length = (l.map AV.str).length := by simp
   rw [e1] at hj
   refine hj.mono fun e w' ⟨h3, h4⟩ => ?_
   exact ⟨_, _, h3, rfl, h4, by unfold Rep; exact ⟨rfl, by omega⟩⟩
end Go.Av
set_option linter.unusedSectionVars false
set_option linter.unusedSectionVars false
namespace Go.Av
def TydF (P : Program) (m : Nat) : List TypeId → List (List AV) → Prop
 | [], [] => True
 | t :: ts, p :: ps => Tyd P m t p ∧ TydF P m ts ps
 | _, _ => False
section
variable {P : Program}
theorem tydF_of {m : Nat} : ∀ (fs : List Field) (parts : List (List AV)), parts.length = fs.length → (∀ (i : Nat) f p, fs[i]? = some f → parts[i]? = some p → Tyd P m f.type p) → TydF P m (fs.map (·.type)) parts
 | [], [], _, _ => trivial
 | f :: fs, p :: ps, hl, h => ⟨h 0 f p rfl rfl, tydF_of fs ps (by simpa using hl) fun i f p h1 h2 => h (i + 1) f p (by simpa using h1) (by simpa using h2)⟩
 | [], _ :: _, hl, _ => by simp at hl
 | _ :: _, [], hl, _ => by simp at hl
theorem tyd_fields {t : TypeId} {fs : Array Field} {ts : List TypeId} {m : Nat} {cs : List AV} (hu : P.underlying t = some (.struct fs)) (hts : fs.toList.map (·.type) = ts) (h : Tyd P (m + 1) t cs) :
  ∃ parts, cs = parts.flatten ∧ TydF P m ts parts := by
 unfold Tyd at h
 rw [hu] at h
 obtain ⟨parts, h1, h2, h3⟩ := h
 refine ⟨parts, h1, ?_⟩
 rw [← hts]
 exact tydF_of fs.toList parts (by simpa using h2) fun i f p e1 e2 => h3 i f p (by simpa using e1) e2
theorem tyd_struct {t : TypeId} {fs : Array Field} {ts : List TypeId} {m : Nat} {x : AV} (hu : P.underlying t = some (.struct fs)) (hts : fs.toList.map (·.type) = ts) (h : TydV P (m + 1) t x) :
  ∃ parts, x = .agg parts.flatten ∧ TydF P m ts parts := by
 obtain ⟨c, rfl⟩ := h.2.1 (by simp [isAggB, hu])
 obtain ⟨parts, h1, h2⟩ := tyd_fields hu hts h.1
 exact ⟨parts, by rw [← h1]; rfl, h2⟩
theorem tydF_cons {m : Nat} {t : TypeId} {ts : List TypeId} {ps : List (List AV)} (h : TydF P m (t :: ts) ps) : ∃ p r, ps = p :: r ∧ Tyd P m t p ∧ TydF P m ts r := by
 cases ps with
 | nil => exact h.elim
 | cons p r => exact ⟨p, r, rfl, h.1, h.2⟩
theorem tydF_nil {m : Nat} {ps : List (List AV)} (h : TydF P m [] ps) : ps = [] := by
 cases ps with
 | nil => rfl
 | cons p r => exact h.elim
theorem cell_int {t : TypeId} {k : IntKind} {m : Nat} {p : List AV} (hu : P.underlying t = some (.int k)) (h : Tyd P (m + 1) t p) : ∃ n, p = [.int k n] ∧ inK k n := by
 unfold Tyd at h; rw [hu] at h; exact h
theorem cell_str {t : TypeId} {m : Nat} {p : List AV} (hu : P.underlying t = some .string) (h : Tyd P (m + 1) t p) : ∃ l, p = [.str l] ∧ l.length ≤ reachBytes := by
 unfold Tyd at h; rw [hu] at h; exact h
theorem cell_slice {t e : TypeId} {m : Nat} {p : List AV} (hu : P.underlying t = some (.slice e)) (h : Tyd P (m + 1) t p) : ∃ es : List AV, p = [.sl (P.cellsOf e) es] ∧ es.length ≤ maxLen ∧ ∀ y ∈ es, TydV P m e y := by
 unfold Tyd at h; rw [hu] at h; exact h
theorem cell_ints {t e : TypeId} {k : IntKind} {m : Nat} {p : List AV} (hu : P.underlying t = some (.slice e)) (he : P.underlying e = some (.int k)) (hc : P.cellsOf e = 1) (h : Tyd P (m + 2) t p) :
  ∃ l : List Int, p = [.sl 1 (l.map (.int k))] ∧ l.length ≤ maxLen ∧ ∀ n ∈ l, inK k n := by
 obtain ⟨es, rfl, h1, h2⟩ := cell_slice hu h
 obtain ⟨l, rfl, h3⟩ := list_form (f := AV.int k) (p := inK k) fun y hy => tyd_int he (h2 y hy)
 exact ⟨l, by rw [hc], by simpa using h1, h3⟩
theorem cell_strs {t e : TypeId} {m : Nat} {p : List AV} (hu : P.underlying t = some (.slice e)) (he : P.underlying e = some .string) (hc : P.cellsOf e = 1) (h : Tyd P (m + 2) t p) :
  ∃ l : List (List UInt8), p = [.sl 1 (l.map .str)] ∧ l.length ≤ maxLen ∧ ∀ s ∈ l, s.length ≤ reachBytes := by
 obtain ⟨es, rfl, h1, h2⟩ := cell_slice hu h
 obtain ⟨l, rfl, h3⟩ := list_form (f := AV.str) (p := fun s => s.length ≤ reachBytes) fun y hy => tyd_str he (h2 y hy)
 exact ⟨l, by rw [hc], by simpa using h1, h3⟩
end
end Go.Av
namespace Go.Av
open Go.RowKit (Below)
def quietOp : Op → Bool
 | .move _ | .assign _ | .build _ _ | .load _ _ | .store _ _ _ | .field _ _ _ | .fieldAddr _ _ _ | .extract _ _ | .typeAssert _ _ _ _ | .unOp _ _ _ | .binOp _ _ _ _ _ | .convert _ _ _ | .makeInterface _ _ | .alloc _ | .box _ _ => true
 | _ => false
section
variable {G : Cx} {C C' : CellSet} {w w' : World} {mu : Mu} {H : List HO} {E : List AV} {a : Act} {T : List TY} {P : Program}
theorem quiet_ok {ρ : Operand → Value} {o : Oper} (hq : quietOp o.op = true) {r : Next} (h : (execOp ρ o).run P w = .ok r w') : (∃ v, r = .value v) ∨ r = .skip := by
 have hv : ∀ s : Sem Value, (do pure (Next.value (← s)) : Sem Next).run P w = .ok r w' → ∃ v, r = .value v := fun s h => by
  rw [Sem.run_bind] at h
  cases hs : s.run P w with
  | ok v w2 =>
   rw [hs] at h
   simp only [Result.andThen_ok, Sem.run_pure, Result.ok.injEq] at h
   exact ⟨v, h.1.symm⟩
  | halt e w2 => rw [hs] at h; cases h
 have hu : ∀ s : Sem Unit, (do s; pure Next.skip : Sem Next).run P w = .ok r w' → r = .skip := fun s h => by
  rw [Sem.run_bind] at h
  cases hs : s.run P w with
  | ok v w2 =>
   rw [hs] at h
   simp only [Result.andThen_ok, Sem.run_pure, Result.ok.injEq] at h
   exact h.1.symm
  | halt e w2 => rw [hs] at h; cases h
 unfold execOp at h
 cases ho : o.op <;> rw [ho] at h hq <;> first
  | (simp [quietOp] at hq; done)
  | exact .inl (hv _ h)
  | exact .inr (hu _ h)
  | (simp only [Sem.run_pure, Result.ok.injEq] at h; exact .inl ⟨_, h.1.symm⟩)
theorem quiet_mono {n : Nat} {o : Oper} (hq : quietOp o.op = true) {next next' : Act → World → Prop} {Q Q' : Exit → Act → World → Prop} (hn : ∀ a' w', next a' w' → a'.defers = a.defers → next' a' w')
  (hQ : ∀ e a' w', Q e a' w' → a'.defers = a.defers → Q' e a' w') (h : o.wpIn (fw none) n P a w next Q) : o.wpIn (fw none) n P a w next' Q' := by
 refine ⟨h.1, ?_⟩
 have h2 := h.2
 rw [show (fw none).round = none from rfl, Oper.semAt_none] at h2 ⊢
 cases hr : (execOp a.eval o).run P w with
 | ok r w' =>
  rw [hr] at h2
  rcases quiet_ok hq hr with ⟨v, rfl⟩ | rfl
  ·exact hn _ _ h2 (put_defers _ _ _)
  ·exact hn _ _ h2 (put_defers _ _ _)
 | halt e w' =>
  rw [hr] at h2
  cases e with
  | panic v => exact hQ _ _ _ h2 rfl
  | _ => exact h2
theorem wpList_keep {n : Nat} {ops : Array Oper} {Q : Exit → Act → World → Prop} {d : List Deferred} : ∀ (l : List Oper) {a : Act} {w : World}, (l.all fun o => quietOp o.op) = true → a.defers = d → wpListIn (fw none) n P ops Q l a w → wpListIn (fw none) n P ops (fun e a w => Q e a w ∧ a.defers = d) l a w
 | [], a, w, _, hd, h => ⟨h, hd⟩
 | o :: l, a, w, hq, hd, h => by
  simp only [List.all_cons, Bool.and_eq_true] at hq
  unfold wpListIn at h ⊢
  split at h
  ·rename_i hw
   rw [if_pos hw]
   exact quiet_mono hq.1 (fun a' w' k e => wpList_keep l hq.2 (e.trans hd) k) (fun e a' w' k e' => ⟨k, e'.trans hd⟩) h
  ·rename_i hw
   rw [if_neg hw]
   exact ⟨h.1, wpList_keep l hq.2 ((put_defers _ _ _).trans hd) h.2⟩
theorem wpAny_keep {n : Nat} {ops : Array Oper} {Q : Exit → Act → World → Prop} {d : List Deferred} (hq : (ops.toList.all fun o => quietOp o.op) = true) : ∀ (fuel : Nat) (listed : Array Bool) {a : Act} {w : World}, a.defers = d → wpAnyIn (fw none) n P .any ops Q fuel listed a w →
  wpAnyIn (fw none) n P .any ops (fun e a w => Q e a w ∧ a.defers = d) fuel listed a w
 | 0, listed, a, w, hd, h => ⟨h.1, h.2, hd⟩
 | fuel + 1, listed, a, w, hd, h => by
  refine ⟨fun hr => ⟨h.1 hr, hd⟩, fun i hi => ?_⟩
  have h := h.2 i hi
  unfold wpOpIn at h ⊢
  cases ho : ops[i]? with
  | none =>
   rw [ho] at h
   exact wpAny_keep hq fuel _ hd h
  | some o =>
   rw [ho] at h
   simp only at h ⊢
   have hqo : quietOp o.op = true := List.all_eq_true.1 hq o (by
    have : o ∈ ops := Array.mem_of_getElem? ho
    simpa using this)
   split at h
   ·rename_i hw
    rw [if_pos hw]
    exact quiet_mono hqo (fun a' w' k e => wpAny_keep hq fuel _ (e.trans hd) k) (fun e a' w' k e' => ⟨k, e'.trans hd⟩) h
   ·rename_i hw
    rw [if_neg hw]
    exact ⟨h.1, wpAny_keep hq fuel _ ((put_defers _ _ _).trans hd) h.2⟩
structure KCode (P : Program) (c : Code) (E : List AV) (H : List HO) (K : KK) (X : XX) : Prop where
 out : ∀ (n : Nat) (G : Cx) (a : Act) (w : World) (d : List Deferred), G.P = P → G.rd = none → St G E H a w → a.defers = d → c.wpIn (fw none) n P (fun e a' w' => QOf G K X e a' w' ∧ a'.defers = d) a w
def sdK (P : Program) (T : List TY) : Code → List AV → List HO → KK → XX → Prop
 | .skip, E, H, K, _ => K E H
 | .region id ops draw, E, H, K, X => match draw with
  | false => (match ops.toList.all (fun o => quietOp o.op) with | true => regK P T ops.toList ops.toList E H K X | false => False)
  | true => KCode P (.region id ops true) E H K X
 | .seq a b, E, H, K, X => sdK P T a E H (fun E H => sdK P T b E H K X) X
 | .cond c a b, E, H, K, X => evK E c fun v => match v with
  | .lit t => (match t with | true => sdK P T a E H K X | false => sdK P T b E H K X)
  | .bool t => (t = true → sdK P T a E H K X) ∧ (t = false → sdK P T b E H K X)
  | _ => False
 | .ret, E, H, _, X => X .ret E H
 | c, E, H, K, X => KCode P c E H K X
theorem sd_sound (hT : TOk P T) : ∀ (c : Code) {E : List AV} {H : List HO} {K : KK} {X : XX}, sdK P T c E H K X → KCode P c E H K X
 | .skip, E, H, K, X, h => ⟨fun n G a w d hP hrd hst hd => wpIn_skip ⟨⟨E, H, h, hst⟩, hd⟩⟩
 | .region id ops draw, E, H, K, X, h => by
  unfold sdK at h
  cases draw with
  | false =>
   refine ⟨fun n G a w d hP hrd hst hd => ?_⟩
   obtain ⟨C, mu, hst⟩ := hst
   subst hP
   simp only at h
   split at h
   ·rename_i hq
    exact wpIn_region_list (wpList_keep _ hq hd (reg_sound hT _ h hst))
   ·exact h.elim
  | true => exact h
 | .seq x y, E, H, K, X, h => ⟨fun n G a w d hP hrd hst hd => by
  unfold sdK at h
  refine wpIn_seq (wpIn_mono ((sd_sound hT x h).out n G a w d hP hrd hst hd) fun e a w q => ?_)
  cases e with
  | normal => obtain ⟨⟨E', H', h1, h2⟩, hd⟩ := q; exact (sd_sound hT y h1).out n G a w d hP hrd h2 hd
  | _ => exact q⟩
 | .cond c x y, E, H, K, X, h => ⟨fun n G a w d hP hrd hst hd => by
  unfold sdK at h
  rw [evK_iff] at h
  have hst0 := hst
  obtain ⟨C, mu, hst'⟩ := hst0
  have hr := rep_ev hst'.env c
  split at h
  ·rename_i t hb
   rw [hb] at hr
   have hv := rep_lit_inv hr
   cases t with
   | true => exact wpIn_cond_true hv ((sd_sound hT x h).out n G a w d hP hrd hst hd)
   | false => exact wpIn_cond_false hv ((sd_sound hT y h).out n G a w d hP hrd hst hd)
  ·rename_i t hb
   rw [hb] at hr
   have hv := rep_bool_inv hr
   exact wpIn_cond_split hv (fun ht => (sd_sound hT x (h.1 ht)).out n G a w d hP hrd hst hd) (fun ht => (sd_sound hT y (h.2 ht)).out n G a w d hP hrd hst hd)
  ·exact h.elim⟩
 | .ret, E, H, K, X, h => ⟨fun n G a w d hP hrd hst hd => wpIn_ret ⟨⟨E, H, h, hst⟩, hd⟩⟩
 | .block _ _, _, _, _, _, h => h
 | .exit _, _, _, _, _, h => h
 | .loop b, _, _, _, _, h => h
 | .rangeFunc _ _ _ _, _, _, _, _, h => h
 | .scope _, _, _, _, _, h => h
 | .label _, _, _, _, _, h => h
 | .goto _, _, _, _, _, h => h
 | .refuse _, _, _, _, _, h => h
def RecOK (C : CellSet) (w : World) (mu : Mu) (u : FrameMode) (rv : Option AV) : Prop :=
 match rv with
 | none => u = .returning
 | some x => ∃ v, u = .panicking [{ v, recovered := false }] ∧ Rep C w x mu v
def recV (rv : Option AV) : AV := match rv with | none => .raw .nilIface | some x => x
def taK (T : List TY) (x : AV) (t : TypeId) (K : AV → Prop) : Prop :=
 lkK T t fun y => match y.k with
  | .struct _ => (match x with
   | .iface t' v => (match Nat.beq t' t with | true => K (.tuple [v, .lit true]) | false => False)
   | .raw .nilIface => (match Nat.beq y.zero.length y.size && Nat.ble 2 y.size with | true => K (.tuple [.agg y.zero, .lit false]) | false => False)
   | _ => False)
  | _ => False
def isRec (o : Op) : Bool := match o with
 | .call c => (match c.callee with | .builtin .recover => (match c.args.toList with | [] => true | _ => false) | _ => false)
 | _ => false
def recRK (P : Program) (T : List TY) (ops : List Oper) : List Oper → List AV → List HO → KK → Prop
 | [], E, H, K => K E H
 | o :: r, E, H, K => gdK ops E o.guard
   (fun E => match o.op with
    | .typeAssert x _ t true => evK E x fun v => taK T v t fun v => updOK E o.dst v fun E => recRK P T ops r E H K
    | op => (match quietOp op with
     | true => opK none P T E H op (fun v E' H' => updOK E' o.dst v fun E => recRK P T ops r E H' K) (fun _ _ _ => False)
     | false => False))
   (fun E => updOK E o.dst (.raw undef) fun E => recRK P T ops r E H K)
def recK (P : Program) (T : List TY) (ops : List Oper) (rv : AV) (E : List AV) (H : List HO) (K : KK) : Prop :=
 match ops with
 | o :: r => (isRec o.op = true ∧ o.guard = none) ∧ updOK E o.dst rv fun E => recRK P T ops r E H K
 | [] => False
theorem ta_sound (hT : TOk G.P T) {x : AV} {v : Value} (hx : Rep C w x mu v) {xt t : TypeId} {K : AV → Prop} (h : taK T x t K) :
  ∃ r u, K r ∧ Rep C w r mu u ∧ (Instr.typeAssert v xt t true).run G.P w = .ok u w := by
 unfold taK at h
 replace h := (lkK_iff _ _ _).1 h; obtain ⟨y, hy, h⟩ := h
 obtain ⟨i, d, hi, hd, he⟩ := hT.facts hy
 split at h
 ·rename_i fs hk
  have hst : ∃ fs, d = .struct fs := by
   rw [he] at hk
   simp only at hk
   cases d <;> first | exact ⟨_, rfl⟩ | (simp [kindOf] at hk; done)
  obtain ⟨fs', rfl⟩ := hst
  split at h
  ·rename_i t' av
   split at h
   ·rename_i hb
    obtain rfl := Nat.eq_of_beq_eq_true hb
    unfold Rep at hx
    obtain ⟨q, rfl, hq⟩ := hx
    refine ⟨_, .tuple #[q, .bool true], h, by unfold Rep; exact ⟨[q, .bool true], rfl, by simp [Reps, hq, Rep]⟩, ?_⟩
    simp [Instr.typeAssert, underlying, hd]
   ·exact h.elim
  ·unfold Rep at hx
   subst hx
   split at h
   ·rename_i hb
    simp only [Bool.and_eq_true] at hb
    have hb2 : 2 ≤ y.size := Nat.le_of_ble_eq_true hb.2
    obtain ⟨z, hz, hzr⟩ := zero_reps (C := C) (mu := mu) (w := w) hT hy (Nat.eq_of_beq_eq_true hb.1) (by omega)
    have hzl := reps_len _ hzr
    have hag : ∃ cs, z = .agg cs := by
     cases z with
     | agg cs => exact ⟨cs, rfl⟩
     | _ =>
      exfalso
      have := Nat.eq_of_beq_eq_true hb.1
      simp [Value.cells] at hzl
      omega
    obtain ⟨cs, rfl⟩ := hag
    refine ⟨_, .tuple #[.agg cs, .bool false], h, by unfold Rep; exact ⟨[.agg cs, .bool false], rfl, by simp only [Reps, Rep]; exact ⟨_, _, rfl, ⟨cs.toList, by simp, hzr⟩, _, _, rfl, rfl, rfl⟩⟩, ?_⟩
    simp [Instr.typeAssert, underlying, hd, hz]
   ·exact h.elim
  ·exact h.elim
 ·exact h.elim
theorem rec_call {o : Oper} (h : isRec o.op = true) (ρ : Operand → Value) (w : World) : (execOp ρ o).run P w = .ok .recover w := by
 unfold isRec at h
 split at h
 ·rename_i c hc
  split at h
  ·rename_i hb
   split at h
   ·rename_i ha
    simp [execOp, hc, resolve, hb, invoke, builtin]
   ·cases h
  ·cases h
 ·cases h
theorem quiet_run {n : Nat} {o : Oper} (hq : quietOp o.op = true) {next : Act → World → Prop} {Q : Exit → Act → World → Prop} (h : o.wpIn (fw none) n P a w next Q) :
  (∃ v w', (execOp a.eval o).run P w = .ok (.value v) w' ∧ next (a.put o.dst v) w') ∨ (∃ w', (execOp a.eval o).run P w = .ok .skip w' ∧ next (a.put o.dst undef) w') ∨ ∃ v w', Q (.panic [{ v, recovered := false }]) a w' := by
 have h2 := h.2
 rw [show (fw none).round = none from rfl, Oper.semAt_none] at h2
 cases hr : (execOp a.eval o).run P w with
 | ok r w' =>
  rw [hr] at h2
  rcases quiet_ok hq hr with ⟨v, rfl⟩ | rfl
  ·exact .inl ⟨v, w', rfl, h2⟩
  ·exact .inr (.inl ⟨w', rfl, h2⟩)
 | halt e w' =>
  rw [hr] at h2
  cases e with
  | panic v => exact .inr (.inr ⟨v, w', h2⟩)
  | _ => exact h2.elim
theorem recR_sound (hT : TOk G.P T) {n : Nat} {ops : Array Oper} {Q : Exit → Act → List Frame → World → Prop} {cs0 : List Frame} {K : KK} {D : List Deferred}
  (hQ : ∀ E' H' a' w', K E' H' → St G E' H' a' w' → a'.defers = D → Q .normal a' cs0 w') :
  ∀ (l : List Oper) (k : Nat), (∀ j, l[j]? = ops[k + j]?) → ∀ {C : CellSet} {mu : Mu} {E : List AV} {H : List HO} {a : Act} {w : World}, recRK G.P T ops.toList l E H K → StC G C mu E H a w → a.defers = D →
   wpOpsSIn (fw none) n G.P ops Q (List.range' k l.length) a cs0 w
 | [], k, hk, C, mu, E, H, a, w, h, hst, hD => by
  unfold recRK at h
  exact hQ _ _ _ _ h ⟨C, mu, hst⟩ hD
 | o :: l, k, hk, C, mu, E, H, a, w, h, hst, hD => by
  have h0 : ops[k]? = some o := by simpa using (hk 0).symm
  have hk' : ∀ j, l[j]? = ops[k + 1 + j]? := fun j => by have := hk (j + 1); simp only [List.getElem?_cons_succ] at this; rw [this]; congr 1; omega
  unfold recRK at h
  simp only [List.length_cons, List.range'_succ]
  unfold wpOpsSIn
  simp only [h0]
  refine ⟨fun _ _ => trivial, ?_⟩
  rcases gd_sound rfl hst h with ⟨hw, E', h1, h2⟩ | ⟨hw, E', h1, h2⟩
  ·rw [if_pos hw]
   split at h1
   ·rename_i x xt t ho
    rw [evK_iff] at h1
    obtain ⟨r, v, k1, k2, k3⟩ := ta_sound hT (rep_ev h2.env x) (xt := xt) h1
    have : (execOp a.eval o).run G.P w = .ok (.value v) w := by simp [execOp, ho, k3]
    simp only [this]
    rw [updOK_iff] at k1
    exact recR_sound hT hQ l (k + 1) hk' k1 (h2.frame (reps_put h2.env o.dst k2) (put_defers _ _ _)) ((put_defers _ _ _).trans hD)
   ·split at h1
    ·rename_i hq
     have hw := op_sound (r := none) (n := n) (Kn := K) hT h1 h2 (next := fun a' w' => OpPost G o (fun v E' H' => updOK E' o.dst v fun E => recRK G.P T ops.toList l E H' K) a' w') (fun _ _ h => h)
     have go : ∀ {a' : Act} {w' : World}, OpPost G o (fun v E' H' => updOK E' o.dst v fun E => recRK G.P T ops.toList l E H' K) a' w' → a'.defers = D → wpOpsSIn (fw none) n G.P ops Q (List.range' (k + 1) l.length) a' cs0 w' := by
      intro a' w' hp hd
      obtain ⟨r, E'', H'', hk2, C', mu', hst'⟩ := hp
      rw [updOK_iff] at hk2
      exact recR_sound hT hQ l (k + 1) hk' hk2 hst' hd
     rcases quiet_run hq hw with ⟨v, w', e1, e2⟩ | ⟨w', e1, e2⟩ | ⟨v, w', e2⟩
     ·simp only [e1]
      exact go e2 ((put_defers _ _ _).trans hD)
     ·simp only [e1]
      exact go e2 ((put_defers _ _ _).trans hD)
     ·obtain ⟨x, v', E1, H1, C1, mu1, _, hf, _⟩ := e2
      exact hf.elim
    ·exact h1.elim
  ·rw [if_neg (by simp [hw])]
   rw [updOK_iff] at h1
   exact recR_sound hT hQ l (k + 1) hk' h1 (h2.frame (reps_put h2.env o.dst (show Rep C w (.raw undef) mu undef by unfold Rep; rfl)) (put_defers _ _ _)) ((put_defers _ _ _).trans hD)
theorem rec_sound (hT : TOk G.P T) {n : Nat} {ops : Array Oper} {Q : Exit → Act → List Frame → World → Prop} {c₀ : Frame} {cs : List Frame} {u : FrameMode} {rv : Option AV} {K : KK} {D : List Deferred}
  (hu : c₀.mode = u) (hrv : RecOK C w mu u rv) (hQ : ∀ u' E' H' a' w', settle u' = .returning → K E' H' → St G E' H' a' w' → a'.defers = D → Q .normal a' ({ c₀ with mode := u' } :: cs) w')
  (h : recK G.P T ops.toList (recV rv) E H K) (hst : StC G C mu E H a w) (hD : a.defers = D) : wpOpsSIn (fw none) n G.P ops Q (List.range ops.size) a (c₀ :: cs) w := by
 unfold recK at h
 split at h
 ·rename_i o r hops
  obtain ⟨⟨h1, h2⟩, h3⟩ := h
  rw [updOK_iff] at h3
  have hsz : ops.size = r.length + 1 := by rw [← Array.length_toList, hops]; rfl
  have h0 : ops[0]? = some o := by rw [← Array.getElem?_toList, hops]; rfl
  have hk' : ∀ j, r[j]? = ops[0 + 1 + j]? := fun j => by rw [← Array.getElem?_toList, hops, show 0 + 1 + j = j + 1 by omega, List.getElem?_cons_succ]
  rw [hsz, List.range_eq_range', List.range'_succ]
  unfold wpOpsSIn
  simp only [h0]
  refine ⟨fun _ _ => trivial, ?_⟩
  rw [if_pos (by simp [Region.wanted, h2]), rec_call h1]
  cases rv with
  | none =>
   have hm : c₀.mode = .returning := hu.trans hrv
   have : recoverD (c₀ :: cs) = none := by simp [recoverD, hm]
   simp only [this]
   have he : c₀ = { c₀ with mode := .returning } := by rw [← hm]
   rw [he]
   exact recR_sound hT (fun E' H' a' w' q1 q2 q3 => hQ .returning E' H' a' w' rfl q1 q2 q3) r (0 + 1) hk' h3 (hst.frame (reps_put hst.env o.dst (show Rep C w (.raw .nilIface) mu .nilIface by unfold Rep; rfl)) (put_defers _ _ _)) ((put_defers _ _ _).trans hD)
  | some x =>
   obtain ⟨v, hv, hx⟩ := hrv
   have hm : c₀.mode = .panicking [{ v, recovered := false }] := hu.trans hv
   have : recoverD (c₀ :: cs) = some (v, { c₀ with mode := .panicking [{ v, recovered := true }] } :: cs) := by simp [recoverD, hm]
   simp only [this]
   exact recR_sound hT (fun E' H' a' w' q1 q2 q3 => hQ _ E' H' a' w' rfl q1 q2 q3) r (0 + 1) hk' h3 (hst.frame (reps_put hst.env o.dst hx) (put_defers _ _ _)) ((put_defers _ _ _).trans hD)
 ·exact h.elim
structure DCtr (P : Program) (f : FuncId) (args : List AV) (H0 : List HO) (rv : Option AV) (R : List HO → Prop) : Prop where
 good : goodF P f = true
 out : ∀ (n : Nat) (C : CellSet) (mu : Mu) (w : World) (vs : List Value) (u : FrameMode), COK C w → HeapRel C w (fun _ => True) mu H0 → Reps C w args mu vs → RecOK C w mu u rv →
  CallsDIn (fw none) n P f vs.toArray u w fun e u' w' => ∃ v H1 C' mu', e = .returned v ∧ settle u' = .returning ∧ R H1 ∧ HPost C mu w C' mu' w' ∧ HeapRel C' w' (fun _ => True) mu' H1 ∧
   H1.length = H0.length ∧ realH H1 = true ∧ ∀ l : Nat, H0[l]? = some HO.dead → H1[l]? = some HO.dead
theorem DCtr.of_body {f : FuncId} {fn : Func} {id : Nat} {ops : Array Oper} {rest : Code} {args : List AV} {H0 : List HO} {rv : Option AV} {R : List HO → Prop} (hf : P.funcs[f]? = some fn) (hb : fn.body = some (.seq (.region id ops false) rest)) (hres : fn.results = #[])
  (hT : TOk P T) (hg : goodF P f = true) (hreal : realH H0 = true)
  (h : enterK fn.ntmps args fun E => recK P T ops.toList (recV rv) E H0 fun E H => KCode P rest E H (fun _ H => hendK H0.length H H0 H R) (fun e _ H => match e with | .ret => hendK H0.length H H0 H R | _ => False)) : DCtr P f args H0 rv R := by
 refine ⟨hg, fun n C mu w vs u hlt hh hr hrv => callsDIn_of_wpSIn hf hb trivial fun c₀ cs hu => ?_⟩
 unfold enterK at h
 rw [repK_iff, appK_iff] at h
 let G : Cx := { P := P, gok := ⟨hlt, fun b o hc ⟨l, g, hl, hg⟩ => (hh.fresh l g b hl hg).2.2 o hc⟩, C0 := C, M0 := fun b => ∃ l g, mu l = some g ∧ g.block? = some b, W0 := w, pin := fun l b => mu l = some (.blk b), np := H0.length }
 have hst : StC G C mu (args ++ List.replicate (fn.ntmps - args.length) (.raw undef)) H0 { tmps := vs.toArray ++ Array.replicate (fn.ntmps - vs.toArray.size) undef, defers := [] } w := by
  refine ⟨fun _ _ h => h, fun _ _ h => .inl h, hlt.lt, ⟨hh.dom, fun l g b hl hg => ⟨.inr ⟨l, g, hl, hg⟩, (hh.fresh l g b hl hg).2⟩, hh.sep, hh.dead, hh.recs, hh.arrs, hh.maps⟩, ?_, ⟨[], rfl, xrel_real hreal⟩, ⟨rfl, rfl, rfl, Nat.le_refl _, fun _ _ _ => rfl⟩, Nat.le_refl _, fun _ _ _ h => h⟩
  have hl := reps_len _ hr
  have := reps_append hr (reps_replicate (C := C) (w := w) (mu := mu) (fn.ntmps - args.length))
  simpa [hl] using this
 have hrun : ∀ (tmps : Array Value) (w : World), (results fn tmps).run P w = .ok (.tuple #[]) w := fun tmps w => by
  rw [results_eq, hres]; simp
 refine wpSIn_seq (wpSIn_region ?_)
 refine rec_sound (G := G) hT hu hrv (D := []) (fun u' E' H' a' w1 hu' hk hst' hD => ?_) h hst rfl
 ·skip
  have fin : ∀ H a w', hendK H0.length H H0 H R → (∃ E, St G E H a w') → ∃ v H1 C' mu', Ending.returned (.tuple #[]) = .returned v ∧ settle u' = .returning ∧ R H1 ∧ HPost C mu w C' mu' w' ∧ HeapRel C' w' (fun _ => True) mu' H1 ∧
    H1.length = H0.length ∧ realH H1 = true ∧ ∀ l : Nat, H0[l]? = some HO.dead → H1[l]? = some HO.dead := by
   rintro H a w' hk ⟨E, C1, mu1, hst⟩
   obtain ⟨r, H1, C', mu', k1, k2, k3, _, k4⟩ := hfin (x := .bool true) (v := .bool true) (R := fun _ H1 => R H1) (n := 0) hh hst (by unfold Rep; rfl) (by unfold closeN; simpa [closed, AV.force_iff] using hk)
   exact ⟨_, H1, C', mu', rfl, hu', k1, k2, k3, k4⟩
  refine wpSIn_of_wpIn rfl (wpIn_mono (hk.out n G a' w1 [] rfl rfl hst' hD) fun e a w' q => ?_)
  obtain ⟨q, hd⟩ := q
  cases e with
  | normal => obtain ⟨E, H, h1, h2⟩ := q; exact ⟨hd, u', rfl, _, hrun _ _, fin H a w' h1 ⟨E, h2⟩⟩
  | ret => obtain ⟨E, H, h1, h2⟩ := q; exact ⟨hd, u', rfl, _, hrun _ _, fin H a w' h1 ⟨E, h2⟩⟩
  | exit id => obtain ⟨E, H, h1, h2⟩ := q; exact h1.elim
  | goto l => exact q.elim
  | outgrown => exact q.elim
  | panic ch => obtain ⟨x, v, E, H, C1, mu1, _, hk, _⟩ := q; exact hk.elim
end
end Go.Av
namespace Go.Av
open Go.RowKit (Below)
section
variable {G : Cx} {C C' : CellSet} {w w' : World} {mu : Mu} {H H0 : List HO} {E : List AV} {a : Act} {T : List TY} {P : Program}
structure DCall (P : Program) (f : FuncId) (cap : List AV) (rv : Option AV) (E : List AV) (H : List HO) (K : KK) : Prop where
 good : goodF P f = true
 out : ∀ (n : Nat) (G : Cx) C mu (a : Act) (w : World) (vs : List Value) (u : FrameMode), G.P = P → StC G C mu E H a w → Reps C w cap mu vs → RecOK C w mu u rv →
  CallsDIn (fw none) n P f vs.toArray u w fun e u' w' => ∃ v E' H' C' mu', e = .returned v ∧ settle u' = .returning ∧ K E' H' ∧ StC G C' mu' E' H' a w'
def recL (rv : Option AV) : List AV := match rv with | some x => [x] | none => []
theorem DCall.of_d {f : FuncId} {cap : List AV} {rv : Option AV} {R : List HO → Prop} {K : KK} (h : DCtr P f cap H0 rv R) (hw : withins H0 cap = true) (hx : withins H0 (recL rv) = true) (hh : handK H0 H0 H True)
  (hk : ∀ H1, R H1 → scrK H0 E fun E' => mergeK H0 H0 H1 H fun H' => K E' H') : DCall P f cap rv E H K := by
 refine ⟨h.good, fun n G C mu a w vs u hP hst hr hrv => (h.out n C (mu.only H0) w vs u hst.cok (only_rel hst hh) (withins_rep cap hw hr) ?_).mono fun e u' w' hp => ?_⟩
 ·cases rv with
  | none => exact hrv
  | some x =>
   obtain ⟨v, hv, hx'⟩ := hrv
   have := withins_rep (H0 := H0) [x] hx (C := C) (w := w) (mu := mu) (vs := [v]) (by unfold Reps; exact ⟨v, [], rfl, hx', by unfold Reps; rfl⟩)
   unfold Reps at this
   obtain ⟨v', vs', he, k, _⟩ := this
   simp only [List.cons.injEq] at he
   obtain ⟨rfl, _⟩ := he
   exact ⟨v, hv, k⟩
 ·obtain ⟨v, H1, C', mu', he, hs, hR, hp, hrel, hlen, hreal, hdead⟩ := hp
  have hr0 := (handK_ok hh).1
  have hk := hk H1 hR
  rw [scrK_iff] at hk
  obtain ⟨H', k1, k2, k3, k4⟩ := mergeK_ok hr0 hk
  obtain ⟨m1, m2⟩ := merged hst hh hp hrel hlen hreal hdead k2 k3 k4
  exact ⟨v, _, _, C', _, he, hs, k1, m1⟩
def Cx.dfd (G : Cx) (ms : List Nat) (f : FuncId) (vs : List Value) : Cx :=
 { G with ds := { target := .fn (.func f) vs.toArray, args := #[] } :: (ms.map mark ++ G.ds), rds := ms.map (fun D => (D, dfr)) ++ G.rds, hrd := fun l h => let ⟨r, hr⟩ := G.hrd l h; ⟨r, List.mem_append_right _ hr⟩ }
def gh (g : Nat) (vs : List Value) (H : List HO) : Prop := ∃ cap, H[g]? = some (.ghost cap vs [])
abbrev DK := FuncId → Nat → List Value → KK
abbrev DX := FuncId → Nat → List Value → XX
def QD (G : Cx) (K : KK) (X : XX) (K2 : DK) (X2 : DX) (e : Exit) (a : Act) (w : World) : Prop :=
 QOf G K X e a w ∨ ∃ ms f vs g, goodF G.P f = true ∧ QOf (G.dfd ms f vs) (fun E H => gh g vs H ∧ K2 f g vs E H) (fun e E H => gh g vs H ∧ X2 f g vs e E H) e a w
structure ADef (P : Program) (c : Code) (E : List AV) (H : List HO) (K : KK) (X : XX) (K2 : DK) (X2 : DX) : Prop where
 out : ∀ (n : Nat) (G : Cx) (a : Act) (w : World), G.P = P → G.rd = none → St G E H a w → c.wpIn (fw none) n P (QD G K X K2 X2) a w
theorem ADef.seq1 {x y : Code} {K : KK} {X : XX} {K2 : DK} {X2 : DX} (h : ACode P x E H (fun E H => ADef P y E H K X K2 X2) X) : ADef P (.seq x y) E H K X K2 X2 :=
 ⟨fun n G a w hP hr hst => wpIn_seq (wpIn_mono (by have := h.out n G a w hP hst; rwa [hr] at this) fun e a w q => by
  cases e with
  | normal => obtain ⟨E', H', h1, h2⟩ := q; exact h1.out n G a w hP hr h2
  | _ => exact .inl q)⟩
theorem ADef.seq2 {x y : Code} {K : KK} {X : XX} {K2 : DK} {X2 : DX} (h : ADef P x E H (fun E H => ADef P y E H K X K2 X2) X (fun f g vs E H => ACode P y E H (fun E H => gh g vs H ∧ K2 f g vs E H) (fun e E H => gh g vs H ∧ X2 f g vs e E H)) X2) : ADef P (.seq x y) E H K X K2 X2 :=
 ⟨fun n G a w hP hr hst => wpIn_seq (wpIn_mono (h.out n G a w hP hr hst) fun e a w q => by
  rcases q with q | ⟨ms, f, vs, g, hg, q⟩
  ·cases e with
   | normal => obtain ⟨E', H', h1, h2⟩ := q; exact h1.out n G a w hP hr h2
   | _ => exact .inl q
  ·cases e with
   | normal =>
    obtain ⟨E', H', ⟨_, h1⟩, h2⟩ := q
    refine wpIn_mono (by have := h1.out n (G.dfd ms f vs) a w hP h2; rwa [show (G.dfd ms f vs).rd = none from hr] at this) fun e a w q => .inr ⟨ms, f, vs, g, hg, q⟩
   | _ => exact .inr ⟨ms, f, vs, g, hg, q⟩)⟩
def regDK (P : Program) (T : List TY) (ops : List Oper) : List Oper → List AV → List HO → (FuncId → List AV → KK) → XX → Prop
 | [], _, _, _, _ => False
 | o :: r, E, H, K, X => match o.op with
  | .defer c => (match r, o.guard with
   | [], none => (match c.callee, c.args.toList with
    | .value f, [] => evK E f fun v => (match v with
     | .fn f cap => goodF P f = true ∧ updOK E o.dst (.raw undef) fun E => K f cap E H
     | _ => False)
    | _, _ => False)
   | _, _ => False)
  | op => gdK ops E o.guard (fun E => opK none P T E H op (fun v E' H' => updOK E' o.dst v fun E'' => regDK P T ops r E'' H' K X) X) (fun E => updOK E o.dst (.raw undef) fun E' => regDK P T ops r E' H K X)
theorem oper_mono {F : Fence} {n : Nat} {o : Oper} {K K' : Act → World → Prop} {Q Q' : Exit → Act → World → Prop} (h : ∀ a w, K a w → K' a w) (hq : ∀ e a w, Q e a w → Q' e a w) (hh : o.wpIn F n P a w K Q) : o.wpIn F n P a w K' Q' := by
 unfold Oper.wpIn at *
 refine ⟨hh.1, ?_⟩
 have hh := hh.2
 have hl : LetsOut Q → LetsOut Q' := fun h => by
  obtain ⟨a, w, k⟩ := h
  exact ⟨a, w, hq _ _ _ k⟩
 generalize (o.semAt F.round a.eval).run P w = r at *
 cases r with
 | ok x w' =>
  cases x <;> simp only [Oper.uponIn] at hh ⊢ <;>
   first
    | exact h _ _ hh
    | exact ⟨hh.1, CallsIn.mono hh.2 (fun e w'' he => by cases e <;> first | exact h _ _ he | exact hq _ _ _ he | exact hl he)⟩
    | exact ⟨hh.1, RowsIn.mono hh.2 (fun _ _ he => h _ _ he)⟩
    | exact ⟨hh.1, RoundIn.mono hh.2 (fun e w'' he => by cases e <;> first | exact h _ _ he | exact hq _ _ _ he | exact hl he)⟩
 | halt x w' => cases x <;> simp only [Oper.uponIn] at hh ⊢ <;> first | exact hq _ _ _ hh | exact hh
theorem st_defer {ms : List Nat} {f : FuncId} {cap : List AV} {vs : List Value} (h : StC G C mu E H a w) (d1 : a.defers = ms.map mark ++ G.ds) (d2 : XRel C w G.fresh mu H (ms.map (fun D => (D, dfr)) ++ G.rds)) (hr : Reps C w cap mu vs) :
  StC (G.dfd ms f vs) C mu E (H ++ [.ghost cap vs []]) { a with defers := { target := .fn (.func f) vs.toArray, args := #[] } :: a.defers } w := by
 have get : ∀ {l : Nat} {ob : HO}, (H ++ [HO.ghost cap vs []])[l]? = some ob → H[l]? = some ob ∨ (l = H.length ∧ ob = .ghost cap vs []) := fun {l ob} hl => by
  rcases Nat.lt_or_ge l H.length with k | k
  ·rw [List.getElem?_append_left k] at hl; exact .inl hl
  ·rw [List.getElem?_append_right k] at hl
   have : l - H.length = 0 := by
    have := (List.getElem?_eq_some_iff.1 hl).1
    simp at this; omega
   rw [this] at hl
   simp at hl
   exact .inr ⟨by omega, hl.symm⟩
 refine ⟨h.c0, h.c1, h.lt, ⟨fun l g hl => ?_, h.heap.fresh, h.heap.sep, fun l hl => ?_, fun l cs hl => ?_, fun l e sz es hl => ?_, fun l ks vs hl => ?_⟩, h.env, ⟨[], by simp [Cx.dfd, d1], ⟨fun l cs vs' ms' hl => ?_, fun l I hl => ?_, fun D hD => d2.marks D (by simpa [Cx.dfd] using hD), ?_, fun l l' cs vs1 ms1 cs' vs2 ms2 hl hl' hne D hD hD' => ?_⟩⟩, ⟨h.keep.os, h.keep.tape, h.keep.output, h.keep.size, h.keep.block⟩, ?_⟩
 ·have := h.heap.dom l g hl; simp; omega
 ·rcases get hl with k | ⟨_, k⟩
  ·exact h.heap.dead l k
  ·cases k
 ·rcases get hl with k | ⟨_, k⟩
  ·exact h.heap.recs l cs k
  ·cases k
 ·rcases get hl with k | ⟨_, k⟩
  ·exact h.heap.arrs l e sz es k
  ·cases k
 ·rcases get hl with k | ⟨_, k⟩
  ·exact h.heap.maps l ks vs k
  ·cases k
 ·rcases get hl with k | ⟨_, k⟩
  ·obtain ⟨q1, q2, q3⟩ := d2.ghosts l cs vs' ms' k
   exact ⟨q1, q2, fun D hD => ⟨(q3 D hD).1, by simpa [Cx.dfd] using (q3 D hD).2⟩⟩
  ·cases k
   exact ⟨hr, List.nodup_nil, fun D hD => by cases hD⟩
 ·rcases get hl with k | ⟨_, k⟩
  ·obtain ⟨h0, Sw, Sr, q1, q2, q3, q4⟩ := d2.invs l I k
   refine ⟨h0, Sw, Sr, q1, q2, fun D hD => q3 D (by simpa [Cx.dfd] using hD), fun l' cs vs' ms' hl' D hD => ?_⟩
   rcases get hl' with k' | ⟨_, k'⟩
   ·exact q4 l' cs vs' ms' k' D hD
   ·cases k'; cases hD
  ·cases k
 ·have := d2.nd
  simpa [Cx.dfd] using this
 ·rcases get hl with k | ⟨k0, k⟩
  ·rcases get hl' with k' | ⟨_, k'⟩
   ·exact d2.sep l l' cs vs1 ms1 cs' vs2 ms2 k k' hne D hD hD'
   ·cases k'; cases hD'
  ·cases k; cases hD
 ·exact ⟨by have := h.pin.1; simp only [List.length_append, List.length_cons, List.length_nil]; exact Nat.le_trans this (by omega), h.pin.2⟩
theorem regD_sound (hT : TOk G.P T) (hrd : G.rd = none) {n : Nat} {ops : Array Oper} {K0 : KK} {K : FuncId → List AV → KK} {X : XX} {K2 : DK} {X2 : DX} (hK : ∀ f cap E H, K f cap E H → ∀ vs, K2 f H.length vs E (H ++ [.ghost cap vs []])) :
  ∀ (l : List Oper) {C : CellSet} {mu : Mu} {E : List AV} {H : List HO} {a : Act} {w : World}, regDK G.P T ops.toList l E H K X → StC G C mu E H a w → wpListIn (fw none) n G.P ops (QD G K0 X K2 X2) l a w
 | [], _, _, _, _, _, _, h, hst => by unfold regDK at h; exact h.elim
 | o :: l, C, mu, E, H, a, w, h, hst => by
  unfold regDK at h
  split at h
  ·rename_i c hop
   split at h
   ·rename_i hg
    split at h
    ·rename_i f hc ha
     rw [evK_iff] at h
     split at h
     ·rename_i fi cap hfe
      obtain ⟨hgood, h⟩ := h
      rw [updOK_iff] at h
      have hf := rep_ev hst.env f
      rw [hfe] at hf
      unfold Rep at hf
      obtain ⟨vs, hfv, hvs⟩ := hf
      obtain ⟨ms, d1, d2⟩ := hst.defers
      unfold wpListIn
      rw [if_pos (by simp [Region.wanted, hg])]
      refine ⟨fun _ _ => trivial, ?_⟩
      rw [show (fw none).round = none from rfl, Oper.semAt_none]
      have hrun : (execOp a.eval o).run G.P w = .ok (.defer { target := .fn (.func fi) vs.toArray, args := #[] }) w := by
       obtain ⟨cal, args, tys⟩ := c
       simp only at hc ha
       subst hc
       have : args = #[] := by simpa using ha
       subst this
       simp [execOp, hop, resolve, hfv, Deferred.ofValue]
      rw [hrun, Oper.uponIn_defer]
      refine .inr ⟨ms, fi, vs, H.length, hgood, _, _, ⟨⟨cap, by simp⟩, hK _ _ _ _ h vs⟩, C, mu, ?_⟩
      have hx : Rep C w (.raw undef) mu undef := by unfold Rep; rfl
      exact (st_defer hst d1 d2 hvs).frame (reps_put (a := { a with defers := { target := .fn (.func fi) vs.toArray, args := #[] } :: a.defers }) hst.env o.dst hx) (put_defers _ _ _)
     ·exact h.elim
    ·exact h.elim
   ·exact h.elim
  ·unfold wpListIn
   rcases gd_sound rfl hst h with ⟨hw, E', h1, h2⟩ | ⟨hw, E', h1, h2⟩
   ·rw [if_pos hw]
    refine oper_mono (fun _ _ h => h) (fun e a w q => .inl q) (op_sound (r := none) (Kn := K0) hT h1 h2 fun a' w' hp => ?_)
    obtain ⟨x, E'', H', h3, C', mu', h4⟩ := hp
    rw [updOK_iff] at h3
    exact regD_sound hT hrd hK l h3 h4
   ·rw [if_neg (by simp [hw])]
    rw [updOK_iff] at h1
    exact ⟨fun _ _ => trivial, regD_sound hT hrd hK l h1 (h2.frame (reps_put h2.env o.dst (show Rep C w (.raw undef) mu undef by unfold Rep; rfl)) (put_defers _ _ _))⟩
theorem ADef.region {id : Nat} {ops : Array Oper} {K : KK} {X : XX} {K2 : DK} {X2 : DX} (hT : TOk P T) (h : regDK P T ops.toList ops.toList E H (fun f cap E H => ∀ vs, K2 f H.length vs E (H ++ [.ghost cap vs []])) X) : ADef P (.region id ops false) E H K X K2 X2 :=
 ⟨fun n G a w hP hr hst => by
  obtain ⟨C, mu, hst⟩ := hst
  subst hP
  exact wpIn_region_list (regD_sound hT hr (fun f cap E H k => k) _ h hst)⟩
end
end Go.Av
namespace Go.Av
open Go.RowKit (Below)
section
variable {G : Cx} {C C' : CellSet} {w w' : World} {mu : Mu} {H H0 : List HO} {E : List AV} {a : Act} {T : List TY} {P : Program}
theorem XRel.less {fr : Nat → Prop} {d1 d2 : List (Nat × Obj)} (h : XRel C w fr mu H (d1 ++ d2)) : XRel C w fr mu H d2 := by
 refine ⟨fun l cs vs ms hl => ?_, fun l I hl => ?_, fun D hD => h.marks D (List.mem_append_right _ hD), ?_, h.sep⟩
 ·obtain ⟨q1, q2, q3⟩ := h.ghosts l cs vs ms hl
  refine ⟨q1, q2, fun D hD => ⟨(q3 D hD).1, fun hd => (q3 D hD).2 ?_⟩⟩
  rw [List.map_append]; exact List.mem_append_right _ hd
 ·obtain ⟨h0, Sw, Sr, q1, q2, q3, q4⟩ := h.invs l I hl
  exact ⟨h0, Sw, Sr, q1, q2, fun D hD => q3 D (List.mem_append_right _ hD), q4⟩
 ·have := h.nd
  rw [List.map_append] at this
  exact (List.nodup_append.1 this).2.1
theorem leaves_marks {n : Nat} {fn : Func} {R : Ending → World → Prop} {tmps tm2 : Array Value} {u : FrameMode} (hu : u ≠ .run) : ∀ (ms : List Nat) {w : World} {a : Act}, a.tmps = tm2 → StC G C mu E H a w → XRel C w G.fresh mu H (ms.map (fun D => (D, dfr)) ++ G.rds) →
  (∀ a' w', a'.tmps = tm2 → StC G C mu E H a' w' → XRel C w' G.fresh mu H G.rds → LeavesInM (fw none) n G.P fn tmps R G.ds u w') → LeavesInM (fw none) n G.P fn tmps R (ms.map mark ++ G.ds) u w
 | [], w, a, ha, h, hx, hr => hr a w ha h (by simpa using hx)
 | D :: ms, w, a, ha, h, hx, hr => by
  simp only [List.map_cons, List.cons_append, LeavesInM]
  obtain ⟨h1, h2⟩ := h.takeMark hx
  refine ⟨hu, .inl ⟨D, _, rfl, run_takeDeferred ?_, leaves_marks hu ms (a := { a with defers := ms.map mark ++ G.ds }) (by exact ha) h1 h2 hr⟩⟩
  exact (hx.marks (D, dfr) (by simp)).at_
theorem run_enter {f : FuncId} {vs : List Value} (hg : goodF P f = true) (w : World) : (invoke (.fn (.func f) vs.toArray) #[]).run P w = .ok (.enter f vs.toArray) w := by
 unfold goodF at hg
 cases hfn : P.funcs[f]? with
 | none => rw [hfn] at hg; cases hg
 | some fn =>
  rw [hfn] at hg
  simp only [Bool.and_eq_true] at hg
  have hne : fn.name ≠ "runtime.NumGoroutine" := by simpa using hg.2
  have hb : fn.body ≠ none := by cases hh : fn.body <;> simp_all
  simp [invoke, callFunc, hfn, hne, hb]
theorem leave_defer {n : Nat} {fn : Func} {R : Ending → World → Prop} {tmps : Array Value} (hds : G.ds = []) (hrds : G.rds = []) {ms : List Nat} {f : FuncId} {vs : List Value} {g : Nat} {rv : Option AV} {u : FrameMode} {K : KK} (hu : u ≠ .run) (hgf : goodF G.P f = true)
  (hst : StC (G.dfd ms f vs) C mu E H a w) (hrv : RecOK C w mu u rv) (hgh : gh g vs H) (hd : ∀ cap vs', H[g]? = some (.ghost cap vs' []) → DCall G.P f cap rv E H K) (ht : a.tmps = tmps)
  (hfin : ∀ E H C mu a w, K E H → a.tmps = tmps → StC G C mu E H a w → ∃ v, (results fn tmps).run G.P w = .ok v w ∧ R (.returned v) w) : LeavesInM (fw none) n G.P fn tmps R a.defers u w := by
 obtain ⟨ms2, d1, d2⟩ := hst.defers
 rw [d1]
 -- the panic's value rides in the frame
 obtain ⟨rs, hrs, hback⟩ : ∃ rs : List Value, Reps C w (recL rv) mu rs ∧ ∀ w', Reps C w' (recL rv) mu rs → RecOK C w' mu u rv := by
  cases rv with
  | none => exact ⟨[], by unfold recL Reps; rfl, fun _ _ => hrv⟩
  | some x =>
   obtain ⟨v, hv, hx⟩ := hrv
   refine ⟨[v], by unfold recL Reps; exact ⟨v, [], rfl, hx, by unfold Reps; rfl⟩, fun w' h => ⟨v, hv, ?_⟩⟩
   unfold recL Reps at h
   obtain ⟨v', vs', he, k, _⟩ := h
   simp only [List.cons.injEq] at he
   obtain ⟨rfl, _⟩ := he
   exact k
 have hl : rs.length = (recL rv).length := reps_len _ hrs
 have hst2 : StC (G.dfd ms f vs) C mu (recL rv ++ E) H { tmps := (rs ++ a.tmps.toList).toArray, defers := a.defers } w := hst.frame (by simpa using reps_append hrs hst.env) rfl
 refine leaves_marks (G := G.dfd ms f vs) hu ms2 rfl hst2 d2 fun a' w' ha hs hx => ?_
 have henv := hs.env
 rw [ha] at henv
 have h1 : Reps C w' (recL rv) mu rs := by
  have := henv.take (recL rv).length
  simpa [← hl] using this
 have h2 : Reps C w' E mu a.tmps.toList := by
  have := henv.drop (recL rv).length
  simpa [← hl] using this
 have hs' : StC (G.dfd ms f vs) C mu E H { tmps := a.tmps, defers := a'.defers } w' := hs.frame h2 rfl
 obtain ⟨cap, hcap⟩ := hgh
 have hvs : Reps C w' cap mu vs := (hx.ghosts g cap vs [] hcap).1
 show LeavesInM (fw none) n G.P fn tmps R ({ target := .fn (.func f) vs.toArray, args := #[] } :: (ms.map mark ++ G.ds)) u w'
 unfold LeavesInM
 refine ⟨hu, .inr ⟨fun h => (by cases h), _, _, f, vs.toArray, rfl, run_enter hgf w', fun _ _ => trivial, ((hd cap vs hcap).out (n - 1) (G.dfd ms f vs) C mu _ w' vs u rfl hs' hvs (hback w' h1)).mono fun e u' w'' hp => ?_⟩⟩
 obtain ⟨v, E', H', C', mu', rfl, hset, hk, hst3⟩ := hp
 obtain ⟨ms3, e1, e2⟩ := hst3.defers
 simp only [hset]
 have e3 : XRel C' w'' G.fresh mu' H' (ms.map (fun D => (D, dfr)) ++ G.rds) := e2.less
 have hst4 : StC G C' mu' E' H' { tmps := a.tmps, defers := ms.map mark ++ G.ds } w'' := ⟨hst3.c0, hst3.c1, hst3.lt, hst3.heap, hst3.env, ⟨ms, rfl, e3⟩, ⟨hst3.keep.os, hst3.keep.tape, hst3.keep.output, hst3.keep.size, hst3.keep.block⟩, hst3.pin⟩
 rw [show ms.map mark ++ G.ds = ms.map mark by simp [hds]]
 exact leaves_ok hds ms (by exact ht) hst4 e3 fun a' w' ha hs => hfin _ _ _ _ _ _ hk ha hs
def endD (P : Program) (T : List TY) (rs : List ResultVar) (R : AV → Prop) (f : FuncId) (g : Nat) (rv : Option AV) (E : List AV) (H : List HO) : Prop :=
 lkK H g fun ob => match ob with | .ghost cap _ _ => DCall P f cap rv E H (retK T rs R) | _ => False
theorem Ctr.of_body_defer {f : FuncId} {fn : Func} {c : Code} {args : List AV} {R : AV → Prop} (hf : P.funcs[f]? = some fn) (hb : fn.body = some c) (hT : TOk P T) (hg : goodF P f = true)
  (h : enterK fn.ntmps args fun E => ADef P c E [] (retK T fn.results.toList R) (fun e E H => match e with | .ret => retK T fn.results.toList R E H | _ => False)
   (fun f g _ E H => endD P T fn.results.toList R f g none E H) (fun f g _ e E H => match e with | .ret => endD P T fn.results.toList R f g none E H | .panic x => endD P T fn.results.toList R f g (some x) E H | _ => False)) : Ctr P f args R := by
 refine ⟨hg, fun C w vs hlt hr => (callsIn_wide (n := 0)).1 (callsIn_of_wp_marks (F := Fence.wide) (n := 0) hf hb trivial ?_ rfl)⟩
 unfold enterK at h
 rw [repK_iff, appK_iff] at h
 let G : Cx := { P := P, C0 := C, M0 := fun _ => False, W0 := w, gok := ⟨hlt, fun _ _ _ h => h⟩ }
 have hst : St G (args ++ List.replicate (fn.ntmps - args.length) (.raw undef)) [] { tmps := vs.toArray ++ Array.replicate (fn.ntmps - vs.toArray.size) undef, defers := [] } w := by
  refine ⟨C, Mu.none, fun _ _ h => h, fun _ _ h => .inl h, hlt.lt, heap_empty _ _ _, ?_, ⟨[], rfl, xrel_empty _ _ _ _⟩, ⟨rfl, rfl, rfl, Nat.le_refl _, fun _ _ _ => rfl⟩, Nat.zero_le _, fun _ _ h => absurd h (Nat.not_lt_zero _)⟩
  have hl := reps_len _ hr
  have := reps_append hr (reps_replicate (C := C) (w := w) (mu := Mu.none) (fn.ntmps - args.length))
  simpa [hl] using this
 let RR : Ending → World → Prop := fun e w' => ∃ r v', e = .returned v' ∧ R r ∧ Below w.heap.size w w' ∧ Rep (newC C w.heap.size w'.heap.size) w' r Mu.none v'
 have rfin : ∀ tmps E H C1 mu1 a w', retK T fn.results.toList R E H → a.tmps = tmps → StC G C1 mu1 E H a w' → ∃ v, (results fn tmps).run G.P w' = .ok v w' ∧ RR (.returned v) w' := by
  intro tmps E H C1 mu1 a w' hk ha hs
  obtain ⟨r, v, h1, h2, h3⟩ := ret_ok (G := G) hT hs (fun _ h => h) hk
  rw [ha] at h2
  exact ⟨v, h2, r, v, rfl, h1, ⟨hs.keep.os, hs.keep.tape, hs.keep.output, hs.keep.size, fun k hk => hs.keep.block k hk (fun h => h)⟩, h3⟩
 have fin : ∀ E H a w', retK T fn.results.toList R E H → St G E H a w' → LeavesInM (fw none) 0 P fn a.tmps RR a.defers .returning w' := by
  rintro E H a w' hk ⟨C', mu', hst⟩
  obtain ⟨ms, d1, d2⟩ := hst.defers
  rw [show a.defers = ms.map mark by simpa [G] using d1]
  exact leaves_ok (G := G) rfl ms rfl hst d2 fun a' w'' ha hs' => rfin _ _ _ _ _ _ _ hk ha hs'
 have fin2 : ∀ {ms f vs g rv u} {C1 : CellSet} {mu1 : Mu} {E H a w'}, u ≠ .run → goodF P f = true → gh g vs H → endD P T fn.results.toList R f g rv E H → StC (G.dfd ms f vs) C1 mu1 E H a w' → RecOK C1 w' mu1 u rv → LeavesInM (fw none) 0 P fn a.tmps RR a.defers u w' := by
  intro ms f vs g rv u C1 mu1 E H a w' hu hgf hgh hk hst hrv
  refine leave_defer (G := G) rfl rfl hu hgf hst hrv hgh (K := retK T fn.results.toList R) (fun cap vs' hcap => ?_) rfl (fun E H C mu a w hk ha hs => rfin _ _ _ _ _ _ _ hk ha hs)
  unfold endD at hk
  replace hk := (lkK_iff _ _ _).1 hk; obtain ⟨ob, hob, hk⟩ := hk
  rw [hcap] at hob
  simp only [Option.some.injEq] at hob
  subst hob
  exact hk
 refine wpIn_mono (h.out 0 G _ w rfl rfl hst) fun e a w' q => ?_
 rcases q with q | ⟨ms, f', vs', g, hgf, q⟩
 ·cases e with
  | normal => obtain ⟨E, H, h1, h2⟩ := q; exact fin E H a w' h1 h2
  | ret => obtain ⟨E, H, h1, h2⟩ := q; exact fin E H a w' h1 h2
  | exit id => obtain ⟨E, H, h1, h2⟩ := q; exact h1.elim
  | panic ch => obtain ⟨x, v, E, H, C, mu, _, h1, _⟩ := q; exact h1.elim
  | goto l => exact q.elim
  | outgrown => exact q.elim
 ·cases e with
  | normal => obtain ⟨E, H, ⟨h0, h1⟩, C1, mu1, h2⟩ := q; exact fin2 (by simp) hgf h0 h1 h2 rfl
  | ret => obtain ⟨E, H, ⟨h0, h1⟩, C1, mu1, h2⟩ := q; exact fin2 (by simp) hgf h0 h1 h2 rfl
  | exit id => obtain ⟨E, H, h1, h2⟩ := q; exact h1.2.elim
  | panic ch => obtain ⟨x, v, E, H, C1, mu1, rfl, ⟨h0, h1⟩, h2, h3⟩ := q; exact fin2 (rv := some x) (by simp) hgf h0 h1 h2 ⟨v, rfl, h3⟩
  | goto l => exact q.elim
  | outgrown => exact q.elim
end
end Go.Av
set_option linter.unusedSectionVars false
namespace Go.Av
section
variable {E : List AV} {H : List HO} {T : List TY} {P : Program} {K : KK} {X : XX}
theorem ACode.s_reg (hT : TOk P T) {id : Nat} {ops : Array Oper} (h : regK P T ops.toList ops.toList E H K X) : ACode P (.region id ops false) E H K X :=
 cd_sound hT (.region id ops false) (by unfold cdK; exact h)
theorem ACode.s_cond {c : Operand} {x y : Code} (h : evK E c fun v => match v with
  | .lit t => (match t with | true => ACode P x E H K X | false => ACode P y E H K X)
  | .bool t => (t = true → ACode P x E H K X) ∧ (t = false → ACode P y E H K X)
  | _ => False) : ACode P (.cond c x y) E H K X := ⟨fun n G a w hP hst => by
  rw [evK_iff] at h
  have hst0 := hst
  obtain ⟨C, mu, hst'⟩ := hst0
  have hr := rep_ev hst'.env c
  split at h
  ·rename_i t hb
   rw [hb] at hr
   have hv := rep_lit_inv hr
   cases t with
   | true => exact wpIn_cond_true hv (h.out n G a w hP hst)
   | false => exact wpIn_cond_false hv (h.out n G a w hP hst)
  ·rename_i t hb
   rw [hb] at hr
   have hv := rep_bool_inv hr
   exact wpIn_cond_split hv (fun ht => (h.1 ht).out n G a w hP hst) (fun ht => (h.2 ht).out n G a w hP hst)
  ·exact h.elim⟩
theorem ACode.s_block {id : Nat} {b : Code} (h : ACode P b E H K fun e E H => match e with
  | .exit i => (match Nat.beq i id with | true => K E H | false => X (.exit i) E H)
  | .ret => X .ret E H
  | .panic x => X (.panic x) E H) : ACode P (.block id b) E H K X := ⟨fun n G a w hP hst => by
  refine wpIn_block (wpIn_mono (h.out n G a w hP hst) fun e a w q => ?_)
  cases e with
  | normal => exact q
  | exit i =>
   obtain ⟨E', H', h1, h2⟩ := q
   simp only [Exit.inBlock]
   simp only at h1
   split at h1
   ·rename_i hb
    rw [if_pos (Nat.eq_of_beq_eq_true hb)]
    exact ⟨E', H', h1, h2⟩
   ·rename_i hb
    rw [if_neg (Nat.ne_of_beq_eq_false hb)]
    exact ⟨E', H', h1, h2⟩
  | ret => exact q
  | panic ch => exact q
  | goto l => exact q
  | outgrown => exact q⟩
theorem ACode.s_scope {b : Code} (h : ACode P b E H K X) : ACode P (.scope b) E H K X := ⟨fun n G a w hP hst => wpIn_scope (fun l a w q => q) (h.out n G a w hP hst)⟩
theorem ACode.s_skip (h : K E H) : ACode P .skip E H K X := ⟨fun n G a w hP hst => wpIn_skip ⟨E, H, h, hst⟩⟩
theorem ACode.s_label {l : Nat} (h : K E H) : ACode P (.label l) E H K X := ⟨fun n G a w hP hst => wpIn_label ⟨E, H, h, hst⟩⟩
theorem ACode.s_exit {id : Nat} (h : X (.exit id) E H) : ACode P (.exit id) E H K X := ⟨fun n G a w hP hst => wpIn_exit ⟨E, H, h, hst⟩⟩
theorem ACode.s_ret (h : X .ret E H) : ACode P .ret E H K X := ⟨fun n G a w hP hst => wpIn_ret ⟨E, H, h, hst⟩⟩
end
end Go.Av
set_option linter.unusedSectionVars false
namespace Go.Av
open Go.RowKit (Below)
section
variable {G : Cx} {C C' : CellSet} {w w' : World} {mu mu' : Mu} {H H0 : List HO} {E : List AV} {a : Act} {T : List TY} {P : Program}
def blend : List Bool → List AV → List Value → List AV
 | true :: m, _ :: cs, v :: vs => .raw v :: blend m cs vs
 | false :: m, c :: cs, _ :: vs => c :: blend m cs vs
 | _, _, _ => []
def back : List Bool → List AV → List AV → List AV
 | true :: m, _ :: cs1, c :: cs => c :: back m cs1 cs
 | false :: m, c1 :: cs1, _ :: cs => c1 :: back m cs1 cs
 | _, _, _ => []
def oneK : Nat → List AV → List HO
 | 0, cs => [.cells cs]
 | l + 1, cs => .dead :: oneK l cs
theorem blend_rep : ∀ {m : List Bool} {cs : List AV} {vs : List Value}, m.length = cs.length → Reps C w cs mu vs → Reps C w (blend m cs vs) mu vs
 | [], [], _, _, h => by unfold Reps at h; subst h; unfold blend Reps; rfl
 | [], _ :: _, _, hm, _ => by cases hm
 | _ :: _, [], _, hm, _ => by cases hm
 | b :: m, c :: cs, _, hm, h => by
  unfold Reps at h
  obtain ⟨v, vs', rfl, h1, h2⟩ := h
  cases b with
  | true => unfold blend Reps; exact ⟨v, vs', rfl, by unfold Rep; rfl, blend_rep (by simpa using hm) h2⟩
  | false => unfold blend Reps; exact ⟨v, vs', rfl, h1, blend_rep (by simpa using hm) h2⟩
theorem back_rep (hx : Ext C C' w w') (hle : MuLe mu mu') : ∀ {m : List Bool} {cs1 cs : List AV} {vs us : List Value}, m.length = cs.length → cs1.length = cs.length → Reps C w cs mu vs → Reps C' w' (blend m cs1 vs) mu' us → Reps C' w' (back m cs1 cs) mu' us
 | [], [], [], _, us, _, _, h, h' => by unfold Reps at h; subst h; unfold blend Reps at h'; subst h'; unfold back Reps; rfl
 | b :: m, c1 :: cs1, c :: cs, _, us, hm, hl, h, h' => by
  unfold Reps at h
  obtain ⟨v, vs', rfl, h1, h2⟩ := h
  cases b with
  | true =>
   unfold blend Reps at h'
   obtain ⟨u, us', rfl, k1, k2⟩ := h'
   unfold Rep at k1
   subst k1
   unfold back Reps
   exact ⟨_, us', rfl, Rep.mono hx _ hle h1, back_rep hx hle (by simpa using hm) (by simpa using hl) h2 k2⟩
  | false =>
   unfold blend Reps at h'
   obtain ⟨u, us', rfl, k1, k2⟩ := h'
   unfold back Reps
   exact ⟨u, us', rfl, k1, back_rep hx hle (by simpa using hm) (by simpa using hl) h2 k2⟩
 | [], _, _ :: _, _, _, hm, _, _, _ => by cases hm
 | _ :: _, _, [], _, _, hm, _, _, _ => by cases hm
 | [], _ :: _, [], _, _, _, hl, _, _ => by cases hl
 | _ :: _, [], _ :: _, _, _, _, hl, _, _ => by cases hl
theorem oneK_real : ∀ (l : Nat) (cs : List AV) (i : Nat), realAt (oneK l cs) i = true → i = l
 | 0, cs, 0, _ => rfl
 | 0, cs, i + 1, h => by
  obtain ⟨ob, h1, _⟩ := realAt_iff.1 h
  simp [oneK] at h1
 | l + 1, cs, 0, h => by
  obtain ⟨ob, h1, h2⟩ := realAt_iff.1 h
  simp [oneK] at h1
  subst h1; cases h2
 | l + 1, cs, i + 1, h => by
  obtain ⟨ob, h1, h2⟩ := realAt_iff.1 h
  rw [oneK_real l cs i (realAt_iff.2 ⟨ob, by simpa [oneK] using h1, h2⟩)]
theorem oneK_get : ∀ (l : Nat) (cs : List AV), (oneK l cs)[l]? = some (.cells cs)
 | 0, _ => rfl
 | l + 1, cs => by simpa [oneK] using oneK_get l cs
theorem oneK_arr : ∀ (l : Nat) (cs : List AV) (i : Nat), arrAt (oneK l cs) i = false
 | 0, cs, 0 => rfl
 | 0, cs, i + 1 => rfl
 | l + 1, cs, 0 => rfl
 | l + 1, cs, i + 1 => oneK_arr l cs i
mutual
theorem scr_id (h : ∀ i, arrAt H0 i = false) : ∀ x : AV, scr H0 x = x
 | .own k sz lo n => by unfold scr; rw [h k]
 | .el k sz i o => by unfold scr; rw [h k]
 | .fn f cap => by unfold scr; rw [scrs_id h cap]
 | .mv f cap => by unfold scr; rw [scrs_id h cap]
 | .iface t x => by unfold scr; rw [scr_id h x]
 | .agg cs => by unfold scr; rw [scrs_id h cs]
 | .tuple vs => by unfold scr; rw [scrs_id h vs]
 | .any => by unfold scr; rfl
 | .int _ _ => by unfold scr; rfl
 | .bool _ => by unfold scr; rfl
 | .lit _ => by unfold scr; rfl
 | .str _ => by unfold scr; rfl
 | .sl _ _ => by unfold scr; rfl
 | .at_ _ => by unfold scr; rfl
 | .raw _ => by unfold scr; rfl
 | .ptr _ _ => by unfold scr; rfl
 | .mp _ _ => by unfold scr; rfl
 | .om _ => by unfold scr; rfl
theorem scrs_id (h : ∀ i, arrAt H0 i = false) : ∀ xs : List AV, scrs H0 xs = xs
 | [] => by unfold scrs; rfl
 | x :: xs => by unfold scrs; rw [scr_id h x, scrs_id h xs]
end
theorem scrH_id (h : ∀ i, arrAt H0 i = false) (o : HO) : scrH H0 o = o := by
 cases o <;> simp [scrH, scrs_id h]
theorem StC.recell (hst : StC G C mu E H a w) {l : Nat} {cs cs' : List AV} (hl : H[l]? = some (.cells cs)) (h : ∀ b cur e, mu l = some (.blk b) → w.heap[b]? = some (.cells cur e (0, 0)) → Reps C w cs mu cur.toList → Reps C w cs' mu cur.toList) : StC G C mu E (H.set l (.cells cs')) a w := by
 have hlt : l < H.length := (List.getElem?_eq_some_iff.1 hl).1
 have hg : ∀ {k : Nat} {ob : HO}, (H.set l (.cells cs'))[k]? = some ob → k ≠ l → H[k]? = some ob := fun {k ob} hk hkl => by
  rwa [List.getElem?_set_ne (fun e => hkl e.symm)] at hk
 have hs : ∀ {ob : HO}, (H.set l (.cells cs'))[l]? = some ob → ob = .cells cs' := fun {ob} hk => by
  rw [List.getElem?_set_self hlt] at hk; simpa using hk.symm
 refine ⟨hst.c0, hst.c1, hst.lt, ⟨fun i g hi => by simpa using hst.heap.dom i g hi, hst.heap.fresh, hst.heap.sep, fun k hk => ?_, fun k cs2 hk => ?_, fun k e sz es hk => ?_, fun k ks vs hk => ?_⟩, hst.env, ?_, hst.keep, by simpa using hst.pin.1, hst.pin.2⟩
 ·by_cases hkl : k = l
  ·subst hkl; cases hs hk
  ·exact hst.heap.dead k (hg hk hkl)
 ·by_cases hkl : k = l
  ·subst hkl
   have := hs hk
   simp only [HO.cells.injEq] at this
   subst this
   obtain ⟨b, cur, e, k1, k2, k3, k4⟩ := hst.heap.recs k cs hl
   exact ⟨b, cur, e, k1, k2, h b cur e k1 k2 k3, k4⟩
  ·exact hst.heap.recs k cs2 (hg hk hkl)
 ·by_cases hkl : k = l
  ·subst hkl; cases hs hk
  ·exact hst.heap.arrs k e sz es (hg hk hkl)
 ·by_cases hkl : k = l
  ·subst hkl; cases hs hk
  ·exact hst.heap.maps k ks vs (hg hk hkl)
 ·obtain ⟨ms, d1, d2⟩ := hst.defers
  have hg2 : ∀ {k : Nat} {ob : HO}, (H.set l (.cells cs'))[k]? = some ob → ob.real = false → H[k]? = some ob := fun {k ob} hk hre => by
   by_cases hkl : k = l
   ·subst hkl; rw [hs hk] at hre; cases hre
   ·exact hg hk hkl
  exact ⟨ms, d1, ⟨fun k cs' vs gm hk => d2.ghosts k cs' vs gm (hg2 hk rfl), fun k I hk => by
   obtain ⟨h0, Sw, Sr, q1, q2, q3, q4⟩ := d2.invs k I (hg2 hk rfl)
   exact ⟨h0, Sw, Sr, q1, q2, q3, fun k' cs' vs gm hk' => q4 k' cs' vs gm (hg2 hk' rfl)⟩, d2.marks, d2.nd, fun k k' cs' vs gm cs2 vs2 gm2 hk hk' => d2.sep k k' cs' vs gm cs2 vs2 gm2 (hg2 hk rfl) (hg2 hk' rfl)⟩⟩
theorem oneK_hand {l : Nat} {cs : List AV} {F : List HO} (hw : withins F cs = true) : ∀ {H : List HO} (l : Nat), H[l]? = some (.cells cs) → handK F (oneK l cs) H True
 | [], l, h => by simp at h
 | o :: r, 0, h => by
  simp at h; subst h
  unfold oneK handK
  exact ⟨rfl, hw, by unfold handK; trivial⟩
 | o :: r, l + 1, h => by
  unfold oneK handK
  exact oneK_hand (l := l) hw l (by simpa using h)
theorem ACall.of_hr {f : FuncId} {args : List AV} {l : Nat} (m : List Bool) {cs : List AV} {R X' : List Value → AV → List HO → Prop} {K : AV → KK} {X : XX} (hl : H[l]? = some (.cells cs)) (hm : m.length = cs.length)
  (h : ∀ vs : List Value, vs.length = cs.length → HCtr P f args (oneK l (blend m cs vs)) (R vs) (X' vs))
  (hw : ∀ c, withins (oneK l c) args = true) (hwc : ∀ vs : List Value, vs.length = cs.length → withins (oneK l (blend m cs vs)) (blend m cs vs) = true)
  (hk : ∀ (vs : List Value) r H1, vs.length = cs.length → R vs r H1 → ∃ cs1, H1 = oneK l (blend m cs1 vs) ∧ cs1.length = cs.length ∧ updK H l (.cells (back m cs1 cs)) fun H' => K r E H')
  (hx : ∀ (vs : List Value) r H1, vs.length = cs.length → X' vs r H1 → ∃ cs1, H1 = oneK l (blend m cs1 vs) ∧ cs1.length = cs.length ∧ updK H l (.cells (back m cs1 cs)) fun H' => X (.panic r) E H') : ACall P f args E H K X := by
 refine ⟨(h (cs.map fun _ => undef) (by simp)).good, fun G C mu a w vs0 hP hst hr => ?_⟩
 obtain ⟨b, cur, e0, hb, hcell, hcs, hone⟩ := hst.heap.recs l cs hl
 have hlen : cur.toList.length = cs.length := reps_len _ hcs
 have hlt : l < H.length := (List.getElem?_eq_some_iff.1 hl).1
 have hst2 : StC G C mu E (H.set l (.cells (blend m cs cur.toList))) a w := hst.recell hl fun b' cur' e' k1 k2 k3 => by
  rw [hb] at k1
  simp only [Option.some.injEq, GO.blk.injEq] at k1
  subst k1
  rw [hcell] at k2
  simp only [Option.some.injEq, Obj.cells.injEq] at k2
  obtain ⟨rfl, _⟩ := k2
  exact blend_rep hm hcs
 have hgl : (H.set l (.cells (blend m cs cur.toList)))[l]? = some (.cells (blend m cs cur.toList)) := by rw [List.getElem?_set_self hlt]
 have hh : handK (oneK l (blend m cs cur.toList)) (oneK l (blend m cs cur.toList)) (H.set l (.cells (blend m cs cur.toList))) True := oneK_hand (l := l) (hwc _ hlen) l hgl
 have hct := h cur.toList hlen
 refine (hct.out C (mu.only (oneK l (blend m cs cur.toList))) w vs0 hst.cok (only_rel hst2 hh) (withins_rep args (hw _) hr)).mono fun e w' hp => ?_
 obtain ⟨r, v, H1, C', mu', hout, hpost, hrel, hrep, hlen1, hreal, hdead⟩ := hp
 have hext : Ext C C' w w' := Ext.of_block (hpost.sub) fun b o hc => hpost.same.block b ⟨hst.lt b o hc, fun l g hl hg => (hst.heap.fresh l g b (only_some hl).2 hg).2.2 o hc⟩
 have hr0 : realAt (oneK l (blend m cs cur.toList)) l = true := realAt_iff.2 ⟨_, oneK_get _ _, rfl⟩
 have hmule : MuLe mu (mu.mix mu' (oneK l (blend m cs cur.toList))) := fun i g hi => by
  cases hri : realAt (oneK l (blend m cs cur.toList)) i with
  | false => rw [mix_ne hri]; exact hi
  | true =>
   rw [mix_eq hri]
   have := oneK_real _ _ _ hri
   subst this
   rw [hb] at hi
   simp only [Option.some.injEq] at hi
   subst hi
   exact hpost.pin i b (by rw [only_eq hri]; exact hb)
 have key : ∀ cs1, H1 = oneK l (blend m cs1 cur.toList) → cs1.length = cs.length →
   StC G C' (mu.mix mu' (oneK l (blend m cs cur.toList))) E (H.set l (.cells (back m cs1 cs))) a w' ∧ MuLe mu' (mu.mix mu' (oneK l (blend m cs cur.toList))) := fun cs1 hH1 hl1 => by
  subst hH1
  obtain ⟨m1, m2⟩ := merged (H' := H.set l (.cells (blend m cs1 cur.toList))) hst2 hh hpost hrel hlen1 hreal hdead (by simp)
   (fun i hi => by
    have := oneK_real _ _ _ hi
    subst this
    rw [List.getElem?_set_self hlt, oneK_get])
   (fun i hi => by
    have hne : ¬ l = i := fun e => by subst e; rw [hr0] at hi; cases hi
    rw [List.getElem?_set_ne hne, List.getElem?_set_ne hne]
    cases H[i]? with
    | none => rfl
    | some o => simp [scrH_id (oneK_arr l _)])
  refine ⟨?_, m2⟩
  rw [scrs_id (oneK_arr l _)] at m1
  have h3 := m1.recell (l := l) (cs := blend m cs1 cur.toList) (cs' := back m cs1 cs) (List.getElem?_set_self hlt) fun b' cur' e' k1 k2 k3 => back_rep hext hmule hm hl1 hcs k3
  rwa [List.set_set] at h3
 rcases hout with ⟨rfl, hR⟩ | ⟨rfl, hR⟩
 ·obtain ⟨cs1, h1, h2, h3⟩ := hk _ r H1 hlen hR
  rw [updK_iff] at h3
  obtain ⟨m1, m2⟩ := key cs1 h1 h2
  exact .inl ⟨r, v, _, _, C', _, rfl, h3, m1, Rep.mono (Ext.refl _ _) _ m2 hrep⟩
 ·obtain ⟨cs1, h1, h2, h3⟩ := hx _ r H1 hlen hR
  rw [updK_iff] at h3
  obtain ⟨m1, m2⟩ := key cs1 h1 h2
  exact .inr ⟨r, v, _, _, C', _, rfl, h3, m1, Rep.mono (Ext.refl _ _) _ m2 hrep⟩
end
end Go.Av
set_option linter.unusedSectionVars false
namespace Go.Av
inductive OT where
 | done
 | none
 | one (j : Nat) (t r : OT)
def OT.isNone : OT → Bool
 | .none => true
 | _ => false
section
variable {G : Cx} {C : CellSet} {w w' : World} {mu : Mu} {H : List HO} {E : List AV} {a : Act} {T : List TY} {P : Program} {ops : Array Oper} {K : KK} {X : XX}
def okT (ops : Array Oper) : OT → Nat → Array Bool → List Nat → Bool
 | .done, _, listed, rs => rs.isEmpty && (Region.ready .any ops listed).isEmpty
 | .none, _, _, rs => rs.isEmpty
 | .one j t r, f + 1, listed, i :: rs => Nat.beq i j && !t.isNone && okT ops t f (listed.setIfInBounds j true) (Region.ready .any ops (listed.setIfInBounds j true)) && okT ops r (f + 1) listed rs
 | .one _ _ _, _, _, _ => false
def drawT (ops : Array Oper) (t : OT) : Bool := !t.isNone && okT ops t ops.size (Array.replicate ops.size false) (Region.ready .any ops (Array.replicate ops.size false))
def enT (P : Program) (T : List TY) (ops : List Oper) (K : KK) (X : XX) : OT → List AV → List HO → Prop
 | .done, E, H => K E H
 | .none, _, _ => True
 | .one j t r, E, H => (∃ o Kw, ops[j]? = some o ∧ wstK P T ops o E H Kw X ∧ ∀ E' H', Kw E' H' → enT P T ops K X t E' H') ∧ enT P T ops K X r E H
structure EnF (P : Program) (T : List TY) (ops : List Oper) (K : KK) (X : XX) (t : OT) (E : List AV) (H : List HO) : Prop where
 out : enT P T ops K X t E H
def en1 (P : Program) (T : List TY) (ops : List Oper) (K : KK) (X : XX) (t : OT) (E : List AV) (H : List HO) : Prop :=
 match t with
 | .done => K E H
 | .none => True
 | .one j t r => (lkK ops j fun o => wstK P T ops o E H (fun E' H' => EnF P T ops K X t E' H') X) ∧ EnF P T ops K X r E H
theorem EnF.step {lops : List Oper} {t : OT} (h : en1 P T lops K X t E H) : EnF P T lops K X t E H := by
 cases t with
 | done => exact ⟨h⟩
 | none => exact ⟨h⟩
 | one j t r =>
  obtain ⟨h1, h2⟩ := h
  replace h1 := (lkK_iff _ _ _).1 h1; obtain ⟨o, ho, h1⟩ := h1
  exact ⟨⟨o, _, ho, h1, fun _ _ h => h.out⟩, h2.out⟩
def allW : Nat → List Nat
 | 0 => []
 | n + 1 => n :: allW n
theorem allW_mem : ∀ {n i : Nat}, i < n → memB (allW n) i = true
 | n + 1, i, h => by
  unfold allW memB
  split
  ·rfl
  ·rename_i hb
   have := Nat.ne_of_beq_eq_false hb
   exact allW_mem (by omega)
theorem en_any {n0 : Nat} : ∀ (t : OT) (f : Nat) (listed : Array Bool) (rs : List Nat) (E : List AV) (H : List HO), okT ops t f listed rs = true → enT P T ops.toList K X t E H →
  (∀ i ∈ rs, ∃ f', f = f' + 1 ∧ dOp P T ops n0 (allW ops.size) K X i (anyD P T ops n0 (allW ops.size) K X f' (listed.setIfInBounds i true)) E H) ∧ (t.isNone = false → rs = Region.ready .any ops listed → anyD P T ops n0 (allW ops.size) K X f listed E H)
 | .done, f, listed, rs, E, H, hB, h => by
  unfold okT at hB
  simp only [Bool.and_eq_true, List.isEmpty_iff] at hB
  obtain ⟨rfl, hr⟩ := hB
  refine ⟨fun i hi => by simp at hi, fun _ _ => ?_⟩
  cases f with
  | zero => unfold anyD; exact fun _ => ⟨hr, h⟩
  | succ f => unfold anyD; exact fun _ => ⟨fun _ => h, fun i hi => by rw [hr] at hi; simp at hi⟩
 | .none, f, listed, rs, E, H, hB, h => by
  unfold okT at hB
  simp only [List.isEmpty_iff] at hB
  subst hB
  exact ⟨fun i hi => by simp at hi, fun hn => by cases hn⟩
 | .one j t r, f, listed, rs, E, H, hB, h => by
  cases f with
  | zero => unfold okT at hB; cases hB
  | succ f =>
   cases rs with
   | nil => unfold okT at hB; cases hB
   | cons i rs =>
    unfold okT at hB
    simp only [Bool.and_eq_true, Bool.not_eq_true'] at hB
    obtain ⟨⟨⟨h1, h2⟩, h3⟩, h4⟩ := hB
    obtain rfl := Nat.eq_of_beq_eq_true h1
    unfold enT at h
    obtain ⟨k1, k2⟩ := h
    obtain ⟨o, Kw, ho, k1, k3⟩ := k1
    have ho' : ops[i]? = some o := by simpa using ho
    have hlt : i < ops.size := (Array.getElem?_eq_some_iff.1 ho').1
    have hd : dOp P T ops n0 (allW ops.size) K X i (anyD P T ops n0 (allW ops.size) K X f (listed.setIfInBounds i true)) E H := by
     unfold dOp
     rw [ho']; simp only
     rw [allW_mem hlt]; simp only
     exact ⟨_, k1, fun E1 H1 hk => (en_any (n0 := n0) t f _ _ E1 H1 h3 (k3 _ _ hk)).2 h2 rfl⟩
    have hr := (en_any (n0 := n0) r (f + 1) listed rs E H h4 k2).1
    have hall : ∀ i' ∈ i :: rs, ∃ f', f + 1 = f' + 1 ∧ dOp P T ops n0 (allW ops.size) K X i' (anyD P T ops n0 (allW ops.size) K X f' (listed.setIfInBounds i' true)) E H := by
     intro i' hi'
     rcases List.mem_cons.1 hi' with rfl | hi'
     ·exact ⟨f, rfl, hd⟩
     ·exact hr i' hi'
    refine ⟨hall, fun _ hrs => ?_⟩
    unfold anyD
    refine fun _ => ⟨fun h0 => (by rw [← hrs] at h0; cases h0), fun i' hi' => ?_⟩
    rw [← hrs] at hi'
    obtain ⟨f', e, hh⟩ := hall i' hi'
    cases e
    exact hh
theorem ACode.drawAll {id : Nat} (t : OT) (hT : TOk P T) (hm : P.follows .mixedOrders = true) (hB : drawT ops t = true) (h : EnF P T ops.toList K X t E H) : ACode P (.region id ops true) E H K X := by
 refine ⟨fun n G a w hP hst => ?_⟩
 subst hP
 obtain ⟨C, mu, hst⟩ := hst
 have hst' : StC G C mu E H a w.drew := hst.drew
 unfold drawT at hB
 simp only [Bool.and_eq_true, Bool.not_eq_true'] at hB
 have h1 := (en_any (n0 := H.length) t _ _ _ E H hB.2 h.out).2 hB.1 rfl
 refine wpIn_region_any hm ?_
 have h2 := anyD_sound (r := G.rd) (n := n) hT _ _ _ _ a _ h1 ⟨C, mu, hst'⟩
 simpa using h2
theorem KCode.drawAll {id : Nat} (t : OT) (hT : TOk P T) (hm : P.follows .mixedOrders = true) (hq : (ops.toList.all fun o => quietOp o.op) = true) (hB : drawT ops t = true) (h : EnF P T ops.toList K X t E H) : KCode P (.region id ops true) E H K X := by
 refine ⟨fun n G a w d hP hrd hst hd => ?_⟩
 subst hP
 obtain ⟨C, mu, hst⟩ := hst
 have hst' : StC G C mu E H a w.drew := hst.drew
 unfold drawT at hB
 simp only [Bool.and_eq_true, Bool.not_eq_true'] at hB
 have h1 := (en_any (n0 := H.length) t _ _ _ E H hB.2 h.out).2 hB.1 rfl
 refine wpIn_region_any hm ?_
 have h2 := anyD_sound (r := none) (n := n) hT _ _ _ _ a _ h1 ⟨C, mu, hst'⟩
 exact wpAny_keep hq _ _ hd (by simpa using h2)
end
end Go.Av
set_option linter.unusedSectionVars false
namespace Go.Av
section
variable {H : List HO} {E : List AV} {T : List TY} {P : Program}
theorem ACode.cutK {x y : Code} {ι : Type} (tm : ι → List AV) (hp : ι → List HO) (pre : ι → Prop) {K : KK} {X : XX} (ok : ∀ i, pre i → withins (hp i) (tm i) = true ∧ objsOK (hp i) (hp i) True) (len : ∀ i, H.length ≤ (hp i).length)
  (h1 : ACode P x E H (fun E' H' => ∃ j, leK E' (tm j) (hpreK H' (hp j) (pre j))) X) (h2 : ∀ j, pre j → ACode P y (tm j) (hp j) K X) : ACode P x E H (fun E H => ACode P y E H K X) X := by
 refine ⟨fun n G a w hP hst => ?_⟩
 have hnp : G.np ≤ H.length := by obtain ⟨C, mu, h⟩ := hst; exact h.pin.1
 refine wpIn_mono (h1.out n G a w hP hst) fun e a' w' hq => ?_
 cases e with
 | normal =>
  obtain ⟨E', H', ⟨j, hj⟩, hst'⟩ := hq
  obtain ⟨hle', hj⟩ := leK_iff _ _ _ hj
  obtain ⟨hpj, R, rfl⟩ := hpreK_iff hj
  obtain ⟨C, mu, hst'⟩ := hst'.le hle'
  exact ⟨tm j, hp j, h2 j hpj, C, _, hst'.drop (ok j hpj).1 (ok j hpj).2 (Nat.le_trans hnp (len j))⟩
 | exit id => exact hq
 | ret => exact hq
 | panic c => exact hq
 | goto l => exact hq
 | outgrown => exact hq
end
end Go.Av
set_option linter.unusedSectionVars false
set_option linter.unusedSectionVars false
set_option linter.unusedSectionVars false
namespace Go.Av
open Go.RowKit (Below)
section
variable {G : Cx} {C C' : CellSet} {w w' : World} {mu : Mu} {H : List HO} {E : List AV} {a : Act} {T : List TY} {P : Program}
theorem StC.owner (hst : StC G C mu E H a w) {I : Inv} (hob : H[0]? = some (.inv I)) : ∃ Sw Sr, Foot C w G.fresh mu I.Cb I.nb Sw Sr ∧ I.J Sw Sr w ∧
  ∀ (In : Inv) (w' : World) (Sw' Sr' : Nat → Prop), In.Cb = I.Cb → In.nb = I.nb → Same (fun b => b < w.heap.size ∧ ¬ Sw b) w w' → (∀ b, Sw' b → Sw b ∨ w.heap.size ≤ b) → (∀ b, Sr' b → Sr b ∨ w.heap.size ≤ b) → (∀ b, Sw' b → Sr' b) → (∀ b, Sr' b → b < w'.heap.size) →
   In.J Sw' Sr' w' → StC G C mu E (H.set 0 (.inv In)) a w' := by
 obtain ⟨ms, d1, d2⟩ := hst.defers
 obtain ⟨_, Sw, Sr, hf, hJ, hD1, hD2⟩ := d2.invs 0 I hob
 have h0 : 0 < H.length := (List.getElem?_eq_some_iff.1 hob).1
 refine ⟨Sw, Sr, hf, hJ, fun In w' Sw' Sr' eq1 eq2 q1 q2 q3 q4 q5 hIn => ?_⟩
 have hx : Ext C C w w' := Ext.of_block (fun _ _ h => h) fun b o hc => q1.block b ⟨hst.lt b o hc, fun hs => hf.imm b o hs hc⟩
 have hown : ∀ {i g b}, mu i = some g → g.block? = some b → w'.heap[b]? = w.heap[b]? := fun {i g b} hi hg => q1.block b ⟨(hst.heap.fresh i g b hi hg).2.1, fun hs => hf.own b (hf.sub b hs) i g hi hg⟩
 have get : ∀ {i ob'}, (H.set 0 (.inv In))[i]? = some ob' → (i = 0 ∧ ob' = .inv In) ∨ (H[i]? = some ob') := fun {i ob'} hi => by
  by_cases e : 0 = i
  ·subst e; rw [List.getElem?_set_self h0] at hi; simp only [Option.some.injEq] at hi; exact .inl ⟨rfl, hi.symm⟩
  ·rw [List.getElem?_set_ne e] at hi; exact .inr hi
 have hmark : ∀ D : Nat × Obj, ¬ Sr D.1 → MarkOK C w G.fresh mu D → MarkOK C w' G.fresh mu D := fun D hd m => by
  refine ⟨?_, m.imm, m.own, m.fr⟩
  rw [q1.block D.1 ⟨(Array.getElem?_eq_some_iff.1 m.at_).1, fun hs => hd (hf.sub D.1 hs)⟩]; exact m.at_
 have hsr : ∀ D : Nat × Obj, ¬ Sr D.1 → MarkOK C w G.fresh mu D → ¬ Sr' D.1 := fun D hd m hs => by
  rcases q3 D.1 hs with k | k
  ·exact hd k
  ·have := (Array.getElem?_eq_some_iff.1 m.at_).1; omega
 have gg : ∀ {i : Nat} {cs : List AV} {us : List Value} {ms' : List Nat}, (H.set 0 (.inv In))[i]? = some (.ghost cs us ms') → H[i]? = some (.ghost cs us ms') := fun {i cs us ms'} hi => by
  rcases get hi with ⟨_, h⟩ | h
  ·cases h
  ·exact h
 have hrest : (∀ D ∈ ms.map (fun D => (D, dfr)) ++ G.rds, ¬ Sr' D.1) ∧ ∀ (l : Nat) (cs : List AV) (vs : List Value) (ms' : List Nat), (H.set 0 (.inv In))[l]? = some (.ghost cs vs ms') → ∀ D ∈ ms', ¬ Sr' D :=
  ⟨fun D hd => hsr D (hD1 D hd) (d2.marks D hd), fun l cs vs ms' hl D hd => hsr (D, dfr) (hD2 l cs vs ms' (gg hl) D hd) ((d2.ghosts l cs vs ms' (gg hl)).2.2 D hd).1⟩
 refine ⟨hst.c0, hst.c1, fun b o hc => Nat.lt_of_lt_of_le (hst.lt b o hc) q1.size, ⟨fun i g hi => by simpa using hst.heap.dom i g hi, fun i g b hi hg => ?_, hst.heap.sep, fun i hi => ?_, fun i cs hi => ?_, fun i e sz es hi => ?_, fun i ks vs hi => ?_⟩,
  Reps.mono hx _ (MuLe.refl _) hst.env, ⟨ms, d1, fun i cs us ms' hi => ?_, fun i I' hi => ?_, fun d hd => hmark d (hD1 d hd) (d2.marks d hd), d2.nd, fun l l' cs vs ms cs' vs' ms' hl hl' hne => d2.sep l l' cs vs ms cs' vs' ms' (gg hl) (gg hl') hne⟩, ?_, by simpa using hst.pin.1, hst.pin.2⟩
 ·obtain ⟨k1, k2, k3⟩ := hst.heap.fresh i g b hi hg
  exact ⟨k1, Nat.lt_of_lt_of_le k2 q1.size, k3⟩
 ·rcases get hi with ⟨_, h⟩ | h
  ·cases h
  ·exact hst.heap.dead i h
 ·rcases get hi with ⟨_, h⟩ | h
  ·cases h
  ·obtain ⟨b, cur, e, k1, k2, k3, k4⟩ := hst.heap.recs i cs h
   exact ⟨b, cur, e, k1, by rw [hown k1 rfl]; exact k2, Reps.mono hx _ (MuLe.refl _) k3, k4⟩
 ·rcases get hi with ⟨_, h⟩ | h
  ·cases h
  ·obtain ⟨k0, k⟩ := hst.heap.arrs i e sz es h
   refine ⟨k0, k.imp id fun ⟨b, cap, cur, k1, k2, k3, k4, k5, k6, k7⟩ => ⟨b, cap, cur, k1, k2.of_eq (by rw [hown k1 rfl]), k3, k4, k5, Reps.mono hx _ (MuLe.refl _) k6, k7⟩⟩
 ·rcases get hi with ⟨_, h⟩ | h
  ·cases h
  ·obtain ⟨b, es, cl, k1, k2, k3⟩ := hst.heap.maps i ks vs h
   exact ⟨b, es, cl, k1, by rw [hown k1 rfl]; exact k2, k3⟩
 ·rcases get hi with ⟨_, h⟩ | h
  ·cases h
  ·obtain ⟨k1, k3, k2⟩ := d2.ghosts i cs us ms' h
   exact ⟨Reps.mono hx _ (MuLe.refl _) k1, k3, fun d hd => ⟨hmark (d, dfr) (hD2 i cs us ms' h d hd) (k2 d hd).1, (k2 d hd).2⟩⟩
 ·have fin : ∀ I', I' = In → i = 0 → i = 0 ∧ ∃ Sw Sr, Foot C w' G.fresh mu I'.Cb I'.nb Sw Sr ∧ I'.J Sw Sr w' ∧ (∀ D ∈ ms.map (fun D => (D, dfr)) ++ G.rds, ¬ Sr D.1) ∧ ∀ (l : Nat) cs vs ms', (H.set 0 (.inv In))[l]? = some (.ghost cs vs ms') → ∀ D ∈ ms', ¬ Sr D := fun I' hI' h0' => by
   subst hI'
   refine ⟨h0', Sw', Sr', ⟨fun b hb => ?_, by rw [eq2]; exact Nat.le_trans hf.base q1.size, by rw [eq1, eq2]; exact hf.cb, by rw [eq2]; exact hf.ob, q4, q5, fun b hb i g hi hg => ?_, fun b o hb hc => ?_⟩, hIn, hrest⟩
   ·rcases q2 b hb with k | k
    ·exact hf.fr b k
    ·exact .inl (Nat.le_trans hst.keep.size k)
   ·obtain ⟨_, k2, k3⟩ := hst.heap.fresh i g b hi hg
    rcases q3 b hb with k | k
    ·exact hf.own b k i g hi hg
    ·omega
   ·rcases q2 b hb with k | k
    ·exact hf.imm b o k hc
    ·have := hst.lt b o hc; omega
  rcases get hi with ⟨e, h⟩ | h
  ·simp only [HO.inv.injEq] at h
   exact fin I' h e
  ·have hi0 := (d2.invs i I' h).1
   subst hi0
   rw [List.getElem?_set_self h0] at hi
   simp only [Option.some.injEq, HO.inv.injEq] at hi
   exact fin I' hi.symm rfl
 ·refine ⟨q1.os.trans hst.keep.os, q1.tape.trans hst.keep.tape, q1.output.trans hst.keep.output, Nat.le_trans hst.keep.size q1.size, fun k hk hm => ?_⟩
  rw [q1.block k ⟨Nat.lt_of_lt_of_le hk hst.keep.size, fun hs => ?_⟩]
  ·exact hst.keep.block k hk hm
  ·rcases hf.fr k hs with h | h
   ·omega
   ·exact hm h
end
end Go.Av
namespace Go.Av
open Go.RowKit (Below)
def WrAt (T e : TypeId) (b : Nat) (p v : Value) (bs : List UInt8) (w : World) : Prop :=
 (p = .pointer none ∨ p = .pointer (some ⟨b, 0, none⟩)) ∧ w.heap[b]? = some (.cells #[p, v] T (0, 0)) ∧ w.ownsRow 0 e 1 v bs.length (Lib.byteCells bs) ∧ v.ownBlock ≠ some b ∧ (bs = [] → v = .slice none 0 0)
def WrJ (T e : TypeId) (b : Nat) (bs : List UInt8) (Sw Sr : Nat → Prop) (w : World) : Prop :=
 (Sw b ∧ Sr b) ∧ ∃ p v, WrAt T e b p v bs w ∧ ∀ g, v.ownBlock = some g → Sw g ∧ Sr g
theorem WrAt.same {T e : TypeId} {b : Nat} {p v : Value} {bs : List UInt8} {w w' : World} (h : WrAt T e b p v bs w) (hb : w'.heap[b]? = w.heap[b]?) (hg : ∀ g, v.ownBlock = some g → w'.heap[g]? = w.heap[g]?) : WrAt T e b p v bs w' := by
 obtain ⟨h1, h2, ⟨h3, h4⟩, h5⟩ := h
 refine ⟨h1, by rw [hb]; exact h2, ⟨h3, h4.imp id fun ⟨g, cap, cur, q1, q2, q3, q4⟩ => ⟨g, cap, cur, q1, q2, ?_, q4⟩⟩, h5⟩
 rw [hg g (by rw [q1]; rfl)]
 exact q3
theorem WrAt.lt {T e : TypeId} {b : Nat} {p v : Value} {bs : List UInt8} {w : World} (h : WrAt T e b p v bs w) : b < w.heap.size ∧ ∀ g, v.ownBlock = some g → g < w.heap.size :=
 ⟨(Array.getElem?_eq_some_iff.1 h.2.1).1, fun g hg => (h.2.2.1.lt g hg).2⟩
def WrI (T e : TypeId) (b : Nat) (bs : List UInt8) : Inv where
 J := WrJ T e b bs
 stab := fun Sw Sr w w' ⟨h0, p, v, h1, h2⟩ hs => ⟨h0, p, v, h1.same (hs.block b h0.2) fun g hg => hs.block g (h2 g hg).2, h2⟩
 Cb := fun _ _ => True
 nb := 0
def noW : Inv where
 J := fun _ _ _ => True
 stab := fun _ _ _ _ _ _ => trivial
 Cb := fun _ _ => True
 nb := 0
def wrP (b : Nat) : Value := .pointer (some ⟨b, 0, none⟩)
structure WCtr (P : Program) (T e : TypeId) (f : FuncId) (args : List AV) (out : List UInt8) : Prop where
 good : goodF P f = true
 call : ∀ (b : Nat) (bs : List UInt8) (C : CellSet) (w : World) (us : List Value) (S : Nat → Prop), COK C w → (∀ b o, S b → ¬ C b o) → (∀ b, S b → b < w.heap.size) → WrJ T e b bs S S w →
  bs.length + out.length ≤ 140737488355328 → Reps C w args Mu.none us →
  Calls P f (wrP b :: us).toArray w fun en w' => ∃ v S', en = .returned v ∧ Same (fun b => b < w.heap.size ∧ ¬ S b) w w' ∧ (∀ b, S' b → S b ∨ w.heap.size ≤ b) ∧ (∀ b, S' b → b < w'.heap.size) ∧ WrJ T e b (bs ++ out) S' S' w'
structure WEnd (P : Program) (T e : TypeId) (f : FuncId) : Prop where
 good : goodF P f = true
 call : ∀ (b : Nat) (bs : List UInt8) (p v : Value) (w : World), WrAt T e b p v bs w → bs.length ≤ 140737488355328 →
  Calls P f #[wrP b] w fun en w' => en = .returned (.string ⟨bs.toArray⟩) ∧ Same (fun k => k < w.heap.size ∧ k ≠ b ∧ v.ownBlock ≠ some k) w w'
section
variable {G : Cx} {C C' : CellSet} {w w' : World} {mu : Mu} {H : List HO} {E : List AV} {a : Act} {Ts : List TY} {P : Program} {K : KK} {X : XX} {T e : TypeId} {b : Nat} {bs out : List UInt8}
theorem ACall.of_w {f : FuncId} {args : List AV} {K : AV → KK} (hob : H[0]? = some (.inv (WrI T e b bs))) (hctr : WCtr P T e f args out) (hc : closeds args = true) (hl : bs.length + out.length ≤ 140737488355328)
  (hk : K .any E (H.set 0 (.inv (WrI T e b (bs ++ out))))) : ACall P f (.raw (wrP b) :: args) E H K X := by
 refine ⟨hctr.good, fun G C mu a w vs hP hst hr => ?_⟩
 obtain ⟨Sw, Sr, hf, hJ, key⟩ := hst.owner hob
 obtain ⟨⟨j1, j2⟩, p, v, j3, j4⟩ : WrJ T e b bs Sw Sr w := hJ
 unfold Reps at hr
 obtain ⟨v0, us, rfl, h1, h2⟩ := hr
 unfold Rep at h1
 subst h1
 refine (hctr.call b bs C w us Sw hst.cok (fun b o => hf.imm b o) (fun b hb => hf.lt b (hf.sub b hb)) ⟨⟨j1, j1⟩, p, v, j3, fun g hg => ⟨(j4 g hg).1, (j4 g hg).1⟩⟩ hl (closeds_rep _ hc h2)).mono fun en w' ⟨v, S', q1, q2, q3, q4, q5⟩ => ?_
 exact .inl ⟨.any, v, E, _, C, mu, q1, hk, key (WrI T e b (bs ++ out)) w' S' S' rfl rfl q2 q3 (fun b hb => (q3 b hb).imp (hf.sub b) id) (fun _ h => h) q4 q5, rep_any _⟩
theorem ACall.of_wend {f : FuncId} {K : AV → KK} (hob : H[0]? = some (.inv (WrI T e b bs))) (hctr : WEnd P T e f) (hl : bs.length ≤ 140737488355328) (hk : K (.str bs) E (H.set 0 (.inv noW))) : ACall P f [.raw (wrP b)] E H K X := by
 refine ⟨hctr.good, fun G C mu a w vs hP hst hr => ?_⟩
 obtain ⟨Sw, Sr, hf, hJ, key⟩ := hst.owner hob
 obtain ⟨⟨j1, j2⟩, p, v, j3, j4⟩ : WrJ T e b bs Sw Sr w := hJ
 unfold Reps at hr
 obtain ⟨v0, us, rfl, h1, h2⟩ := hr
 unfold Reps at h2
 subst h2
 unfold Rep at h1
 subst h1
 refine (hctr.call b bs p v w j3 hl).mono fun en w' ⟨q1, q2⟩ => ?_
 refine .inl ⟨.str bs, _, E, _, C, mu, q1, hk, key noW w' Sw Sr rfl rfl ⟨q2.os, q2.tape, q2.output, q2.size, fun k hk => q2.block k ⟨hk.1, fun h => hk.2 (h ▸ j1), fun h => hk.2 (j4 k h).1⟩⟩ (fun b hb => .inl hb) (fun b hb => .inl hb) hf.sub (fun b hb => Nat.lt_of_lt_of_le (hf.lt b hb) q2.size) trivial, ?_⟩
 unfold Rep
 exact ⟨rfl, by omega⟩
def wEnd (T e : TypeId) (b : Nat) (bs : List UInt8) : KK := fun _ H => ∃ R, H = .inv (WrI T e b bs) :: R
theorem WCtr.of_body {f : FuncId} {fn : Func} {c : Code} {args : List AV} (hf : P.funcs[f]? = some fn) (hb : fn.body = some c) (hg : goodF P f = true) (hres : fn.results = #[])
  (h : ∀ (b : Nat) (bs : List UInt8), bs.length + out.length ≤ 140737488355328 →
   enterK fn.ntmps (.raw (wrP b) :: args) fun E => ACode P c E [.inv (WrI T e b bs)] (wEnd T e b (bs ++ out)) (fun en E H => match en with | .ret => wEnd T e b (bs ++ out) E H | _ => False)) : WCtr P T e f args out := by
 refine ⟨hg, fun b bs C w us S hlt himm hsr hJ hl hr => (callsIn_wide (n := 0)).1 (callsIn_of_wp_marks (F := Fence.wide) (n := 0) hf hb trivial ?_ rfl)⟩
 have h := h b bs hl
 unfold enterK at h
 rw [repK_iff, appK_iff] at h
 let G : Cx := { P := P, C0 := C, M0 := S, W0 := w, gok := ⟨hlt, fun b o hc hs => himm b o hs hc⟩ }
 have hr1 : Reps C w (AV.raw (wrP b) :: args) Mu.none (wrP b :: us) := by
  unfold Reps; exact ⟨_, _, rfl, by unfold Rep; rfl, hr⟩
 have hst : St G ((AV.raw (wrP b) :: args) ++ List.replicate (fn.ntmps - (AV.raw (wrP b) :: args).length) (.raw undef)) [.inv (WrI T e b bs)]
   { tmps := (wrP b :: us).toArray ++ Array.replicate (fn.ntmps - (wrP b :: us).toArray.size) undef, defers := [] } w := by
  refine ⟨C, Mu.none, fun _ _ h => h, fun _ _ h => .inl h, hlt.lt, ⟨fun _ _ h => (by cases h), fun _ _ _ h => (by cases h), fun _ _ _ _ _ h => (by cases h), fun i hi => rfl, fun i cs hi => ?_, fun i e sz es hi => ?_, fun i ks vs hi => ?_⟩, ?_, ⟨[], rfl, ?_⟩, ⟨rfl, rfl, rfl, Nat.le_refl _, fun _ _ _ => rfl⟩, Nat.zero_le _, fun _ _ h => absurd h (Nat.not_lt_zero _)⟩
  ·cases i <;> simp at hi
  ·cases i <;> simp at hi
  ·cases i <;> simp at hi
  ·have hl := reps_len _ hr1
   have := reps_append hr1 (reps_replicate (C := C) (w := w) (mu := Mu.none) (fn.ntmps - (AV.raw (wrP b) :: args).length))
   simpa [← hl, reps_len _ hr] using this
  ·refine ⟨fun i cs vs ms hi => ?_, fun i J hi => ?_, fun D hD => (by cases hD), List.nodup_nil, fun i i' cs vs ms cs' vs' ms' hi => ?_⟩
   ·cases i <;> simp at hi
   ·cases i with
    | succ i => simp at hi
    | zero =>
     simp only [List.getElem?_cons_zero, Option.some.injEq, HO.inv.injEq] at hi
     subst hi
     exact ⟨rfl, S, S, ⟨fun b hb => .inr hb, Nat.zero_le _, fun b o hc => .inl trivial, fun _ _ _ h => (by cases h), fun _ h => h, hsr, fun _ _ _ _ h => (by cases h), himm⟩, hJ, fun D hD => (by cases hD), fun i cs vs ms hi => by cases i <;> simp at hi⟩
   ·cases i <;> simp at hi
 have fin : ∀ E H a w', wEnd T e b (bs ++ out) E H → St G E H a w' → LeavesInM (fw none) 0 P fn a.tmps (fun en w' => ∃ v S', en = .returned v ∧ Same (fun b => b < w.heap.size ∧ ¬ S b) w w' ∧ (∀ b, S' b → S b ∨ w.heap.size ≤ b) ∧ (∀ b, S' b → b < w'.heap.size) ∧ WrJ T e b (bs ++ out) S' S' w') a.defers .returning w' := by
  rintro E H a w' ⟨R, rfl⟩ ⟨C', mu', hst⟩
  obtain ⟨ms, d1, d2⟩ := hst.defers
  rw [show a.defers = ms.map mark by simpa [G] using d1]
  refine leaves_ok (G := G) rfl ms rfl hst d2 fun a' w'' ha hs' => ?_
  obtain ⟨ms', _, x2⟩ := hs'.defers
  obtain ⟨_, Sw', Sr', hf', hJ', _⟩ := x2.invs 0 _ rfl
  have hrs : (results fn a.tmps).run P w'' = .ok (.tuple #[]) w'' := by
   rw [results_eq, hres]
   simp
  obtain ⟨⟨j1, j2⟩, p, v, j3, j4⟩ : WrJ T e b (bs ++ out) Sw' Sr' w'' := hJ'
  exact ⟨_, hrs, _, Sw', rfl, ⟨hs'.keep.os, hs'.keep.tape, hs'.keep.output, hs'.keep.size, fun k hk => hs'.keep.block k hk.1 hk.2⟩, fun b hb => (hf'.fr b hb).symm, fun b hb => hf'.lt b (hf'.sub b hb), ⟨j1, j1⟩, p, v, j3, fun g hg => ⟨(j4 g hg).1, (j4 g hg).1⟩⟩
 refine wpIn_mono (h.out 0 G _ w rfl hst) fun e a w' q => ?_
 cases e with
 | normal => obtain ⟨E, H, h1, h2⟩ := q; exact fin E H a w' h1 h2
 | ret => obtain ⟨E, H, h1, h2⟩ := q; exact fin E H a w' h1 h2
 | exit id => obtain ⟨E, H, h1, h2⟩ := q; exact h1.elim
 | panic ch => obtain ⟨x, v, E, H, C, mu, _, h1, _⟩ := q; exact h1.elim
 | goto l => exact q.elim
 | outgrown => exact q.elim
theorem WCtr.of_law {f : FuncId} {args : List AV} (hg : goodF P f = true)
  (h : ∀ (b : Nat) (bs : List UInt8) (p v : Value) (C : CellSet) (w : World) (us : List Value), Reps C w args Mu.none us → WrAt T e b p v bs w → bs.length + out.length ≤ 140737488355328 →
   Calls P f (wrP b :: us).toArray w fun en w' => ∃ r p' v', en = .returned r ∧ WrAt T e b p' v' (bs ++ out) w' ∧ Same (fun k => k < w.heap.size ∧ k ≠ b ∧ v.ownBlock ≠ some k) w w' ∧ ∀ g, v'.ownBlock = some g → v.ownBlock = some g ∨ w.heap.size ≤ g) : WCtr P T e f args out :=
 ⟨hg, fun b bs C w us S hlt himm hsr ⟨⟨j1, _⟩, p, v, j3, j4⟩ hl hr => (h b bs p v C w us hr j3 hl).mono fun en w' ⟨r, p', v', q1, q2, q3, q4⟩ =>
  ⟨r, fun k => k = b ∨ v'.ownBlock = some k, q1, ⟨q3.os, q3.tape, q3.output, q3.size, fun k hk => q3.block k ⟨hk.1, fun h => hk.2 (h ▸ j1), fun h => hk.2 (j4 k h).1⟩⟩,
   fun k hk => hk.elim (fun h => .inl (h ▸ j1)) fun h => (q4 k h).imp (fun h => (j4 k h).1) id, fun k hk => hk.elim (fun h => h ▸ q2.lt.1) fun h => q2.lt.2 k h, ⟨.inl rfl, .inl rfl⟩, p', v', q2, fun g hg => ⟨.inr hg, .inr hg⟩⟩⟩
theorem StC.noW0 (h : StC G C mu E [] a w) : StC G C mu E [.inv noW] a w := by
 obtain ⟨ms, d1, d2⟩ := h.defers
 have one : ∀ {l : Nat} {y : HO}, [HO.inv noW][l]? = some y → l = 0 ∧ y = .inv noW := fun {l y} hl => by
  cases l with
  | zero => simp at hl; exact ⟨rfl, hl.symm⟩
  | succ l => simp at hl
 have hno : ∀ l g, mu l ≠ some g := fun l g hl => by have := h.heap.dom l g hl; simp at this
 refine ⟨h.c0, h.c1, h.lt, ⟨fun l g hl => absurd hl (hno l g), fun l g b hl => absurd hl (hno l g), fun l g b l' g' hl => absurd hl (hno l g), fun l hl => ?_, fun l cs hl => ?_, fun l e sz es hl => ?_, fun l ks vs hl => ?_⟩, h.env,
  ⟨ms, d1, fun l cs us ms' hl => ?_, fun l I hl => ?_, d2.marks, d2.nd, fun l l' cs vs ms cs' vs' ms' hl => ?_⟩, h.keep, Nat.le_trans h.pin.1 (Nat.zero_le _), h.pin.2⟩
 ·cases (one hl).2
 ·cases (one hl).2
 ·cases (one hl).2
 ·cases (one hl).2
 ·cases (one hl).2
 ·obtain ⟨h0, h1⟩ := one hl
  simp only [HO.inv.injEq] at h1
  subst h1
  exact ⟨h0, fun _ => False, fun _ => False, ⟨fun b hb => hb.elim, Nat.zero_le _, fun _ _ _ => .inl trivial, fun l g b hl => absurd hl (hno l g), fun _ h => h, fun _ h => h.elim, fun _ h => h.elim, fun _ _ h => h.elim⟩, trivial, fun _ _ h => h, fun _ _ _ _ _ _ _ h => h⟩
 ·cases (one hl).2
theorem ACode.noW0 {c : Code} (h : ACode P c E [.inv noW] K X) : ACode P c E [] K X :=
 ⟨fun n G a w hP ⟨C, mu, hst⟩ => h.out n G a w hP ⟨C, mu, hst.noW0⟩⟩
def wAllocK (tw eb : TypeId) (E : List AV) (H : List HO) (o : Op) (K : AV → KK) : Prop :=
 match o with
 | .box t x => (match Nat.beq t tw with
  | true => evK E x fun v => cellsK v fun cs => (match cs.all scalB with
   | true => cs = [.raw (.pointer none), .raw (.slice none 0 0)] ∧ H[0]? = some (.inv noW) ∧ ∀ b, K (.raw (wrP b)) E (H.set 0 (.inv (WrI tw eb b [])))
   | false => False)
  | false => False)
 | _ => False
def regWK (tw eb : TypeId) (P : Program) (T : List TY) (ops : List Oper) : Nat → List Oper → List AV → List HO → KK → XX → Prop
 | _, [], _, _, _, _ => False
 | 0, o :: r, E, H, K, X => gdK ops E o.guard
   (fun E => wAllocK tw eb E H o.op (fun v E' H' => updOK E' o.dst v fun E'' => regK P T ops r E'' H' K X))
   (fun E => updOK E o.dst (.raw undef) fun E' => regK P T ops r E' H K X)
 | k + 1, o :: r, E, H, K, X => gdK ops E o.guard
   (fun E => opK none P T E H o.op (fun v E' H' => updOK E' o.dst v fun E'' => regWK tw eb P T ops k r E'' H' K X) X)
   (fun E => updOK E o.dst (.raw undef) fun E' => regWK tw eb P T ops k r E' H K X)
theorem wAlloc_ok {tw eb : TypeId} (h : StC G C mu E H a w) {t : TypeId} {x : Operand} {K : AV → KK} (hk : wAllocK tw eb E H (.box t x) K) : EffOk G a w K (Instr.box t (a.eval x)) := by
 unfold wAllocK at hk
 simp only at hk
 split at hk
 case h_2 => exact hk.elim
 rename_i ht
 obtain rfl := Nat.eq_of_beq_eq_true ht
 rw [evK_iff, cellsK_iff] at hk
 split at hk
 case h_2 => exact hk.elim
 rename_i hs
 obtain ⟨hcs, hob, hk⟩ := hk
 obtain ⟨vs, hv, hr⟩ := cells_rep (rep_ev h.env x) hs
 rw [hcs] at hr
 unfold Reps at hr
 obtain ⟨v0, vs0, rfl, r0, hr⟩ := hr
 unfold Reps at hr
 obtain ⟨v1, vs1, rfl, r1, hr⟩ := hr
 unfold Reps at hr
 subst hr
 unfold Rep at r0 r1
 subst r0
 subst r1
 obtain ⟨Sw, Sr, hf, hJ, key⟩ := h.owner hob
 have hold : ∀ k, k < w.heap.size → (w.alloc (.cells #[.pointer none, .slice none 0 0] t)).heap[k]? = w.heap[k]? := fun k hk => heap_alloc_old w _ hk
 refine ⟨_, _, _, _, _, _, _, hk w.heap.size, ?_, key (WrI t eb w.heap.size []) (w.alloc (.cells #[.pointer none, .slice none 0 0] t)) (fun k => k = w.heap.size) (fun k => k = w.heap.size) rfl rfl
  ⟨rfl, rfl, rfl, by simp, fun k hk => hold k hk.1⟩ (fun k hk => .inr (by omega)) (fun k hk => .inr (by omega)) (fun _ h => h) (fun k hk => by subst hk; simp)
  ⟨⟨rfl, rfl⟩, _, _, ⟨.inl rfl, heap_alloc_new w _, World.ownsRow_nil _ _ _ _, by simp [Value.ownBlock], fun _ => rfl⟩, fun g hg => by simp [Value.ownBlock] at hg⟩, by unfold Rep; rfl⟩
 simp [Instr.box, newVar, newRow, hv, wrP]
theorem wAllocOp_sound {tw eb : TypeId} {o : Oper} {K : AV → KK} {Kn : KK} {r : Option Nat} {n : Nat} (h : wAllocK tw eb E H o.op K) (hst : StC G C mu E H a w) {next : Act → World → Prop} (hn : ∀ a w, OpPost G o K a w → next a w) :
  o.wpIn (fw r) n G.P a w next (QOf G Kn X) := by
 cases ho : o.op <;> rw [ho] at h <;> first | exact h.elim | skip
 obtain ⟨r, v, E', H', C', mu', w', k1, k2, k3, k4⟩ := wAlloc_ok hst h
 exact wpIn_of_wp (fun c hc => by rw [ho] at hc; cases hc) (op_of_value (X := X) (Q := Kn) hn k1 (execOp_value (by simp [execOp, ho]) k2) k3 k4)
theorem regW_sound {tw eb : TypeId} (hT : TOk G.P Ts) {r : Option Nat} {n : Nat} {ops : Array Oper} {K : KK} {X : XX} : ∀ (l : List Oper) (k : Nat) {C : CellSet} {mu : Mu} {E : List AV} {H : List HO} {a : Act} {w : World}, regWK tw eb G.P Ts ops.toList k l E H K X → StC G C mu E H a w → wpListIn (fw r) n G.P ops (QOf G K X) l a w
 | [], k, _, _, _, _, _, _, h, hst => by unfold regWK at h; exact h.elim
 | o :: l, 0, C, mu, E, H, a, w, h, hst => by
  unfold regWK at h
  unfold wpListIn
  rcases gd_sound rfl hst h with ⟨hw, E', h1, h2⟩ | ⟨hw, E', h1, h2⟩
  ·rw [if_pos hw]
   refine wAllocOp_sound h1 h2 fun a' w' hp => ?_
   obtain ⟨x, E'', H', h3, C', mu', h4⟩ := hp
   rw [updOK_iff] at h3
   exact reg_sound hT l h3 h4
  ·rw [if_neg (by simp [hw])]
   rw [updOK_iff] at h1
   exact ⟨fun _ _ => trivial, reg_sound hT l h1 (h2.frame (reps_put h2.env o.dst (by unfold Rep; rfl)) (put_defers _ _ _))⟩
 | o :: l, k + 1, C, mu, E, H, a, w, h, hst => by
  unfold regWK at h
  unfold wpListIn
  rcases gd_sound rfl hst h with ⟨hw, E', h1, h2⟩ | ⟨hw, E', h1, h2⟩
  ·rw [if_pos hw]
   refine op_sound hT h1 h2 fun a' w' hp => ?_
   obtain ⟨x, E'', H', h3, C', mu', h4⟩ := hp
   rw [updOK_iff] at h3
   exact regW_sound hT l k h3 h4
  ·rw [if_neg (by simp [hw])]
   rw [updOK_iff] at h1
   exact ⟨fun _ _ => trivial, regW_sound hT l k h1 (h2.frame (reps_put h2.env o.dst (by unfold Rep; rfl)) (put_defers _ _ _))⟩
theorem ACode.s_regW (tw eb : TypeId) (k : Nat) (hT : TOk P Ts) {id : Nat} {ops : Array Oper} (h : regWK tw eb P Ts ops.toList k ops.toList E H K X) : ACode P (.region id ops false) E H K X :=
 ⟨fun n G a w hP hst => by
  obtain ⟨C, mu, hst⟩ := hst
  subst hP
  exact wpIn_region_list (regW_sound hT _ k h hst)⟩
end
end Go.Av
namespace Go.Av
open Go.Shelf Go.RowKit Go.Proofs
section
variable {T e : TypeId} {b : Nat} {p v : Value} {bs : List UInt8} {w w' : World}
theorem WrAt.cell0 (h : WrAt T e b p v bs w) : w.cell? ⟨b, 0, none⟩ = some p := by simp [World.cell?, h.2.1]
theorem WrAt.cell1 (h : WrAt T e b p v bs w) : w.cell? ⟨b, 1, none⟩ = some v := by simp [World.cell?, h.2.1]
theorem WrAt.shape (h : WrAt T e b p v bs w) : w.shape? b = some (T, 2) := by simp [World.shape?, h.2.1]
theorem WrAt.fr (h : WrAt T e b p v bs w) (j : Nat) : w.frozen? ⟨b, j, none⟩ = false := by simp [World.frozen?, h.2.1]
theorem set_other (w : World) (b j : Nat) (x : Value) {k : Nat} (hk : k ≠ b) : (w.setCell ⟨b, j, none⟩ x).heap[k]? = w.heap[k]? := by
 simp only [World.setCell, Array.getElem?_modify]
 rw [if_neg (Ne.symm hk)]
theorem WrAt.marked (h : WrAt T e b p v bs w) : WrAt T e b (wrP b) v bs (w.setCell ⟨b, 0, none⟩ (wrP b)) := by
 obtain ⟨_, h2, h3, h4⟩ := h
 refine ⟨.inr rfl, by simp [World.setCell, Array.getElem?_modify, h2], ⟨h3.1, h3.2.imp id fun ⟨g, cap, cur, q1, q2, q3, q4⟩ => ⟨g, cap, cur, q1, q2, ?_, q4⟩⟩, h4⟩
 rw [set_other _ _ _ _ (fun hg => h4.1 (by rw [q1, ← hg]; rfl))]
 exact q3
theorem wr_put {v' : Value} {bs' : List UInt8} (hb : w.heap[b]? = some (.cells #[wrP b, v] T (0, 0))) (hown : w.ownsRow 0 e 1 v' bs'.length (Lib.byteCells bs')) (hTe : T ≠ e) (hem : bs' = [] → v' = .slice none 0 0) :
  WrAt T e b (wrP b) v' bs' (w.setCell ⟨b, 1, none⟩ v') := by
 have h4 := Lib.ownBlock_ne hown hb hTe
 refine ⟨.inr rfl, by simp [World.setCell, Array.getElem?_modify, hb], ⟨hown.1, hown.2.imp id fun ⟨g, cap, cur, q1, q2, q3, q4⟩ => ⟨g, cap, cur, q1, q2, ?_, q4⟩⟩, h4, hem⟩
 rw [set_other _ _ _ _ (fun hg => h4 (by rw [q1, ← hg]; rfl))]
 exact q3
end
section
variable {P : Program} {w w' : World}
theorem appS_block (t u ty e : TypeId) (i : TypeInfo) (ht : P.underlying t = some (.slice e)) (hu : P.underlying u = some .string) (hi : P.info? e = some i) (hz : i.zero = some (.int .u8 0)) (hsize : i.size = 1) (hby : i.bytes = 1)
  {v v' : Value} {n : Nat} {xs : List Value} (hown : w.ownsRow 0 e 1 v n xs) (s : ByteArray) (h63 : n + s.size ≤ maxLen) (hbytes : n + s.size ≤ 140737488355328)
  (hr : (Builtin.append_ #[t, u] ty #[v, .string s]).run P w = .ok v' w') : ∀ g, v'.ownBlock = some g → v.ownBlock = some g ∨ w.heap.size ≤ g := by
 intro g hg
 rcases hown.2 with ⟨rfl, rfl⟩ | ⟨g0, cap, cur, rfl, hbg, hg0, hnc, hcm, hcs, htake⟩
 ·have hx : xs = [] := List.eq_nil_of_length_eq_zero (by simpa using hown.1)
  subst hx
  obtain ⟨v2, w2, k1, k2, _⟩ := Lib.run_append_own_string (P := P) w w.heap.size t u ty e i ht hu hi hz hsize hby _ 0 [] (World.ownsRow_nil w _ e 1) s h63 hbytes (Nat.le_refl _)
  rw [hr] at k1
  cases k1
  exact .inr (k2.lt g hg).1
 ·have hxl : xs.length = n := by simpa using hown.1
  by_cases hroom : n + s.size ≤ cap
  ·have k := Lib.run_append_room_string (P := P) w t u ty e i ht hu hi hsize g0 n cap cur hg0 s hroom (by omega)
   rw [hr] at k
   cases k
   exact .inl hg
  ·have k := Lib.run_append_grow_string (P := P) w t u ty e i (.int .u8 0) ht hu hi hz ⟨g0, 0, none⟩ n cap xs (by rw [hsize]; simpa using hxl) (hown.cells (g := g0) rfl) s (by omega) (by simp only [maxLen] at h63; omega) (by rw [hby]; exact growslice_fits (by omega) (by omega))
   rw [hr] at k
   cases k
   simp only [Value.ownBlock, Option.some.injEq] at hg
   exact .inr (by omega)
theorem appB_block (t ty e : TypeId) (i : TypeInfo) (ht : P.underlying t = some (.slice e)) (hi : P.info? e = some i) (hz : i.zero = some (.int .u8 0)) (hsize : i.size = 1) (hby : i.bytes = 1)
  {v v' : Value} {n : Nat} {xs : List Value} (hown : w.ownsRow 0 e 1 v n xs) (a : Addr) (c : Nat) (x : Value) (hx0 : w.cell? a = some x) (hx1 : x.oneCell' = true) (h63 : n + 1 ≤ maxLen) (hbytes : n + 1 ≤ 140737488355328)
  (hr : (Builtin.append_ #[t, t] ty #[v, .slice (some a) 1 c]).run P w = .ok v' w') : ∀ g, v'.ownBlock = some g → v.ownBlock = some g ∨ w.heap.size ≤ g := by
 intro g hg
 have hnews : ∀ j u, [x][j]? = some u → w.cell? (a.add j) = some u := fun j u hj => by
  cases j with
  | zero => simp at hj; subst hj; simpa [Addr.add] using hx0
  | succ j => simp at hj
 have hone : ∀ u ∈ [x], u.oneCell' = true := fun u hu => by simp at hu; subst hu; exact hx1
 rcases hown.2 with ⟨rfl, rfl⟩ | ⟨g0, cap, cur, rfl, hbg, hg0, hnc, hcm, hcs, htake⟩
 ·have hx : xs = [] := List.eq_nil_of_length_eq_zero (by simpa using hown.1)
  subst hx
  obtain ⟨v2, w2, k1, k2, _⟩ := run_append_own (P := P) w w.heap.size t ty e i (.int .u8 0) 1 1 ht hi hz hsize hby rfl (by decide) _ 0 [] (World.ownsRow_nil w _ e 1) a 1 c [x] rfl hnews hone h63 (by omega) (Nat.le_refl _)
  rw [hr] at k1
  cases k1
  exact .inr (k2.lt g hg).1
 ·have hxl : xs.length = n := by simpa using hown.1
  by_cases hroom : n + 1 ≤ cap
  ·have k := run_append_room (P := P) w t ty e i ht hi g0 n cap cur hg0 a 1 c [x] (by rw [hsize]; rfl) hnews hone hroom (by rw [hsize]; simp; omega)
   rw [hr] at k
   cases k
   exact .inl hg
  ·have k := run_append_grow (P := P) w t ty e i (.int .u8 0) ht hi hz ⟨g0, 0, none⟩ n cap xs (by rw [hsize]; simpa using hxl) (hown.cells (g := g0) rfl) a 1 c [x] (by rw [hsize]; rfl) hnews (by omega) (by simp only [maxLen] at h63; omega) (by rw [hby]; exact growslice_fits (by omega) (by omega))
   rw [hr] at k
   cases k
   simp only [Value.ownBlock, Option.some.injEq] at hg
   exact .inr (by omega)
theorem wpList_appB {ops : Array Oper} {rest : List Oper} {o : Oper} {a : Act} {Q : Exit → Act → World → Prop} (hgd : o.guard = none) (s x : Operand) (t : TypeId)
  (ho : o.op = .call { callee := .builtin .append, args := #[s, x], argTypes := #[t, t] }) (e : TypeId) (i : TypeInfo) (ht : P.underlying t = some (.slice e)) (hi : P.info? e = some i) (hz : i.zero = some (.int .u8 0)) (hsize : i.size = 1) (hby : i.bytes = 1)
  (v : Value) (n : Nat) (xs : List Value) (hs : a.eval s = v) (hown : w.ownsRow 0 e 1 v n xs) (ad : Addr) (c : Nat) (x0 : Value) (hx : a.eval x = .slice (some ad) 1 c) (hx0 : w.cell? ad = some x0) (hx1 : x0.oneCell' = true)
  (h63 : n + 1 ≤ maxLen) (hbytes : n + 1 ≤ 140737488355328)
  (h : ∀ v' w', w'.ownsRow 0 e 1 v' (n + 1) (xs ++ [x0]) → w.grownBy w' v.ownBlock → (∀ g, v'.ownBlock = some g → v.ownBlock = some g ∨ w.heap.size ≤ g) → wpList P ops Q rest (a.put o.dst v') w') : wpList P ops Q (o :: rest) a w := by
 refine wpList_plain hgd fun K hK => ?_
 obtain ⟨v', w', hr, hown', hgrow, _⟩ := run_append_own (P := P) w 0 t o.type e i (.int .u8 0) 1 1 ht hi hz hsize hby rfl (by decide) v n xs hown ad 1 c [x0] rfl (fun j u hj => by
   cases j with
   | zero => simp at hj; subst hj; simpa [Addr.add] using hx0
   | succ j => simp at hj) (fun u hu => by simp at hu; subst hu; exact hx1) h63 (by omega) (Nat.zero_le _)
 have hblk := appB_block t o.type e i ht hi hz hsize hby hown ad c x0 hx0 hx1 h63 hbytes hr
 unfold Oper.wp execOp
 simp only [ho, resolve, invoke, builtin, Sem.run_bind, Sem.run_pure, Result.andThen_ok, List.map_toArray, List.map_cons, List.map_nil, hs, hx, hr]
 exact hK _ _ (h v' w' hown' hgrow hblk)
theorem wpList_appS {ops : Array Oper} {rest : List Oper} {o : Oper} {a : Act} {Q : Exit → Act → World → Prop} (hgd : o.guard = none) (sl x : Operand) (t u : TypeId)
  (ho : o.op = .call { callee := .builtin .append, args := #[sl, x], argTypes := #[t, u] }) (e : TypeId) (i : TypeInfo) (ht : P.underlying t = some (.slice e)) (hu : P.underlying u = some .string) (hi : P.info? e = some i) (hz : i.zero = some (.int .u8 0)) (hsize : i.size = 1) (hby : i.bytes = 1)
  (v : Value) (n : Nat) (xs : List Value) (hs : a.eval sl = v) (hown : w.ownsRow 0 e 1 v n xs) (s : ByteArray) (hx : a.eval x = .string s) (h63 : n + s.size ≤ maxLen) (hbytes : n + s.size ≤ 140737488355328)
  (h : ∀ v' w', w'.ownsRow 0 e 1 v' (n + s.size) (xs ++ Lib.strCells s) → w.grownBy w' v.ownBlock → (∀ g, v'.ownBlock = some g → v.ownBlock = some g ∨ w.heap.size ≤ g) → (v = .slice none 0 0 → s.size = 0 → v' = .slice none 0 0) → wpList P ops Q rest (a.put o.dst v') w') : wpList P ops Q (o :: rest) a w := by
 refine wpList_plain hgd fun K hK => ?_
 obtain ⟨v', w', hr, hown', hgrow, hnil⟩ := Lib.run_append_own_string (P := P) w 0 t u o.type e i ht hu hi hz hsize hby v n xs hown s h63 hbytes (Nat.zero_le _)
 have hblk := appS_block t u o.type e i ht hu hi hz hsize hby hown s h63 hbytes hr
 unfold Oper.wp execOp
 simp only [ho, resolve, invoke, builtin, Sem.run_bind, Sem.run_pure, Result.andThen_ok, List.map_toArray, List.map_cons, List.map_nil, hs, hx, hr]
 exact hK _ _ (h v' w' hown' hgrow hblk fun k1 k2 => hnil.2 ⟨k1, k2⟩)
end
section
variable {P : Program} {ρ : Ren} {T : TypeId} {b : Nat} {p v : Value} {bs : List UInt8} {w : World}
set_option maxHeartbeats 1000000 in
set_option maxRecDepth 100000 in
theorem wr_first (L : Lays.n240 P ρ) (X : Builder.X72 P ρ) (hlies : liesAt P P.depth T (2 / P.cellsOf T) 0 (ρ.t 72) 1 = true) (h0 : w.cell? ⟨b, 0, none⟩ = some (.pointer none)) (hsh : w.shape? b = some (T, 2)) (hfz : w.frozen? ⟨b, 0, none⟩ = false) :
  Calls P (ρ.f 240) #[wrP b] w fun en w' => en = .returned (.tuple #[]) ∧ w' = w.setCell ⟨b, 0, none⟩ (wrP b) := by
 unfold wrP
 obtain ⟨j, hj, hjs⟩ := Option.map_eq_some_iff.1 X.sizeBuilder
 have hto := Lib.run_to_unsafe (P := P) w ⟨b, 0, none⟩ L.t70 L.t164 hj (by rw [hjs]; decide) hsh (Nat.zero_lt_succ 1)
 have hfrom := Lib.run_from_unsafe (P := P) w ⟨b, 0, none⟩ L.t164 L.t70 hj hsh hlies
 have mixed := L.mixed
 have t72 := L.t72; have a72 := L.a72; have z72 := L.z72; have v72 := L.v72; have u72 := run_underlying L.t72
 have t70 := L.t70; have a70 := L.a70; have z70 := L.z70; have v70 := L.v70; have u70 := run_underlying L.t70
 have t9 := L.t9; have a9 := L.a9; have z9 := L.z9; have v9 := L.v9; have u9 := run_underlying L.t9
 have t4 := L.t4; have a4 := L.a4; have z4 := L.z4; have v4 := L.v4; have u4 := run_underlying L.t4
 have t164 := L.t164; have a164 := L.a164; have z164 := L.z164; have v164 := L.v164; have u164 := run_underlying L.t164
 go_enter L.f240, Body.n240_ntmps ρ
 go_wp2
 rw [run_callFunc_extern L.f276 (by kernel_rfl) (by kernel_rfl) (by kernel_rfl) (e := Extern.AbiNoEscape.same) (by kernel_rfl), Lib.run_noEscape]
 simp only [Result.andThen]
 rw [Oper.upon_value]
 go_wp2
 go_end0
 exact ⟨rfl, rfl⟩
theorem wr_check {e : TypeId} (L : Lays.n240 P ρ) (X : Builder.X72 P ρ) (hlies : liesAt P P.depth T (2 / P.cellsOf T) 0 (ρ.t 72) 1 = true) (h : WrAt T e b p v bs w) :
  Calls P (ρ.f 240) #[wrP b] w fun en w' => en = .returned (.tuple #[]) ∧ WrAt T e b (wrP b) v bs w' ∧ Same (fun k => k < w.heap.size ∧ k ≠ b) w w' ∧ w'.heap.size ≤ w.heap.size := by
 rcases h.1 with hp | hp
 ·refine (wr_first L X hlies (by rw [h.cell0, hp]) h.shape (h.fr 0)).mono ?_
  rintro en w' ⟨rfl, rfl⟩
  exact ⟨rfl, h.marked, ⟨rfl, rfl, rfl, by simp [World.setCell], fun k hk => set_other _ _ _ _ hk.2⟩, by simp [World.setCell]⟩
 ·refine (Any.Builder_copyCheck_used L X b w (by rw [h.cell0, hp])).mono ?_
  rintro en w' ⟨rfl, rfl⟩
  exact ⟨rfl, ⟨.inr rfl, by have := h.2.1; rw [hp] at this; exact this, h.2.2⟩, ⟨rfl, rfl, rfl, Nat.le_refl _, fun _ _ => rfl⟩, Nat.le_refl _⟩
set_option maxHeartbeats 2000000 in
set_option maxRecDepth 100000 in
theorem wr_byte (L : Lays.n167 P ρ) (X : Builder.Extra P ρ) (hlies : liesAt P P.depth T (2 / P.cellsOf T) 0 (ρ.t 72) 1 = true) (hTe : T ≠ ρ.t 5) (c : UInt8) (h : WrAt T (ρ.t 5) b p v bs w) (hlen : bs.length + 1 ≤ 140737488355328) :
  Calls P (ρ.f 167) #[wrP b, .int .u8 c.toNat] w fun en w' => ∃ r p' v', en = .returned r ∧ WrAt T (ρ.t 5) b p' v' (bs ++ [c]) w' ∧ Same (fun k => k < w.heap.size ∧ k ≠ b ∧ v.ownBlock ≠ some k) w w' ∧ ∀ g, v'.ownBlock = some g → v.ownBlock = some g ∨ w.heap.size ≤ g := by
 have hchk := wr_check (w := w) { L with } X.toX72 hlies h
 unfold wrP at hchk ⊢
 obtain ⟨i0, hi, hz0, hz1, hz2⟩ := info_parts X.infoByte
 have mixed := L.mixed
 have t72 := L.t72; have a72 := L.a72; have z72 := L.z72; have v72 := L.v72; have u72 := run_underlying L.t72
 have t70 := L.t70; have a70 := L.a70; have z70 := L.z70; have v70 := L.v70; have u70 := run_underlying L.t70
 have t5 := L.t5; have a5 := L.a5; have z5 := L.z5; have v5 := L.v5; have u5 := run_underlying L.t5
 have t37 := L.t37; have a37 := L.a37; have z37 := L.z37; have v37 := L.v37; have u37 := run_underlying L.t37
 have t9 := L.t9; have a9 := L.a9; have z9 := L.z9; have v9 := L.v9; have u9 := run_underlying L.t9
 have t4 := L.t4; have a4 := L.a4; have z4 := L.z4; have v4 := L.v4; have u4 := run_underlying L.t4
 have t164 := L.t164; have a164 := L.a164; have z164 := L.z164; have v164 := L.v164; have u164 := run_underlying L.t164
 have e240 : ∀ args w, (callFunc (ρ.f 240) args).run P w = .ok (.enter (ρ.f 240) args) w := enters_of L.f240 (by kernel_rfl) rfl
 go_enter L.f167, Body.n167_ntmps ρ
 go_wp2_with (go_at_fn (ρ.f 240); refine hchk.mono ?_)
 rintro en w1 ⟨rfl, hA, hS, hsz⟩
 have c0 := hA.cell0
 have c1 := hA.cell1
 have hblt := hA.lt
 have hge := hS.size
 obtain ⟨_, hbk, hown, hne, hemp⟩ := hA
 have hbytes : bs.length + 1 ≤ maxLen := by unfold maxLen; omega
 go_wp2_with (at_builtin; refine wpList_appB rfl _ _ (ρ.t 37) rfl (ρ.t 5) i0 L.t37 hi hz0 hz1 hz2 _ _ _ rfl (hown.alloc _) ⟨w1.heap.size, 0, none⟩ 1 (.int .u8 c.toNat) rfl (by simp) rfl hbytes hlen ?_)
 intro v' w2 hown' hgrow hblk
 have hold : ∀ k, k < w1.heap.size → v.ownBlock ≠ some k → w2.heap[k]? = w1.heap[k]? := fun k hk hn => by
  rw [hgrow.block k (by simp; omega) (fun h => hn h.symm)]
  exact heap_alloc_old w1 _ hk
 have hb2 : w2.heap[b]? = some (.cells #[wrP b, v] T (0, 0)) := by rw [hold b hblt.1 hne]; exact hbk
 have d0 : w2.cell? ⟨b, 0, none⟩ = some (.pointer (some ⟨b, 0, none⟩)) := by simp [World.cell?, hb2, wrP]
 have d1 : w2.cell? ⟨b, 1, none⟩ = some v := by simp [World.cell?, hb2]
 have f1 : w2.frozen? ⟨b, 1, none⟩ = false := by simp [World.frozen?, hb2]
 have hw2 : w1.heap.size < w2.heap.size := by have := hgrow.size; simp at this; omega
 have hosw : w2.os = w1.os ∧ w2.tape = w1.tape ∧ w2.output = w1.output := ⟨hgrow.os, hgrow.tape, hgrow.output⟩
 obtain ⟨g, cap, rfl⟩ : ∃ g cap, v' = .slice (some ⟨g, 0, none⟩) (bs.length + 1) cap := by
  rcases hown'.2 with ⟨_, h0⟩ | ⟨g, cap, cur, hv, _⟩
  ·omega
  ·exact ⟨g, cap, hv⟩
 go_wp2
 go_ret
 refine ⟨_, _, _, rfl, wr_put (bs' := bs ++ [c]) hb2 (by simpa [Lib.byteCells] using hown') hTe (by simp), ⟨?_, ?_, ?_, ?_, fun k hk => ?_⟩, fun g hg => (hblk g hg).imp id fun hge' => by omega⟩
 ·exact hosw.1.trans hS.os
 ·exact hosw.2.1.trans hS.tape
 ·exact hosw.2.2.trans hS.output
 ·simp [World.setCell]; omega
 ·rw [set_other _ _ _ _ hk.2.1, hold k (by omega) hk.2.2]
  exact hS.block k ⟨hk.1, hk.2.1⟩
set_option maxHeartbeats 2000000 in
set_option maxRecDepth 100000 in
theorem wr_text (L : Lays.n166 P ρ) (X : Builder.Extra P ρ) (hlies : liesAt P P.depth T (2 / P.cellsOf T) 0 (ρ.t 72) 1 = true) (hTe : T ≠ ρ.t 5) (s : List UInt8) (h : WrAt T (ρ.t 5) b p v bs w) (hlen : bs.length + s.length ≤ 140737488355328) :
  Calls P (ρ.f 166) #[wrP b, .string ⟨s.toArray⟩] w fun en w' => ∃ r p' v', en = .returned r ∧ WrAt T (ρ.t 5) b p' v' (bs ++ s) w' ∧ Same (fun k => k < w.heap.size ∧ k ≠ b ∧ v.ownBlock ≠ some k) w w' ∧ ∀ g, v'.ownBlock = some g → v.ownBlock = some g ∨ w.heap.size ≤ g := by
 have hchk := wr_check (w := w) { L with } X.toX72 hlies h
 unfold wrP at hchk ⊢
 obtain ⟨i0, hi, hz0, hz1, hz2⟩ := info_parts X.infoByte
 have mixed := L.mixed
 have t72 := L.t72; have a72 := L.a72; have z72 := L.z72; have v72 := L.v72; have u72 := run_underlying L.t72
 have t70 := L.t70; have a70 := L.a70; have z70 := L.z70; have v70 := L.v70; have u70 := run_underlying L.t70
 have t37 := L.t37; have a37 := L.a37; have z37 := L.z37; have v37 := L.v37; have u37 := run_underlying L.t37
 have t3 := L.t3; have a3 := L.a3; have z3 := L.z3; have v3 := L.v3; have u3 := run_underlying L.t3
 have t9 := L.t9; have a9 := L.a9; have z9 := L.z9; have v9 := L.v9; have u9 := run_underlying L.t9
 have t4 := L.t4; have a4 := L.a4; have z4 := L.z4; have v4 := L.v4; have u4 := run_underlying L.t4
 have t164 := L.t164; have a164 := L.a164; have z164 := L.z164; have v164 := L.v164; have u164 := run_underlying L.t164
 have t5 := X.t5; have a5 := X.a5; have z5 := X.z5; have v5 := X.v5; have u5 := run_underlying X.t5
 have e240 : ∀ args w, (callFunc (ρ.f 240) args).run P w = .ok (.enter (ρ.f 240) args) w := enters_of L.f240 (by kernel_rfl) rfl
 go_enter L.f166, Body.n166_ntmps ρ
 go_wp2_with (go_at_fn (ρ.f 240); refine hchk.mono ?_)
 rintro en w1 ⟨rfl, hA, hS, hsz⟩
 have c0 := hA.cell0
 have c1 := hA.cell1
 have hblt := hA.lt
 have hge := hS.size
 obtain ⟨_, hbk, hown, hne, hemp⟩ := hA
 have hss : (ByteArray.mk s.toArray).size = s.length := by simp [ByteArray.size]
 have hbytes : bs.length + (ByteArray.mk s.toArray).size ≤ maxLen := by rw [hss]; unfold maxLen; omega
 go_wp2_with (at_builtin; refine wpList_appS rfl _ _ (ρ.t 37) (ρ.t 9) rfl (ρ.t 5) i0 L.t37 L.t9 hi hz0 hz1 hz2 _ _ _ rfl hown ⟨s.toArray⟩ rfl hbytes (by rw [hss]; exact hlen) ?_)
 intro v' w2 hown' hgrow hblk hnil
 have hold : ∀ k, k < w1.heap.size → v.ownBlock ≠ some k → w2.heap[k]? = w1.heap[k]? := fun k hk hn => hgrow.block k hk fun h => hn h.symm
 have hb2 : w2.heap[b]? = some (.cells #[wrP b, v] T (0, 0)) := by rw [hold b hblt.1 hne]; exact hbk
 have d0 : w2.cell? ⟨b, 0, none⟩ = some (.pointer (some ⟨b, 0, none⟩)) := by simp [World.cell?, hb2, wrP]
 have d1 : w2.cell? ⟨b, 1, none⟩ = some v := by simp [World.cell?, hb2]
 have f1 : w2.frozen? ⟨b, 1, none⟩ = false := by simp [World.frozen?, hb2]
 have hw2 : w1.heap.size ≤ w2.heap.size := hgrow.size
 have hosw : w2.os = w1.os ∧ w2.tape = w1.tape ∧ w2.output = w1.output := ⟨hgrow.os, hgrow.tape, hgrow.output⟩
 obtain ⟨ao, n', cap, rfl⟩ : ∃ ao n' cap, v' = .slice ao n' cap := by
  rcases hown'.2 with ⟨hv, _⟩ | ⟨g, cap, cur, hv, _⟩
  ·exact ⟨_, _, _, hv⟩
  ·exact ⟨_, _, _, hv⟩
 go_wp2
 go_ret2
 refine ⟨_, _, _, rfl, wr_put (bs' := bs ++ s) hb2 (by simpa [Lib.byteCells, Lib.strCells] using hown') hTe (fun h0 => hnil (hemp (by simp at h0; exact h0.1)) (by simp at h0; simp [h0.2])), ⟨?_, ?_, ?_, ?_, fun k hk => ?_⟩, fun g hg => (hblk g hg).imp id fun hge' => by omega⟩
 ·exact hosw.1.trans hS.os
 ·exact hosw.2.1.trans hS.tape
 ·exact hosw.2.2.trans hS.output
 ·simp [World.setCell]; omega
 ·rw [set_other _ _ _ _ hk.2.1, hold k (by omega) hk.2.2]
  exact hS.block k ⟨hk.1, hk.2.1⟩
set_option maxHeartbeats 1000000 in
set_option maxRecDepth 100000 in
theorem wr_some (L : Lays.n169 P ρ) (X : Builder.Extra P ρ) (h0 : bs ≠ []) (h : WrAt T (ρ.t 5) b p v bs w) :
  Calls P (ρ.f 169) #[wrP b] w fun en w' => en = .returned (.string ⟨bs.toArray⟩) ∧ Same (fun k => k < w.heap.size ∧ k ≠ b ∧ v.ownBlock ≠ some k) w w' := by
 unfold wrP
 have hl0 : bs.length ≠ 0 := by simpa using h0
 obtain ⟨g, cap, cur, hv, _, hg, hnc, hcm, hcs, htake⟩ : ∃ g cap cur, v = .slice (some ⟨g, 0, none⟩) bs.length cap ∧ 0 ≤ g ∧ w.heap[g]? = some (.cells cur (ρ.t 5) (0, 0)) ∧ bs.length ≤ cap ∧ cap ≤ maxLen ∧ cur.size = cap * 1 ∧ cur.toList.take (bs.length * 1) = Lib.byteCells bs := by
  rcases h.2.2.1.2 with ⟨_, hz⟩ | r
  ·exact absurd hz hl0
  ·exact r
 subst hv
 have hd : w.drew.heap = w.heap := rfl
 have c1 : w.drew.cell? ⟨b, 1, none⟩ = some (.slice (some ⟨g, 0, none⟩) bs.length cap) := by simp [World.cell?, hd, h.2.1]
 have hSD : (Builtin.unsafeSliceData_ #[(ρ.t 37)] (ρ.t 127) #[.slice (some ⟨g, 0, none⟩) bs.length cap]).run P w.drew = .ok (.pointer (some ⟨g, 0, none⟩)) w.drew :=
  Lib.run_unsafeSliceData_row _ _ _ _ _ _ (by omega)
 have hUS : (Builtin.unsafeString_ #[(ρ.t 127), (ρ.t 3)] (ρ.t 9) #[.pointer (some ⟨g, 0, none⟩), .int .i64 bs.length]).run P w.drew = .ok (.string ⟨bs.toArray⟩) (w.drew.freeze ⟨g, 0, none⟩ bs.length) := by
  refine Lib.run_unsafeString_row w.drew (ρ.t 127) (ρ.t 3) (ρ.t 9) (ρ.t 5) L.t127 X.cellsByte g cur.size (by simp [World.shape?, hd, hg]) bs h0 (by omega) (by unfold maxLen at hcm; omega) ?_
  intro j x hx
  exact h.2.2.1.cells (g := g) rfl j (.int .u8 x.toNat) (by simp [Lib.byteCells, hx])
 have hfz : Same (fun k => k < w.heap.size ∧ k ≠ b ∧ (Value.slice (some ⟨g, 0, none⟩) bs.length cap).ownBlock ≠ some k) w (w.drew.freeze ⟨g, 0, none⟩ bs.length) := by
  unfold World.freeze
  split
  ·exact ⟨rfl, rfl, rfl, Nat.le_refl _, fun _ _ => rfl⟩
  ·refine ⟨rfl, rfl, rfl, by simp [hd], fun k hk => ?_⟩
   have hkg : g ≠ k := fun e => hk.2.2 (by rw [e]; rfl)
   simp only [Array.getElem?_modify]
   rw [if_neg hkg, hd]
 have mixed := L.mixed
 have t72 := L.t72; have a72 := L.a72; have z72 := L.z72; have v72 := L.v72; have u72 := run_underlying L.t72
 have t70 := L.t70; have a70 := L.a70; have z70 := L.z70; have v70 := L.v70; have u70 := run_underlying L.t70
 have t37 := L.t37; have a37 := L.a37; have z37 := L.z37; have v37 := L.v37; have u37 := run_underlying L.t37
 have t127 := L.t127; have a127 := L.a127; have z127 := L.z127; have v127 := L.v127; have u127 := run_underlying L.t127
 have t3 := L.t3; have a3 := L.a3; have z3 := L.z3; have v3 := L.v3; have u3 := run_underlying L.t3
 have t9 := L.t9; have a9 := L.a9; have z9 := L.z9; have v9 := L.v9; have u9 := run_underlying L.t9
 have t5 := X.t5; have a5 := X.a5; have z5 := X.z5; have v5 := X.v5; have u5 := run_underlying X.t5
 go_enter L.f169, Body.n169_ntmps ρ
 go_wp2
 go_region_o
 all_goals (go_wp2; go_ret; exact ⟨rfl, hfz⟩)
set_option maxHeartbeats 1000000 in
set_option maxRecDepth 100000 in
theorem wr_none (L : Lays.n169 P ρ) (X : Builder.Extra P ρ) (h : WrAt T (ρ.t 5) b p v [] w) :
  Calls P (ρ.f 169) #[wrP b] w fun en w' => en = .returned (.string ⟨#[]⟩) ∧ Same (fun k => k < w.heap.size ∧ k ≠ b ∧ v.ownBlock ≠ some k) w w' := by
 unfold wrP
 have hv := h.2.2.2.2 rfl
 subst hv
 have hd : w.drew.heap = w.heap := rfl
 have c1 : w.drew.cell? ⟨b, 1, none⟩ = some (.slice none 0 0) := by simp [World.cell?, hd, h.2.1]
 have hSD : (Builtin.unsafeSliceData_ #[(ρ.t 37)] (ρ.t 127) #[.slice none 0 0]).run P w.drew = .ok (.pointer none) w.drew := Lib.run_unsafeSliceData_nil _ _ _ _ _
 have hUS := Any.unsafeString_none L X w.drew none
 have mixed := L.mixed
 have t72 := L.t72; have a72 := L.a72; have z72 := L.z72; have v72 := L.v72; have u72 := run_underlying L.t72
 have t70 := L.t70; have a70 := L.a70; have z70 := L.z70; have v70 := L.v70; have u70 := run_underlying L.t70
 have t37 := L.t37; have a37 := L.a37; have z37 := L.z37; have v37 := L.v37; have u37 := run_underlying L.t37
 have t127 := L.t127; have a127 := L.a127; have z127 := L.z127; have v127 := L.v127; have u127 := run_underlying L.t127
 have t3 := L.t3; have a3 := L.a3; have z3 := L.z3; have v3 := L.v3; have u3 := run_underlying L.t3
 have t9 := L.t9; have a9 := L.a9; have z9 := L.z9; have v9 := L.v9; have u9 := run_underlying L.t9
 have t5 := X.t5; have a5 := X.a5; have z5 := X.z5; have v5 := X.v5; have u5 := run_underlying X.t5
 go_enter L.f169, Body.n169_ntmps ρ
 go_wp2
 go_region_o
 all_goals (go_wp2; go_ret; exact ⟨rfl, ⟨rfl, rfl, rfl, Nat.le_refl _, fun _ _ => rfl⟩⟩)
theorem wr_string (L : Lays.n169 P ρ) (X : Builder.Extra P ρ) (h : WrAt T (ρ.t 5) b p v bs w) :
  Calls P (ρ.f 169) #[wrP b] w fun en w' => en = .returned (.string ⟨bs.toArray⟩) ∧ Same (fun k => k < w.heap.size ∧ k ≠ b ∧ v.ownBlock ≠ some k) w w' := by
 by_cases h0 : bs = []
 ·subst h0
  exact wr_none L X h
 ·exact wr_some L X h0 h
theorem WCtr.byte (hg : goodF P (ρ.f 167) = true) (L : Lays.n167 P ρ) (X : Builder.Extra P ρ) (hlies : liesAt P P.depth T (2 / P.cellsOf T) 0 (ρ.t 72) 1 = true) (hTe : T ≠ ρ.t 5) (c : UInt8) : WCtr P T (ρ.t 5) (ρ.f 167) [.int .u8 c.toNat] [c] :=
 WCtr.of_law hg fun b bs p v C w us hr h hl => by
  unfold Reps at hr
  obtain ⟨u, us', rfl, h1, h2⟩ := hr
  unfold Reps at h2
  subst h2
  unfold Rep at h1
  obtain ⟨rfl, _⟩ := h1
  exact wr_byte L X hlies hTe c h hl
theorem WCtr.text (hg : goodF P (ρ.f 166) = true) (L : Lays.n166 P ρ) (X : Builder.Extra P ρ) (hlies : liesAt P P.depth T (2 / P.cellsOf T) 0 (ρ.t 72) 1 = true) (hTe : T ≠ ρ.t 5) (s : List UInt8) : WCtr P T (ρ.t 5) (ρ.f 166) [.str s] s :=
 WCtr.of_law hg fun b bs p v C w us hr h hl => by
  unfold Reps at hr
  obtain ⟨u, us', rfl, h1, h2⟩ := hr
  unfold Reps at h2
  subst h2
  unfold Rep at h1
  obtain ⟨rfl, _⟩ := h1
  exact wr_text L X hlies hTe s h hl
theorem WEnd.of_string (hg : goodF P (ρ.f 169) = true) (L : Lays.n169 P ρ) (X : Builder.Extra P ρ) : WEnd P T (ρ.t 5) (ρ.f 169) := ⟨hg, fun b bs p v w h hl => wr_string L X h⟩
end
end Go.Av
namespace Go.Av
open Go.RowKit (Below)
def Le (x y : AV) : Prop := ∀ (C : CellSet) (w : World) (mu : Mu) (v : Value), Rep C w x mu v → Rep C w y mu v
inductive Les : List AV → List AV → Prop
 | nil : Les [] []
 | cons {x y : AV} {xs ys : List AV} : Le x y → Les xs ys → Les (x :: xs) (y :: ys)
inductive Ler : List AV → List AV → Prop
 | nil : Ler [] []
 | cons {x y : AV} {xs ys : List AV} : Les x.cells y.cells → Ler xs ys → Ler (x :: xs) (y :: ys)
theorem Le.refl (x : AV) : Le x x := fun _ _ _ _ h => h
theorem Les.refl : ∀ xs : List AV, Les xs xs
 | [] => .nil
 | x :: xs => .cons (Le.refl x) (Les.refl xs)
theorem Le.lit (b : Bool) : Le (.lit b) (.bool b) := fun _ _ _ _ h => by unfold Rep at *; exact h
theorem Le.nil (sz : Nat) : Le (.raw (.slice none 0 0)) (.sl sz []) := fun _ _ _ _ h => by
 unfold Rep at *
 exact .inl ⟨⟨none, h⟩, rfl⟩
theorem Les.len {xs ys : List AV} (h : Les xs ys) : xs.length = ys.length := by
 induction h with
 | nil => rfl
 | cons _ _ ih => simp [ih]
theorem Les.reps {C : CellSet} {w : World} {mu : Mu} {xs ys : List AV} (h : Les xs ys) : ∀ {vs : List Value}, Reps C w xs mu vs → Reps C w ys mu vs := by
 induction h with
 | nil => exact fun h => h
 | cons h1 _ ih =>
  intro vs h
  unfold Reps at h ⊢
  obtain ⟨v, vs', k1, k2, k3⟩ := h
  exact ⟨v, vs', k1, h1 _ _ _ _ k2, ih k3⟩
theorem Les.cells {C : CellSet} {w : World} {b : Nat} {xs ys : List AV} (h : Les xs ys) : ∀ {o : Nat}, Cells C w xs b o → Cells C w ys b o := by
 induction h with
 | nil => exact fun h => h
 | cons h1 _ ih =>
  intro o h
  unfold Cells at h ⊢
  obtain ⟨⟨v, k1, k2, k3⟩, k4⟩ := h
  exact ⟨⟨v, k1, k2, h1 _ _ _ _ k3⟩, ih k4⟩
theorem Ler.len {xs ys : List AV} (h : Ler xs ys) : xs.length = ys.length := by
 induction h with
 | nil => rfl
 | cons _ _ ih => simp [ih]
theorem Ler.rows {C : CellSet} {w : World} {sz b : Nat} {xs ys : List AV} (h : Ler xs ys) : ∀ {o : Nat}, Rows C w sz xs b o → Rows C w sz ys b o := by
 induction h with
 | nil => exact fun h => h
 | cons h1 _ ih =>
  intro o h
  rw [rows_cons] at h ⊢
  obtain ⟨⟨k1, k2⟩, k3⟩ := h
  exact ⟨⟨by rw [← h1.len]; exact k1, h1.cells k2⟩, ih k3⟩
theorem Le.agg {xs ys : List AV} (h : Les xs ys) : Le (.agg xs) (.agg ys) := fun _ _ _ _ k => by
 unfold Rep at *
 obtain ⟨vs, k1, k2⟩ := k
 exact ⟨vs, k1, h.reps k2⟩
theorem Le.tuple {xs ys : List AV} (h : Les xs ys) : Le (.tuple xs) (.tuple ys) := fun _ _ _ _ k => by
 unfold Rep at *
 obtain ⟨vs, k1, k2⟩ := k
 exact ⟨vs, k1, h.reps k2⟩
theorem Le.sl {sz : Nat} {xs ys : List AV} (h : Ler xs ys) : Le (.sl sz xs) (.sl sz ys) := fun _ _ _ _ k => by
 unfold Rep at *
 rcases k with ⟨k1, rfl⟩ | ⟨b, o, cap, k1, k2, k3, k4⟩
 ·exact .inl ⟨k1, by cases h; rfl⟩
 ·exact .inr ⟨b, o, cap, by rw [← h.len]; exact k1, by rw [← h.len]; exact k2, k3, h.rows k4⟩
theorem Ctr.le {P : Go.Program} {f : Nat} {args : List AV} {x y : AV} (h : Ctr P f args (fun r => r = x)) (hl : Le x y) : Ctr P f args (fun r => r = y) :=
 ⟨h.good, fun C w vs h1 h2 => (h.out C w vs h1 h2).mono fun e w' hp => by
  obtain ⟨r, v, h3, h4, h5, h6⟩ := hp
  subst h4
  exact ⟨y, v, h3, rfl, h5, hl _ _ _ _ h6⟩⟩
theorem ACall.le {P : Program} {f : FuncId} {args args' : List AV} {E : List AV} {H : List HO} {K : AV → KK} {X : XX} (hl : Les args args') (h : ACall P f args' E H K X) : ACall P f args E H K X :=
 ⟨h.good, fun G C mu a w vs hP hst hr => h.out G C mu a w vs hP hst (hl.reps hr)⟩
section
variable {P : Program} {T : List TY} {E : List AV} {H : List HO} {K : KK} {X : XX}
def stepB : Code → Bool
 | .region _ _ false => true
 | .cond _ _ _ => true
 | .block _ _ => true
 | .scope _ => true
 | .skip => true
 | .label _ => true
 | .exit _ => true
 | .ret => true
 | .seq _ _ => true
 | _ => false
def stepP (P : Program) (T : List TY) (E : List AV) (H : List HO) (K : KK) (X : XX) : Code → Prop
 | .region _ ops false => regK P T ops.toList ops.toList E H K X
 | .cond c x y => evK E c fun v => match v with
  | .lit t => (match t with | true => ACode P x E H K X | false => ACode P y E H K X)
  | .bool t => (t = true → ACode P x E H K X) ∧ (t = false → ACode P y E H K X)
  | _ => False
 | .block id b => ACode P b E H K fun e E H => match e with
  | .exit i => (match Nat.beq i id with | true => K E H | false => X (.exit i) E H)
  | .ret => X .ret E H
  | .panic x => X (.panic x) E H
 | .scope b => ACode P b E H K X
 | .skip => K E H
 | .label _ => K E H
 | .exit id => X (.exit id) E H
 | .ret => X .ret E H
 | .seq x y => ACode P x E H (fun E H => ACode P y E H K X) X
 | _ => False
theorem ACode.st {c : Code} (hT : TOk P T) (hb : stepB c = true) (h : stepP P T E H K X c) : ACode P c E H K X := by
 unfold stepB at hb
 split at hb
 ·exact ACode.s_reg hT h
 ·exact ACode.s_cond h
 ·exact ACode.s_block h
 ·exact ACode.s_scope h
 ·exact ACode.s_skip h
 ·exact ACode.s_label h
 ·exact ACode.s_exit h
 ·exact ACode.s_ret h
 ·exact ACode.seq h
 ·cases hb
end
end Go.Av
