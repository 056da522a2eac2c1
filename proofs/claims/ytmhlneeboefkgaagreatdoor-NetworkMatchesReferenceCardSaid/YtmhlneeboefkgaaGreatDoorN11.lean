import Derived.Test.YtmhlneeboefkgaaGreatDoorN10
set_option linter.unusedVariables false
set_option linter.unusedSimpArgs false
set_option linter.unusedSectionVars false
namespace Go.Proofs.YtmhlneeboefkgaaGreatDoor
open Go.Av Go.Av.Net
/-! ### Methods of the parser, as parsers -/
section
variable {α β : Type} {ts : List Tok} {len i : Nat} {v : V6}
/-- A method of the parser computes what a parser says: the result; or the panic. -/
def MCtr (f : Nat) (args : List AV) (ts : List Tok) (len i : Nat) (q : PR β) (enc : β → AV) : Prop :=
 ∀ v : V6, HCtr Tryz.prog f args (PQr ts len i v) (fun r H => ∃ a j, q = .ok a j ∧ j ≤ ts.length ∧ r = enc a ∧ H = PQr ts len j v) (fun x H => ∃ e k j, q = .fail e k ∧ k ≤ ts.length ∧ x = failA ts len e k ∧ H = PQr ts len j v)
variable {E : List AV} {H : List HO} {g : Nat} {args : List AV} {q : PR β} {p : PR α} {f : β → Nat → PR α} {enc : β → AV} {K : AV → KK} {X : XX} {A B C D E' F : AV}
theorem of_mq {R : β → Nat → Prop} {R2 : Int → Nat → Nat → Prop} (h : MCtr g args ts len i q enc) (hw : ∀ c, withins (oneK 4 c) args = true)
  (hl : H[4]? = some (.cells [.sl 3 (toksA ts), .int .i64 i, .int .i64 len, A, B, C, D, E', F]))
  (hX : ∀ (j : Nat) e k, q = .fail e k → k ≤ ts.length → updK H 4 (.cells [.sl 3 (toksA ts), .int .i64 j, .int .i64 len, A, B, C, D, E', F]) fun H' => X (.panic (failA ts len e k)) E H')
  (hk : ∀ a (j : Nat), q = .ok a j → j ≤ ts.length → updK H 4 (.cells [.sl 3 (toksA ts), .int .i64 j, .int .i64 len, A, B, C, D, E', F]) fun H' => K (enc a) E H') : ACall Tryz.prog g args E H K X := by
 have h9 : ∀ vs : List Value, vs.length = 9 → ∃ x y z, ∃ v : V6, vs = [x, y, z, v.a, v.b, v.c, v.d, v.e, v.f] := by
  intro vs hvs
  match vs, hvs with
  | [x, y, z, a, b, c, d, e, f], _ => exact ⟨x, y, z, ⟨a, b, c, d, e, f⟩, rfl⟩
 refine ACall.of_hr (l := 4) [false, false, false, true, true, true, true, true, true] (R := fun vs r H1 => ∃ a j, q = .ok a j ∧ j ≤ ts.length ∧ r = enc a ∧ ∃ x y z, ∃ v : V6, vs = [x, y, z, v.a, v.b, v.c, v.d, v.e, v.f] ∧ H1 = PQr ts len j v)
  (X' := fun vs r H1 => ∃ e k j, q = .fail e k ∧ k ≤ ts.length ∧ r = failA ts len e k ∧ ∃ x y z, ∃ v : V6, vs = [x, y, z, v.a, v.b, v.c, v.d, v.e, v.f] ∧ H1 = PQr ts len j v) hl rfl ?_ hw ?_ ?_ ?_
 ·intro vs hvs
  obtain ⟨x, y, z, v, rfl⟩ := h9 vs hvs
  exact ⟨(h v).good, fun C mu w us h1 h2 h3 => ((h v).out C mu w us h1 h2 h3).mono fun e w' ⟨r, u, H1, C', mu', ho, rest⟩ =>
   ⟨r, u, H1, C', mu', ho.imp (fun ⟨q1, a, j, q2, q3, q4, q5⟩ => ⟨q1, a, j, q2, q3, q4, x, y, z, v, rfl, q5⟩) (fun ⟨q1, e, k, j, q2, q3, q4, q5⟩ => ⟨q1, e, k, j, q2, q3, q4, x, y, z, v, rfl, q5⟩), rest⟩⟩
 ·intro vs hvs
  obtain ⟨x, y, z, v, rfl⟩ := h9 vs hvs
  rfl
 ·rintro vs r H1 hvs ⟨a, j, q1, q2, rfl, x, y, z, v, rfl, rfl⟩
  exact ⟨[.sl 3 (toksA ts), .int .i64 j, .int .i64 len, A, B, C, D, E', F], rfl, rfl, hk a j q1 q2⟩
 ·rintro vs r H1 hvs ⟨e, k, j, q1, q2, rfl, x, y, z, v, rfl, rfl⟩
  exact ⟨[.sl 3 (toksA ts), .int .i64 j, .int .i64 len, A, B, C, D, E', F], rfl, rfl, hX j e k q1 q2⟩
theorem _root_.Go.Av.ACall.of_m (h : MCtr g args ts len i q enc) (hp : p = q.bind f) (hw : ∀ c, withins (oneK 4 c) args = true)
  (hl : H[4]? = some (.cells [.sl 3 (toksA ts), .int .i64 i, .int .i64 len, A, B, C, D, E', F]))
  (hX : ∀ (j : Nat) e k, p = .fail e k → k ≤ ts.length → updK H 4 (.cells [.sl 3 (toksA ts), .int .i64 j, .int .i64 len, A, B, C, D, E', F]) fun H' => X (.panic (failA ts len e k)) E H')
  (hk : ∀ a (j : Nat), q = .ok a j → p = f a j → j ≤ ts.length → updK H 4 (.cells [.sl 3 (toksA ts), .int .i64 j, .int .i64 len, A, B, C, D, E', F]) fun H' => K (enc a) E H') : ACall Tryz.prog g args E H K X :=
 of_mq (R := fun _ _ => True) (R2 := fun _ _ _ => True) h hw hl (fun j e k h1 h2 => hX j e k (by rw [hp, h1]; rfl) h2) (fun a j h1 h2 => hk a j h1 (by rw [hp, h1]; rfl) h2)
theorem _root_.Go.Av.ACall.of_m0 {b : β} (h : MCtr g args ts len i (.ok b i) enc) (hw : ∀ c, withins (oneK 4 c) args = true)
  (hl : H[4]? = some (.cells [.sl 3 (toksA ts), .int .i64 i, .int .i64 len, A, B, C, D, E', F]))
  (hk : updK H 4 (.cells [.sl 3 (toksA ts), .int .i64 i, .int .i64 len, A, B, C, D, E', F]) fun H' => K (enc b) E H') : ACall Tryz.prog g args E H K X :=
 of_mq (R := fun _ _ => True) (R2 := fun _ _ _ => True) h hw hl (fun j e k h1 h2 => by cases h1) (fun a j h1 h2 => by cases h1; exact hk)
end
theorem _root_.Go.Av.HCtr.mono' {P : Go.Program} {f : Nat} {args : List AV} {H0 : List HO} {R R' X X' : AV → List HO → Prop} (h : HCtr P f args H0 R X) (hR : ∀ r H, R r H → R' r H) (hX : ∀ r H, X r H → X' r H) : HCtr P f args H0 R' X' :=
 ⟨h.good, fun C mu w vs h1 h2 h3 => (h.out C mu w vs h1 h2 h3).mono fun e w' ⟨r, v, H1, C', mu', ho, rest⟩ =>
  ⟨r, v, H1, C', mu', ho.imp (fun h => ⟨h.1, hR _ _ h.2⟩) (fun h => ⟨h.1, hX _ _ h.2⟩), rest⟩⟩
theorem expectP_of (ts : List Tok) (k : Int) (x : Bs) (i : Nat) : expectP (kts ts) k x i = if seesP (kts ts) k x i = true then .ok () (i + 1) else .fail (if i < ts.length then 90 else 91) i := by
 unfold expectP wrongP
 cases seesP (kts ts) k x i with
 | true => rfl
 | false =>
  simp only [cond_false, Bool.false_eq_true, if_false]
  by_cases h : i < ts.length
  ·rw [kts_lt ts i h, if_pos h]
  ·rw [kts_ge ts i (by omega), if_neg h]
theorem sees_le {ts : List Tok} {k : Int} {x : Bs} {i : Nat} (h : seesP (kts ts) k x i = true) : i < ts.length := by
 rcases Nat.lt_or_ge i ts.length with h' | h'
 ·exact h'
 ·rw [sees_ge ts k x i h'] at h; cases h
section
variable (ts : List Tok) (len i : Nat) (x : Bs) (hl : ts.length ≤ 3000) (hi : i ≤ ts.length)
include hl hi
theorem word_m : MCtr 37 [.ptr 4 0, .str x] ts len i (expectP (kts ts) 1 x i) (fun _ => .tuple []) := by
 refine fun v => (word_spec ts len i v x hl hi).mono' (fun r H ⟨h0, h, h'⟩ => ?_) (fun r H ⟨h, h', h2⟩ => ?_)
 ·exact ⟨(), i + 1, by rw [expectP_of, if_pos h], sees_le h, h0, h'⟩
 ·exact ⟨_, i, i, by rw [expectP_of, if_neg (by simp [h])], hi, h', h2⟩
theorem symbol_m : MCtr 39 [.ptr 4 0, .str x] ts len i (expectP (kts ts) 3 x i) (fun _ => .tuple []) := by
 refine fun v => (symbol_spec ts len i v x hl hi).mono' (fun r H ⟨h0, h, h'⟩ => ?_) (fun r H ⟨h, h', h2⟩ => ?_)
 ·exact ⟨(), i + 1, by rw [expectP_of, if_pos h], sees_le h, h0, h'⟩
 ·exact ⟨_, i, i, by rw [expectP_of, if_neg (by simp [h])], hi, h', h2⟩
theorem has_m : MCtr 36 [.ptr 4 0, .str x] ts len i (.ok (seesP (kts ts) 1 x i) i) .bool :=
 fun v => (has_spec ts len i v x hl hi).mono' (fun r H ⟨b, h, h', h2⟩ => ⟨_, i, rfl, hi, by rw [h, h'], h2⟩) (fun r H h => h.elim)
theorem hasSymbol_m : MCtr 48 [.ptr 4 0, .str x] ts len i (.ok (seesP (kts ts) 3 x i) i) .bool :=
 fun v => (hasSymbol_spec ts len i v x hl hi).mono' (fun r H ⟨b, h, h', h2⟩ => ⟨_, i, rfl, hi, by rw [h, h'], h2⟩) (fun r H h => h.elim)
theorem wrong_m : MCtr 17 [.ptr 4 0] ts len i (.fail (if i < ts.length then 90 else 91) i : PR Unit) (fun _ => .tuple []) :=
 fun v => (wrong_spec ts len i v hl hi).mono' (fun r H h => h.elim) (fun r H ⟨h, h'⟩ => ⟨_, i, i, rfl, hi, h, h'⟩)
end
def peekP (ts : List Tok) (i : Nat) : PR Tok := match ts[i]? with | some t => .ok t i | none => .fail 91 i
theorem peek_m (ts : List Tok) (len i : Nat) (hl : ts.length ≤ 3000) (hi : i ≤ ts.length) : MCtr 51 [.ptr 4 0] ts len i (peekP ts i) tokA := by
 refine fun v => (peek_spec ts len i v hl hi).mono' (fun r H ⟨h, h0, h'⟩ => ?_) (fun r H ⟨h, h', h2⟩ => ?_)
 ·exact ⟨ts[i], i, by unfold peekP; rw [List.getElem?_eq_getElem h], hi, h0, h'⟩
 ·exact ⟨_, i, i, by unfold peekP; rw [List.getElem?_eq_none h], hi, h', h2⟩
theorem _root_.Go.Av.ACall.of_wrong {α : Type} (ts : List Tok) (len i : Nat) (hl : ts.length ≤ 3000) (hi : i ≤ ts.length) {p : PR α} (hp : p = .fail (if i < ts.length then 90 else 91) i) {E : List AV} {H : List HO} {K : AV → KK} {X : XX} {A B C D E' F : AV}
  (h4 : H[4]? = some (.cells [.sl 3 (toksA ts), .int .i64 i, .int .i64 len, A, B, C, D, E', F]))
  (hX : ∀ (j : Nat) e k, p = .fail e k → k ≤ ts.length → updK H 4 (.cells [.sl 3 (toksA ts), .int .i64 j, .int .i64 len, A, B, C, D, E', F]) fun H' => X (.panic (failA ts len e k)) E H') : ACall Tryz.prog 17 [.ptr 4 0] E H K X :=
 of_mq (R := fun _ _ => True) (R2 := fun _ _ _ => True) (wrong_m ts len i hl hi) (fun _ => rfl) h4 (fun j e k h1 h2 => by cases h1; exact hX j _ _ hp h2) (fun a j h1 h2 => by cases h1)
/-- The tokens of a text. -/
def TokOK (t : Tok) : Prop := t.text.length ≤ 8000 ∧ (t.kind = 2 → 1 ≤ t.text.length ∧ t.text.length ≤ 8 ∧ ∀ b ∈ t.text, digB b = true)
structure TsOK (ts : List Tok) : Prop where
 len : ts.length ≤ 3000
 tok : ∀ t ∈ ts, TokOK t
theorem nameP_lt {ts : List Tok} {i : Nat} {x : Bs} {j : Nat} (h : nameP (kts ts) i = .ok x j) : i < ts.length := by
 rcases Nat.lt_or_ge i ts.length with h' | h'
 ·exact h'
 ·unfold nameP at h; rw [kts_ge ts i h'] at h; cases h
theorem codeP_lt {ts : List Tok} {i : Nat} {x : Bs} {j : Nat} (h : codeP (kts ts) i = .ok x j) : i < ts.length := by
 rcases Nat.lt_or_ge i ts.length with h' | h'
 ·exact h'
 ·unfold codeP at h; rw [kts_ge ts i h'] at h; cases h
section
variable (ts : List Tok) (len i : Nat) (ht : TsOK ts) (hi : i ≤ ts.length)
include ht hi
theorem name_m : MCtr 38 [.ptr 4 0] ts len i (nameP (kts ts) i) .str :=
 fun v => (name_spec ts len i v ht.len hi (fun t h => (ht.tok t h).1)).mono' (fun r H ⟨x, h, h', h2⟩ => ⟨x, i + 1, h, nameP_lt h, h', h2⟩) (fun r H ⟨e, h, h', h2⟩ => ⟨e, i, i, h, hi, h', h2⟩)
theorem code_m : MCtr 47 [.ptr 4 0] ts len i (codeP (kts ts) i) .str :=
 fun v => (code_spec ts len i v ht.len hi (fun t h => (ht.tok t h).1)).mono' (fun r H ⟨x, h, h', h2⟩ => ⟨x, i + 1, h, codeP_lt h, h', h2⟩) (fun r H ⟨e, h, h', h2⟩ => ⟨e, i, i, h, hi, h', h2⟩)
end
end Go.Proofs.YtmhlneeboefkgaaGreatDoor
