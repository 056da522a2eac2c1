/-
  AV: contracts of the library's functions, as the kit's shelf has them, read as contracts of ours.
-/
import Derived.Test.YtobdkjjakdjnaaaDoorKd
import Derived.Shelf.Strings.FuncGrows
import Derived.Shelf.Strings.OnBuilder
import Derived.Shelf.Strconv.Itoa3
set_option linter.unusedSimpArgs false
set_option linter.unusedVariables false
namespace Go.Av
open Go.RowKit (Below)
open Go.Proofs Go.Shelf
theorem ext_later {C : CellSet} {w W : World} (hlt : ∀ b o, C b o → b < w.heap.size) (hb : Below w.heap.size w W) : Ext C C w W :=
  ⟨fun _ _ h => h, fun b o v hc hv => by rw [World.cell?_of_block]; exact hv; exact hb.block b (hlt b o hc)⟩
theorem predGrows_of_ctr {P : Program} {g : Nat} {p : Nat → Bool} {cap : List AV} (h : ∀ x : Nat, x ≤ 1114111 → Ctr P g (.int .i32 x :: cap) (fun r => r = .bool (p x)))
    {C : CellSet} {w : World} {vs : List Value} (hlt : ∀ b o, C b o → b < w.heap.size) (hr : Reps C w cap Mu.none vs) : PredGrows P g vs.toArray p w := by
  intro W x hx hb
  have hx' : Ext C C w W := ext_later hlt hb
  have hcap := Reps.mono hx' cap (MuLe.refl Mu.none) hr
  have hall : Reps C W (.int .i32 x :: cap) Mu.none (encR x :: vs) := by
    unfold Reps
    refine ⟨encR x, vs, rfl, ?_, hcap⟩
    unfold Rep
    refine ⟨rfl, ?_⟩
    unfold inK IntKind.min IntKind.max
    simp [IntKind.signed, IntKind.bits]
    omega
  have hc := (h x hx).out C W (encR x :: vs) (fun b o hc => Nat.lt_of_lt_of_le (hlt b o hc) hb.size) hall
  have e : (encR x :: vs).toArray = #[encR x] ++ vs.toArray := by simp
  rw [e] at hc
  refine hc.mono fun e w' ⟨r, v, h1, h2, h3, h4⟩ => ?_
  subst h2
  unfold Rep at h4
  exact ⟨by rw [h1, h4], h3⟩
theorem containsFunc_ctr {P : Program} {ρ : Ren} (L : LaysGw.n17 P ρ) {f g : Nat} (hf : ρ.f 17 = f) (hg : goodF P f = true) (eg : ∀ args w, (callFunc g args).run P w = .ok (.enter g args) w)
    {p : Nat → Bool} {cap : List AV} (h : ∀ x : Nat, x ≤ 1114111 → Ctr P g (.int .i32 x :: cap) (fun r => r = .bool (p x))) (s : List UInt8) :
    Ctr P f [.str s, .fn g cap] (fun r => r = .bool (decide (0 ≤ Lib.idxFunc p true ⟨s.toArray⟩))) := by
  refine ⟨hg, fun C w vs hlt hr => ?_⟩
  unfold Reps at hr
  obtain ⟨v1, _, rfl, h1, hr⟩ := hr
  unfold Reps at hr
  obtain ⟨v2, _, rfl, h2, hr⟩ := hr
  unfold Reps at hr
  subst hr
  unfold Rep at h1 h2
  obtain ⟨rfl, _⟩ := h1
  obtain ⟨us, rfl, hu⟩ := h2
  subst hf
  refine (Any.strings_ContainsFunc_grows L g us.toArray eg p ⟨s.toArray⟩ w (predGrows_of_ctr h hlt hu)).mono fun e w' ⟨h3, h4⟩ => ?_
  exact ⟨_, _, h3, rfl, h4, by unfold Rep; rfl⟩
theorem itoa_ctr {P : Program} {ρ : Ren} (L : Lays.n171 P ρ) {f : Nat} (hf : ρ.f 171 = f) (hg : goodF P f = true) (i : Nat) (hi : i < 100) (hl : (Lib.decDigits i).length ≤ 9223372036854775807) :
    Ctr P f [.int .i64 i] (fun r => r = .str (Lib.decDigits i)) := by
  refine ⟨hg, fun C w vs hlt hr => ?_⟩
  unfold Reps at hr
  obtain ⟨v1, _, rfl, h1, hr⟩ := hr
  unfold Reps at hr
  subst hr
  unfold Rep at h1
  obtain ⟨rfl, _⟩ := h1
  subst hf
  refine (Any.strconv_Itoa_small L i hi w).mono fun e w' ⟨h3, h4⟩ => ?_
  subst h4
  exact ⟨_, _, h3, rfl, Below.refl _ _, by unfold Rep; exact ⟨rfl, hl⟩⟩
theorem rows_strs {C : CellSet} {w : World} : ∀ {l : List (List UInt8)} {b o : Nat}, Rows C w 1 (l.map AV.str) b o →
    ∀ (j : Nat) x, (l.map fun s => (⟨s.toArray⟩ : ByteArray))[j]? = some x → C b (o + j) ∧ w.cell? ⟨b, o + j, none⟩ = some (.string x)
  | [], _, _, _, j, x, hj => by simp at hj
  | s :: l, b, o, h, j, x, hj => by
    simp only [List.map_cons] at h hj
    unfold Rows at h
    obtain ⟨_, ⟨v, _, hc, hv⟩, hr⟩ := h
    cases j with
    | zero =>
      unfold Rep at hv
      obtain ⟨rfl, _⟩ := hv
      simp at hj; subst hj
      exact hc
    | succ j =>
      have := rows_strs hr j x (by simpa using hj)
      rw [show o + (j + 1) = o + 1 + j by omega]; exact this
theorem join_ctr {P : Program} {ρ : Ren} (L : Lays.n156 P ρ) (X : Builder.Extra P ρ) {f : Nat} (hf : ρ.f 156 = f) (hg : goodF P f = true) (l : List (List UInt8)) (sep : List UInt8)
    (hN : l.length ≤ 140737488355328) (hlen : (Lib.join l sep).length ≤ 140737488355328) :
    Ctr P f [.sl 1 (l.map AV.str), .str sep] (fun r => r = .str (Lib.join l sep)) := by
  refine ⟨hg, fun C w vs hlt hr => ?_⟩
  unfold Reps at hr
  obtain ⟨v1, _, rfl, h1, hr⟩ := hr
  unfold Reps at hr
  obtain ⟨v2, _, rfl, h2, hr⟩ := hr
  unfold Reps at hr
  subst hr
  unfold Rep at h1 h2
  obtain ⟨rfl, _⟩ := h2
  subst hf
  have e0 : (l.map fun s => (⟨s.toArray⟩ : ByteArray)).map (·.data.toList) = l := by rw [List.map_map]; simp [Function.comp_def]
  have none' : ∀ a c, l = [] → Calls P (ρ.f 156) [Value.slice a 0 c, Value.string ⟨sep.toArray⟩].toArray w fun e w' => ∃ r v, e = .returned v ∧ r = AV.str (Lib.join l sep) ∧ Below w.heap.size w w' ∧ Rep (newC C w.heap.size w'.heap.size) w' r Mu.none v := fun a c hl => by
    refine (Any.strings_Join_none L X a c ⟨sep.toArray⟩ w).mono fun e w' ⟨h3, h4⟩ => ?_
    subst h4; subst hl
    exact ⟨_, _, h3, rfl, Below.refl _ _, by unfold Rep; exact ⟨rfl, by simp [Lib.join]⟩⟩
  rcases h1 with ⟨⟨a, rfl⟩, he⟩ | ⟨b, o, cap, rfl, hcap, _, hrows⟩
  · exact none' a 0 (by simpa using he)
  · by_cases hl : l = []
    · subst hl; exact none' _ _ rfl
    · have hc := rows_strs hrows
      have hb : b < w.heap.size := by
        cases l with
        | nil => exact absurd rfl hl
        | cons s l => exact hlt b _ (hc 0 _ rfl).1
      have hj := Any.strings_Join L X b o cap (l.map fun s => (⟨s.toArray⟩ : ByteArray)) ⟨sep.toArray⟩ w (fun j x h => (hc j x h).2) hb (by simpa using hN) (by simpa using hcap) (by rw [e0]; exact hlen)
      rw [e0] at hj
      have e1 : (l.map fun s => (⟨s.toArray⟩ : ByteArray)).length = (l.map AV.str).length := by simp
      rw [e1] at hj
      refine hj.mono fun e w' ⟨h3, h4⟩ => ?_
      exact ⟨_, _, h3, rfl, h4, by unfold Rep; exact ⟨rfl, by omega⟩⟩
end Go.Av

set_option linter.unusedSimpArgs false
set_option linter.unusedVariables false
set_option linter.unusedSectionVars false
namespace Go.Av
open Go.RowKit (Below)
/-- The same, a nil slice seen as one without elements. -/
def nle0 : AV → AV → Prop
  | .raw (.slice none 0 0), .sl _ [] => True
  | x, y => x = y
def nles0 : List AV → List AV → Prop
  | [], [] => True
  | x :: xs, y :: ys => nle0 x y ∧ nles0 xs ys
  | _, _ => False
def nle : AV → AV → Prop
  | .agg cs, .agg ds => nles0 cs ds
  | x, y => nle0 x y
def nles : List AV → List AV → Prop
  | [], [] => True
  | x :: xs, y :: ys => nle x y ∧ nles xs ys
  | _, _ => False
section
variable {C : CellSet} {w : World} {mu : Mu}
theorem nle0_rep (x y : AV) {v : Value} (h : nle0 x y) (hr : Rep C w x mu v) : Rep C w y mu v := by
  unfold nle0 at h
  split at h
  · unfold Rep at hr ⊢
    exact .inl ⟨⟨none, hr⟩, rfl⟩
  · subst h; exact hr
theorem nles0_rep : ∀ (xs ys : List AV) {vs : List Value}, nles0 xs ys → Reps C w xs mu vs → Reps C w ys mu vs
  | [], [], vs, _, hr => hr
  | x :: xs, y :: ys, vs, h, hr => by
    unfold Reps at hr ⊢
    obtain ⟨v, vs', h1, h2, h3⟩ := hr
    exact ⟨v, vs', h1, nle0_rep x y h.1 h2, nles0_rep xs ys h.2 h3⟩
  | [], _ :: _, _, h, _ => h.elim
  | _ :: _, [], _, h, _ => h.elim
theorem nle_rep (x y : AV) {v : Value} (h : nle x y) (hr : Rep C w x mu v) : Rep C w y mu v := by
  unfold nle at h
  split at h
  · unfold Rep at hr ⊢
    obtain ⟨vs, h1, h2⟩ := hr
    exact ⟨vs, h1, nles0_rep _ _ h h2⟩
  · exact nle0_rep _ _ h hr
theorem nles_rep : ∀ (xs ys : List AV) {vs : List Value}, nles xs ys → Reps C w xs mu vs → Reps C w ys mu vs
  | [], [], vs, _, hr => hr
  | x :: xs, y :: ys, vs, h, hr => by
    unfold Reps at hr ⊢
    obtain ⟨v, vs', h1, h2, h3⟩ := hr
    exact ⟨v, vs', h1, nle_rep x y h.1 h2, nles_rep xs ys h.2 h3⟩
  | [], _ :: _, _, h, _ => h.elim
  | _ :: _, [], _, h, _ => h.elim
end
/-- A call, its arguments seen otherwise. -/
theorem ACall.args {P : Program} {f : FuncId} {args args' : List AV} {E : List AV} {H : List HO} {K : AV → KK} {X : XX} (hl : nles args args') (h : ACall P f args' E H K X) : ACall P f args E H K X :=
  ⟨h.good, fun G C mu a w vs hP hst hr => h.out G C mu a w vs hP hst (nles_rep _ _ hl hr)⟩
end Go.Av

set_option linter.unusedSimpArgs false
set_option linter.unusedVariables false
set_option linter.unusedSectionVars false
namespace Go.Av
/-- The fields of a value of a struct type. -/
def TydF (P : Program) (m : Nat) : List TypeId → List (List AV) → Prop
  | [], [] => True
  | t :: ts, p :: ps => Tyd P m t p ∧ TydF P m ts ps
  | _, _ => False
section
variable {P : Program}
theorem tydF_of {m : Nat} : ∀ (fs : List Field) (parts : List (List AV)), parts.length = fs.length → (∀ (i : Nat) f p, fs[i]? = some f → parts[i]? = some p → Tyd P m f.type p) → TydF P m (fs.map (·.type)) parts
  | [], [], _, _ => trivial
  | f :: fs, p :: ps, hl, h => ⟨h 0 f p rfl rfl, tydF_of fs ps (by simpa using hl) fun i f p h1 h2 => h (i + 1) f p (by simpa using h1) (by simpa using h2)⟩
  | [], _ :: _, hl, _ => by simp at hl
  | _ :: _, [], hl, _ => by simp at hl
theorem tyd_fields {t : TypeId} {fs : Array Field} {ts : List TypeId} {m : Nat} {cs : List AV} (hu : P.underlying t = some (.struct fs)) (hts : fs.toList.map (·.type) = ts) (h : Tyd P (m + 1) t cs) :
    ∃ parts, cs = parts.flatten ∧ TydF P m ts parts := by
  unfold Tyd at h
  rw [hu] at h
  obtain ⟨parts, h1, h2, h3⟩ := h
  refine ⟨parts, h1, ?_⟩
  rw [← hts]
  exact tydF_of fs.toList parts (by simpa using h2) fun i f p e1 e2 => h3 i f p (by simpa using e1) e2
theorem tyd_struct {t : TypeId} {fs : Array Field} {ts : List TypeId} {m : Nat} {x : AV} (hu : P.underlying t = some (.struct fs)) (hts : fs.toList.map (·.type) = ts) (h : TydV P (m + 1) t x) :
    ∃ parts, x = .agg parts.flatten ∧ TydF P m ts parts := by
  obtain ⟨c, rfl⟩ := h.2.1 (by simp [isAggB, hu])
  obtain ⟨parts, h1, h2⟩ := tyd_fields hu hts h.1
  exact ⟨parts, by rw [← h1]; rfl, h2⟩
theorem tydF_cons {m : Nat} {t : TypeId} {ts : List TypeId} {ps : List (List AV)} (h : TydF P m (t :: ts) ps) : ∃ p r, ps = p :: r ∧ Tyd P m t p ∧ TydF P m ts r := by
  cases ps with
  | nil => exact h.elim
  | cons p r => exact ⟨p, r, rfl, h.1, h.2⟩
theorem tydF_nil {m : Nat} {ps : List (List AV)} (h : TydF P m [] ps) : ps = [] := by
  cases ps with
  | nil => rfl
  | cons p r => exact h.elim
theorem cell_int {t : TypeId} {k : IntKind} {m : Nat} {p : List AV} (hu : P.underlying t = some (.int k)) (h : Tyd P (m + 1) t p) : ∃ n, p = [.int k n] ∧ inK k n := by
  unfold Tyd at h; rw [hu] at h; exact h
theorem cell_bool {t : TypeId} {m : Nat} {p : List AV} (hu : P.underlying t = some .bool) (h : Tyd P (m + 1) t p) : ∃ b, p = [.bool b] := by
  unfold Tyd at h; rw [hu] at h; exact h
theorem cell_str {t : TypeId} {m : Nat} {p : List AV} (hu : P.underlying t = some .string) (h : Tyd P (m + 1) t p) : ∃ l, p = [.str l] ∧ l.length ≤ maxLen := by
  unfold Tyd at h; rw [hu] at h; exact h
theorem cell_slice {t e : TypeId} {m : Nat} {p : List AV} (hu : P.underlying t = some (.slice e)) (h : Tyd P (m + 1) t p) : ∃ es : List AV, p = [.sl (P.cellsOf e) es] ∧ es.length ≤ maxLen ∧ ∀ y ∈ es, TydV P m e y := by
  unfold Tyd at h; rw [hu] at h; exact h
theorem cell_ints {t e : TypeId} {k : IntKind} {m : Nat} {p : List AV} (hu : P.underlying t = some (.slice e)) (he : P.underlying e = some (.int k)) (hc : P.cellsOf e = 1) (h : Tyd P (m + 2) t p) :
    ∃ l : List Int, p = [.sl 1 (l.map (.int k))] ∧ l.length ≤ maxLen ∧ ∀ n ∈ l, inK k n := by
  obtain ⟨es, rfl, h1, h2⟩ := cell_slice hu h
  obtain ⟨l, rfl, h3⟩ := list_form (f := AV.int k) (p := inK k) fun y hy => tyd_int he (h2 y hy)
  exact ⟨l, by rw [hc], by simpa using h1, h3⟩
theorem cell_strs {t e : TypeId} {m : Nat} {p : List AV} (hu : P.underlying t = some (.slice e)) (he : P.underlying e = some .string) (hc : P.cellsOf e = 1) (h : Tyd P (m + 2) t p) :
    ∃ l : List (List UInt8), p = [.sl 1 (l.map .str)] ∧ l.length ≤ maxLen ∧ ∀ s ∈ l, s.length ≤ maxLen := by
  obtain ⟨es, rfl, h1, h2⟩ := cell_slice hu h
  obtain ⟨l, rfl, h3⟩ := list_form (f := AV.str) (p := fun s => s.length ≤ maxLen) fun y hy => tyd_str he (h2 y hy)
  exact ⟨l, by rw [hc], by simpa using h1, h3⟩
end
end Go.Av
