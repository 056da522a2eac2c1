/-
  AV: a region whose order is open, every order by itself (for regions in which a call stands beside operations that read).
-/
import Derived.Test.YtmhlneeboefkgaaDoorKf
set_option linter.unusedSimpArgs false
set_option linter.unusedVariables false
set_option linter.unusedSectionVars false
namespace Go.Av
/-- The orders: which operation comes first, and what then; the other ones that may come first. -/
inductive OT where
  | done
  | none
  | one (j : Nat) (t r : OT)
def OT.isNone : OT → Bool
  | .none => true
  | _ => false
section
variable {G : Cx} {C : CellSet} {w w' : World} {mu : Mu} {H : List HO} {E : List AV} {a : Act} {T : List TY} {P : Program} {ops : Array Oper} {K : KK} {X : XX}
def okT (ops : Array Oper) : OT → Nat → Array Bool → List Nat → Bool
  | .done, _, listed, rs => rs.isEmpty && (Region.ready .any ops listed).isEmpty
  | .none, _, _, rs => rs.isEmpty
  | .one j t r, f + 1, listed, i :: rs => Nat.beq i j && !t.isNone && okT ops t f (listed.setIfInBounds j true) (Region.ready .any ops (listed.setIfInBounds j true)) && okT ops r (f + 1) listed rs
  | .one _ _ _, _, _, _ => false
def drawT (ops : Array Oper) (t : OT) : Bool := !t.isNone && okT ops t ops.size (Array.replicate ops.size false) (Region.ready .any ops (Array.replicate ops.size false))
def enT (P : Program) (T : List TY) (ops : List Oper) (K : KK) (X : XX) : OT → List AV → List HO → Prop
  | .done, E, H => K E H
  | .none, _, _ => True
  | .one j t r, E, H => (∃ o Kw, ops[j]? = some o ∧ wstK P T ops o E H Kw X ∧ ∀ E' H', Kw E' H' → enT P T ops K X t E' H') ∧ enT P T ops K X r E H
/-- The same, closed; one step of it. -/
structure EnF (P : Program) (T : List TY) (ops : List Oper) (K : KK) (X : XX) (t : OT) (E : List AV) (H : List HO) : Prop where
  out : enT P T ops K X t E H
def en1 (P : Program) (T : List TY) (ops : List Oper) (K : KK) (X : XX) (t : OT) (E : List AV) (H : List HO) : Prop :=
  match t with
  | .done => K E H
  | .none => True
  | .one j t r => (lkK ops j fun o => wstK P T ops o E H (fun E' H' => EnF P T ops K X t E' H') X) ∧ EnF P T ops K X r E H
theorem EnF.step {lops : List Oper} {t : OT} (h : en1 P T lops K X t E H) : EnF P T lops K X t E H := by
  cases t with
  | done => exact ⟨h⟩
  | none => exact ⟨h⟩
  | one j t r =>
    obtain ⟨h1, h2⟩ := h
    replace h1 := (lkK_iff _ _ _).1 h1; obtain ⟨o, ho, h1⟩ := h1
    exact ⟨⟨o, _, ho, h1, fun _ _ h => h.out⟩, h2.out⟩
def allW : Nat → List Nat
  | 0 => []
  | n + 1 => n :: allW n
theorem allW_mem : ∀ {n i : Nat}, i < n → memB (allW n) i = true
  | n + 1, i, h => by
    unfold allW memB
    split
    · rfl
    · rename_i hb
      have := Nat.ne_of_beq_eq_false hb
      exact allW_mem (by omega)
theorem en_any {n0 : Nat} : ∀ (t : OT) (f : Nat) (listed : Array Bool) (rs : List Nat) (E : List AV) (H : List HO), okT ops t f listed rs = true → enT P T ops.toList K X t E H →
    (∀ i ∈ rs, ∃ f', f = f' + 1 ∧ dOp P T ops n0 (allW ops.size) K X i (anyD P T ops n0 (allW ops.size) K X f' (listed.setIfInBounds i true)) E H) ∧ (t.isNone = false → rs = Region.ready .any ops listed → anyD P T ops n0 (allW ops.size) K X f listed E H)
  | .done, f, listed, rs, E, H, hB, h => by
    unfold okT at hB
    simp only [Bool.and_eq_true, List.isEmpty_iff] at hB
    obtain ⟨rfl, hr⟩ := hB
    refine ⟨fun i hi => by simp at hi, fun _ _ => ?_⟩
    cases f with
    | zero => unfold anyD; exact fun _ => ⟨hr, h⟩
    | succ f => unfold anyD; exact fun _ => ⟨fun _ => h, fun i hi => by rw [hr] at hi; simp at hi⟩
  | .none, f, listed, rs, E, H, hB, h => by
    unfold okT at hB
    simp only [List.isEmpty_iff] at hB
    subst hB
    exact ⟨fun i hi => by simp at hi, fun hn => by cases hn⟩
  | .one j t r, f, listed, rs, E, H, hB, h => by
    cases f with
    | zero => unfold okT at hB; cases hB
    | succ f =>
      cases rs with
      | nil => unfold okT at hB; cases hB
      | cons i rs =>
        unfold okT at hB
        simp only [Bool.and_eq_true, Bool.not_eq_true'] at hB
        obtain ⟨⟨⟨h1, h2⟩, h3⟩, h4⟩ := hB
        obtain rfl := Nat.eq_of_beq_eq_true h1
        unfold enT at h
        obtain ⟨k1, k2⟩ := h
        obtain ⟨o, Kw, ho, k1, k3⟩ := k1
        have ho' : ops[i]? = some o := by simpa using ho
        have hlt : i < ops.size := (Array.getElem?_eq_some_iff.1 ho').1
        have hd : dOp P T ops n0 (allW ops.size) K X i (anyD P T ops n0 (allW ops.size) K X f (listed.setIfInBounds i true)) E H := by
          unfold dOp
          rw [ho']; simp only
          rw [allW_mem hlt]; simp only
          exact ⟨_, k1, fun E1 H1 hk => (en_any (n0 := n0) t f _ _ E1 H1 h3 (k3 _ _ hk)).2 h2 rfl⟩
        have hr := (en_any (n0 := n0) r (f + 1) listed rs E H h4 k2).1
        have hall : ∀ i' ∈ i :: rs, ∃ f', f + 1 = f' + 1 ∧ dOp P T ops n0 (allW ops.size) K X i' (anyD P T ops n0 (allW ops.size) K X f' (listed.setIfInBounds i' true)) E H := by
          intro i' hi'
          rcases List.mem_cons.1 hi' with rfl | hi'
          · exact ⟨f, rfl, hd⟩
          · exact hr i' hi'
        refine ⟨hall, fun _ hrs => ?_⟩
        unfold anyD
        refine fun _ => ⟨fun h0 => (by rw [← hrs] at h0; cases h0), fun i' hi' => ?_⟩
        rw [← hrs] at hi'
        obtain ⟨f', e, hh⟩ := hall i' hi'
        cases e
        exact hh
theorem ACode.drawAll {id : Nat} (t : OT) (hT : TOk P T) (hm : P.follows .mixedOrders = true) (hB : drawT ops t = true) (h : EnF P T ops.toList K X t E H) : ACode P (.region id ops true) E H K X := by
  refine ⟨fun n G a w hP hst => ?_⟩
  subst hP
  obtain ⟨C, mu, hst⟩ := hst
  have hst' : StC G C mu E H a w.drew := hst.drew
  unfold drawT at hB
  simp only [Bool.and_eq_true, Bool.not_eq_true'] at hB
  have h1 := (en_any (n0 := H.length) t _ _ _ E H hB.2 h.out).2 hB.1 rfl
  refine wpIn_region_any hm ?_
  have h2 := anyD_sound (r := G.rd) (n := n) hT _ _ _ _ a _ h1 ⟨C, mu, hst'⟩
  simpa using h2
theorem KCode.drawAll {id : Nat} (t : OT) (hT : TOk P T) (hm : P.follows .mixedOrders = true) (hq : (ops.toList.all fun o => quietOp o.op) = true) (hB : drawT ops t = true) (h : EnF P T ops.toList K X t E H) : KCode P (.region id ops true) E H K X := by
  refine ⟨fun n G a w d hP hrd hst hd => ?_⟩
  subst hP
  obtain ⟨C, mu, hst⟩ := hst
  have hst' : StC G C mu E H a w.drew := hst.drew
  unfold drawT at hB
  simp only [Bool.and_eq_true, Bool.not_eq_true'] at hB
  have h1 := (en_any (n0 := H.length) t _ _ _ E H hB.2 h.out).2 hB.1 rfl
  refine wpIn_region_any hm ?_
  have h2 := anyD_sound (r := none) (n := n) hT _ _ _ _ a _ h1 ⟨C, mu, hst'⟩
  exact wpAny_keep hq _ _ hd (by simpa using h2)
end
end Go.Av
