/-
  AV: a region whose order is open, in which a part of a call's result may be taken before or behind a store through a pointer.
-/
import Derived.Test.YtmhlneeboefkgaaDoorKf
set_option linter.unusedSimpArgs false
set_option linter.unusedVariables false
set_option linter.unusedSectionVars false
namespace Go.Av
section
variable {G : Cx} {C : CellSet} {w w' : World} {mu : Mu} {H : List HO} {E : List AV} {a : Act} {T : List TY} {P : Program} {ops : Array Oper} {n0 i j : Nat} {o oi oj : Oper} {we : List Nat} {K : KK} {X : XX}
def exB (o : Oper) : Bool := match o.op with | .extract (.tmp _) _ => o.guard.isNone && o.dst.isSome | _ => false
def stB (o : Oper) : Bool := match o.op with | .store _ (.tmp _) (.tmp _) => o.guard.isNone && o.dst.isNone | _ => false
def swB (oi oj : Oper) : Bool := (mvB oi && apB oj) || (exB oi && stB oj)
/-- A store goes through a pointer. -/
def StOK (E : List AV) (o : Oper) : Prop := match o.op with | .store _ a _ => (match evD E a with | .ptr _ _ => True | _ => False) | _ => True
def stoK (E : List AV) (o : Oper) (Q : Prop) : Prop := match o.op with | .store _ a _ => evK E a fun p => (match p with | .ptr _ _ => Q | _ => False) | _ => Q
theorem stoK_iff {E : List AV} {o : Oper} {Q : Prop} : stoK E o Q ↔ StOK E o ∧ Q := by
  unfold stoK StOK
  split
  · rw [evK_iff]
    split <;> simp
  · simp
theorem once_store {t : TypeId} {ad x : Operand} {K : AV → KK} {l k : Nat} (hp : evD E ad = .ptr l k) (h : storeK T E H t ad x K) :
    ∃ H', K (.raw undef) E H' ∧ ∀ (E2 : List AV), evD E2 ad = evD E ad → evD E2 x = evD E x → ∀ K' : AV → KK, K' (.raw undef) E2 H' → storeK T E2 H t ad x K' := by
  unfold storeK at h
  obtain ⟨y, hy, h⟩ := (lkK_iff _ _ _).1 h
  rw [evK_iff, evK_iff, cellsK_iff, hp] at h
  split at h
  case h_2 => exact h.elim
  rename_i hc
  simp only at h
  obtain ⟨ob, hob, h⟩ := (lkK_iff _ _ _).1 h
  split at h
  case h_2 => exact h.elim
  split at h
  case h_2 => exact h.elim
  rename_i hb
  rw [putsK_iff, updK_iff] at h
  refine ⟨_, h, fun E2 e1 e2 K' k => ?_⟩
  unfold storeK
  refine (lkK_iff _ _ _).2 ⟨y, hy, ?_⟩
  rw [evK_iff, evK_iff, cellsK_iff, e1, e2, hp]
  simp only [hc]
  refine (lkK_iff _ _ _).2 ⟨_, hob, ?_⟩
  simp only [hb]
  rw [putsK_iff, updK_iff]
  exact k
theorem ex_over (hmi : exB oi = true) (hmj : stB oj = true) (p1 : ∀ t, oi.dst = some t → t ∉ oj.looksAt ops) {Kw : KK}
    (h : stK P T ops.toList n0 i oi E H fun E' H' => StOK E' oj ∧ wstK P T ops.toList oj E' H' Kw X) : StOK E oj ∧ wstK P T ops.toList oj E H (fun E1 H1 => stK P T ops.toList n0 i oi E1 H1 Kw) X := by
  obtain ⟨idst, iop, ity, ipos, iaft, igd⟩ := oi
  obtain ⟨jdst, jop, jty, jpos, jaft, jgd⟩ := oj
  unfold exB at hmi
  unfold stB at hmj
  simp only at hmi hmj
  cases iop <;> first | cases hmi | skip
  rename_i x m
  cases x <;> first | cases hmi | skip
  rename_i s
  cases igd <;> simp at hmi
  cases idst <;> simp at hmi
  rename_i d
  cases jop <;> first | cases hmj | skip
  rename_i st ad xx
  cases ad <;> first | cases hmj | skip
  rename_i ta
  cases xx <;> first | cases hmj | skip
  rename_i tx
  cases jgd <;> simp at hmj
  subst hmj
  have hd := p1 d rfl
  have q1 : (Operand.tmp ta) ≠ .tmp d := fun e => hd (by cases e; simp [Oper.looksAt, Op.operands])
  have q2 : (Operand.tmp tx) ≠ .tmp d := fun e => hd (by cases e; simp [Oper.looksAt, Op.operands])
  have ev1 : ∀ {v : AV} {x : Operand}, x ≠ .tmp d → evD (E.set d v) x = evD E x := fun {v x} hx => by
    have := evD_upd (E := E) (d := some d) (x := v) (y := x) (fun t ht he => hx (by cases ht; exact he))
    simpa [updO] using this
  have ex : ∀ {E : List AV} {H : List HO} {K : KK}, stK P T ops.toList n0 i { dst := some d, op := .extract (.tmp s) m, type := ity, pos := ipos, after := iaft, guard := none } E H K ↔ ∃ vs v, evD E (.tmp s) = .tuple vs ∧ vs[m]? = some v ∧ nbK v fun v => K (E.set d v) H := fun {E H K} => by
    unfold stK gd2 rK pureK
    simp only [evK_iff, setOK, updOK_iff, updO]
    constructor
    · intro h
      split at h
      · rename_i vs hv
        obtain ⟨v, hv2, h⟩ := (lkK_iff _ _ _).1 h
        rw [AV.force_iff] at h
        exact ⟨vs, v, hv, hv2, h⟩
      · exact h.elim
    · intro ⟨vs, v, hv, hv2, h⟩
      rw [hv]
      refine (lkK_iff _ _ _).2 ⟨v, hv2, ?_⟩
      rw [AV.force_iff]
      exact h
  rw [ex] at h
  obtain ⟨vs, v, hv, hv2, h⟩ := h
  obtain ⟨u, ⟨h0, h1⟩, hu, _, _⟩ := once_nb h
  unfold StOK at h0 ⊢
  simp only at h0 ⊢
  rw [ev1 q1] at h0
  refine ⟨h0, ?_⟩
  have wst : ∀ {E : List AV} {H : List HO} {K : KK} {l k : Nat}, evD E (.tmp ta) = .ptr l k → (wstK P T ops.toList { dst := none, op := .store st (.tmp ta) (.tmp tx), type := jty, pos := jpos, after := jaft, guard := none } E H K X ↔ storeK T E H st (.tmp ta) (.tmp tx) (fun v E' H' => nbK v fun v => K E' H')) := fun {E H K l k} hp => by
    unfold wstK gd2 opK
    simp only [evK_iff, hp, updOK]
  generalize hp : evD E (.tmp ta) = p at h0
  cases p <;> first | cases h0 | skip
  rename_i l k
  rw [wst (by rw [ev1 q1]; exact hp)] at h1
  rw [wst hp]
  obtain ⟨H', h2, h3⟩ := once_store (by rw [ev1 q1]; exact hp) h1
  refine h3 E (ev1 q1).symm (ev1 q2).symm _ ?_
  unfold nbK at h2 ⊢
  simp only at h2 ⊢
  rw [ex]
  exact ⟨vs, v, hv, hv2, hu _ h2⟩
theorem sw_over (hm : swB oi oj = true) (p1 : ∀ t, oi.dst = some t → t ∉ oj.looksAt ops) (p2 : ∀ t, oi.dst = some t → oj.dst ≠ some t) (p3 : ∀ t, oj.dst = some t → t ∉ oi.looksAt ops) {Kw : KK}
    (h : stK P T ops.toList n0 i oi E H fun E' H' => StOK E' oj ∧ wstK P T ops.toList oj E' H' Kw X) : StOK E oj ∧ wstK P T ops.toList oj E H (fun E1 H1 => stK P T ops.toList n0 i oi E1 H1 Kw) X := by
  unfold swB at hm
  rcases Bool.or_eq_true _ _ ▸ hm with hm | hm
  · rw [Bool.and_eq_true] at hm
    refine ⟨?_, mv_over hm.1 hm.2 p1 p2 p3 (stK_mono h fun _ _ k => k.2)⟩
    have h2 := hm.2
    unfold apB at h2
    unfold StOK
    split
    · rename_i hop; rw [hop] at h2; simp at h2
    · trivial
  · rw [Bool.and_eq_true] at hm
    exact ex_over hm.1 hm.2 p1 h
def rdK2 (P : Program) (T : List TY) (ops : List Oper) (n0 : Nat) (we : List Nat) : Nat → List Oper → List AV → List HO → KK → XX → Prop
  | _, [], E, H, K, _ => K E H
  | i, o :: r, E, H, K, X => match memB we i with
    | false => stK P T ops n0 i o E H fun E H => rdK2 P T ops n0 we (i + 1) r E H K X
    | true => stoK E o (gd2 ops E o.guard (opK none P T E H o.op (fun v E' H' => nbK v fun v => updOK E' o.dst v fun E'' => rdK2 P T ops n0 we (i + 1) r E'' H' K X) X)
        (updOK E o.dst (.raw undef) fun E' => rdK2 P T ops n0 we (i + 1) r E' H K X))
theorem stOK_of {ops' : List Oper} {Kw : KK} (h : stoK E o (wstK P T ops' o E H Kw X)) : StOK E o ∧ wstK P T ops' o E H Kw X := stoK_iff.1 h
def dOp2 (P : Program) (T : List TY) (ops : Array Oper) (n0 : Nat) (we : List Nat) (K : KK) (X : XX) (j : Nat) (Kn : KK) (E : List AV) (H : List HO) : Prop :=
  match ops[j]? with
  | none => Kn E H
  | some o => match memB we j with
    | false => stK P T ops.toList n0 j o E H Kn
    | true => ∃ Kw : KK, StOK E o ∧ wstK P T ops.toList o E H Kw X ∧ ∀ E H, Kw E H → Kn E H
def anyD2 (P : Program) (T : List TY) (ops : Array Oper) (n0 : Nat) (we : List Nat) (K : KK) (X : XX) : Nat → Array Bool → List AV → List HO → Prop
  | 0, listed, E, H => Sat P E H → Region.ready .any ops listed = [] ∧ K E H
  | fuel + 1, listed, E, H => Sat P E H → (Region.ready .any ops listed = [] → K E H) ∧
    ∀ i ∈ Region.ready .any ops listed, dOp2 P T ops n0 we K X i (anyD2 P T ops n0 we K X fuel (listed.setIfInBounds i true)) E H
theorem dOp_sound2 (hT : TOk G.P T) {r : Option Nat} {n : Nat} {Kn K : KK} (h : dOp2 G.P T ops n0 we K X i Kn E H) (hst : StC G C mu E H a w) :
    wpOpIn (fw r) n G.P ops (QOf G K X) i (fun a w => ∃ E' H', Kn E' H' ∧ St G E' H' a w) a w := by
  unfold dOp2 at h
  by_cases hwr : (∃ o, ops[i]? = some o) ∧ memB we i = true
  · obtain ⟨⟨o, ho⟩, hm⟩ := hwr
    rw [ho] at h; simp only at h; rw [hm] at h
    obtain ⟨Kw, _, h, hKw⟩ := h
    unfold wstK at h
    unfold wpOpIn
    rw [ho]; simp only
    rcases gd2_sound hst h with ⟨hw, h⟩ | ⟨hw, h⟩
    · rw [if_pos hw]
      refine op_sound hT h hst fun a' w' hp => ?_
      obtain ⟨r, E', H', hk, C', mu', hst'⟩ := hp
      obtain ⟨E1, H1, k1, k2⟩ := nb_sound (Kn := fun E H => Kw E H) hk hst'
      exact ⟨E1, H1, hKw _ _ k1, k2⟩
    · rw [if_neg (by simp [hw])]
      rw [updOK_iff] at h
      exact ⟨fun _ _ => trivial, updO E o.dst (.raw undef), H, hKw _ _ h, C, mu, hst.frame (reps_put hst.env o.dst (by unfold Rep; rfl)) (put_defers _ _ _)⟩
  unfold wpOpIn
  split
  · rename_i ho; rw [ho] at h; exact ⟨E, H, h, C, mu, hst⟩
  · rename_i o ho
    rw [ho] at h
    simp only at h
    split at h
    · rcases st_sound hT ho h hst with ⟨hw, h⟩ | ⟨hw, h⟩
      · rw [if_pos hw]; exact h
      · rw [if_neg (by simp [hw])]; exact ⟨fun _ _ => trivial, h⟩
    · rename_i hm
      exact absurd ⟨⟨o, ho⟩, hm⟩ hwr

theorem anyD_sound2 (hT : TOk G.P T) {r : Option Nat} {n : Nat} : ∀ (fuel : Nat) (listed : Array Bool) (E : List AV) (H : List HO) (a : Act) (w : World), anyD2 G.P T ops n0 we K X fuel listed E H → St G E H a w → wpAnyIn (fw r) n G.P .any ops (QOf G K X) fuel listed a w
  | 0, listed, E, H, a, w, h, hst => by
    unfold anyD2 at h
    obtain ⟨h1, h2⟩ := h ⟨G, a, w, rfl, hst⟩
    exact ⟨h1, E, H, h2, hst⟩
  | fuel + 1, listed, E, H, a, w, h, hst => by
    unfold anyD2 at h
    obtain ⟨h1, h2⟩ := h ⟨G, a, w, rfl, hst⟩
    refine ⟨fun h0 => ⟨E, H, h1 h0, hst⟩, fun i hi => ?_⟩
    obtain ⟨C, mu, hst⟩ := hst
    exact wpOpIn_mono (fun a' w' ⟨E', H', k1, k2⟩ => anyD_sound2 hT fuel _ E' H' a' w' k1 k2) (dOp_sound2 hT (h2 i hi) hst)

theorem anyD_first2 (hT : TOk P T) (hi : ops[i]? = some oi) (hwi : memB we i = false) {U : Nat → Bool} (hUi : U i = true)
    (hUp : ∀ j oj, U j = true → j ≠ i → ops[j]? = some oj → ∃ e ∈ oj.after, Region.binds .any e = true ∧ U e.on = true) :
    ∀ (fuel : Nat) (listed : Array Bool) (E : List AV) (H : List HO), (∀ j, U j = true → listed.getD j false = false) →
      (∀ j oj, ops[j]? = some oj → U j = false → listed.getD j true = false → (memB we j = false ∨ swB oi oj = true) ∧ oi.apart ops oj = true) →
      i ∈ Region.ready .any ops listed → stK P T ops.toList n0 i oi E H (anyD2 P T ops n0 we K X fuel (listed.setIfInBounds i true)) → anyD2 P T ops n0 we K X (fuel + 1) listed E H := by
  intro fuel
  induction fuel with
  | zero =>
    intro listed E H hU hap hr h
    unfold anyD2
    intro hs
    refine ⟨fun h0 => (by rw [h0] at hr; cases hr), fun j hj => ?_⟩
    by_cases hji : j = i
    · subst hji; unfold dOp2; rw [hi]; simp only; rw [hwi]; exact h
    · obtain ⟨hjun, oj, hoj, hall⟩ := mem_ready.1 hj
      have hUj : U j = false := by
        cases hu : U j with
        | false => rfl
        | true =>
          obtain ⟨e, he, hb, hue⟩ := hUp j oj hu hji hoj
          have := hall e he hb
          rw [hU _ hue] at this; cases this
      obtain ⟨hwj, hapj⟩ := hap j oj hoj hUj hjun
      exfalso
      obtain ⟨vi, obi, di, ki, ti⟩ := once_st h
      have hs' : Sat P (updO E oi.dst vi) (setO H (n0 + i) obi) := st_sat hT hi (ti E H ⟨fun _ _ => rfl, fun _ _ _ _ _ _ _ => rfl⟩ (fun _ _ _ _ _ h => h) rfl _ ⟨rfl, rfl⟩) hs
      unfold anyD2 at ki
      have := ready_mono hj hji
      rw [(ki hs').1] at this; cases this
  | succ fuel ih =>
    intro listed E H hU hap hr h
    unfold anyD2
    intro hs
    refine ⟨fun h0 => (by rw [h0] at hr; cases hr), fun j hj => ?_⟩
    by_cases hji : j = i
    · subst hji; unfold dOp2; rw [hi]; simp only; rw [hwi]; exact h
    · obtain ⟨hjun, oj, hoj, hall⟩ := mem_ready.1 hj
      have hUj : U j = false := by
        cases hu : U j with
        | false => rfl
        | true =>
          obtain ⟨e, he, hb, hue⟩ := hUp j oj hu hji hoj
          have := hall e he hb
          rw [hU _ hue] at this; cases this
      obtain ⟨hwj, hapj⟩ := hap j oj hoj hUj hjun
      have rest : ∀ E1 H1, stK P T ops.toList n0 i oi E1 H1 (anyD2 P T ops n0 we K X fuel ((listed.setIfInBounds j true).setIfInBounds i true)) → anyD2 P T ops n0 we K X (fuel + 1) (listed.setIfInBounds j true) E1 H1 := fun E1 H1 k => by
        refine ih (listed.setIfInBounds j true) E1 H1 (fun k hk => ?_) (fun k ok hk hu hun => ?_) (ready_mono hr (Ne.symm hji)) k
        · have hne : j ≠ k := fun he => by subst he; rw [hUj] at hk; cases hk
          rw [getD_set_ne false hne]; exact hU k hk
        · refine hap k ok hk hu ?_
          by_cases hjk : j = k
          · subst hjk; exact hjun
          · rw [getD_set_ne true hjk] at hun; exact hun
      unfold dOp2
      rw [hoj]; simp only
      cases hmw : memB we j with
      | false =>
        simp only
        have hc := st_comm (Kj := anyD2 P T ops n0 we K X fuel ((listed.setIfInBounds i true).setIfInBounds j true)) hT hs hi hoj (Ne.symm hji) hapj h fun E' H' hs' k => by
          unfold anyD2 at k
          have := (k hs').2 j (ready_mono hj hji)
          unfold dOp2 at this
          rw [hoj] at this; simp only at this; rw [hmw] at this; exact this
        refine stK_mono hc fun E1 H1 k => rest E1 H1 ?_
        rw [Array.setIfInBounds_comm _ _ hji]; exact k
      | true =>
        simp only
        have hmv : swB oi oj = true := by
          rcases hwj with k | k
          · rw [hmw] at k; cases k
          · simpa using k
        obtain ⟨p1, p2, p3⟩ := Oper.apart_spec hapj
        obtain ⟨vi, obi, di, ki, ti⟩ := once_st h
        have refl : AgreeG ops.toList E E oi := ⟨fun _ _ => rfl, fun _ _ _ _ _ _ _ => rfl⟩
        have hs' : Sat P (updO E oi.dst vi) (setO H (n0 + i) obi) := st_sat hT hi (ti E H refl (fun _ _ _ _ _ h => h) rfl _ ⟨rfl, rfl⟩) hs
        unfold anyD2 at ki
        have hd := (ki hs').2 j (ready_mono hj hji)
        unfold dOp2 at hd
        rw [hoj] at hd; simp only at hd; rw [hmw] at hd
        obtain ⟨Kw, hw0, hw1, hw2⟩ := hd
        have h3 := ti E H refl (fun _ _ _ _ _ h => h) rfl (fun E' H' => StOK E' oj ∧ wstK P T ops.toList oj E' H' Kw X) ⟨hw0, hw1⟩
        obtain ⟨h4, h5⟩ := sw_over hmv p1 p2 p3 h3
        refine ⟨_, h4, h5, fun E1 H1 k => rest E1 H1 (stK_mono k fun E2 H2 k2 => ?_)⟩
        rw [Array.setIfInBounds_comm _ _ hji]
        exact hw2 _ _ k2

def firstB2 (ops : Array Oper) (we : List Nat) (listed : Array Bool) (k : Nat) (U : List Nat) : Bool :=
  match ops[k]? with
  | none => false
  | some ok => memB U k && (List.range ops.size).all (fun j => (!memB U j || (!listed.getD j false)) && match ops[j]? with
      | none => true
      | some oj => (match memB U j with
        | true => Nat.beq j k || oj.after.any (fun e => Region.binds .any e && memB U e.on)
        | false => listed.getD j true || ((!memB we j || swB ok oj) && ok.apart ops oj))) && U.all fun j => decide (j < ops.size)
def lexD2 (ops : Array Oper) (we : List Nat) : Nat → Nat → Array Bool → Bool
  | 0, _, listed => (Region.ready .any ops listed).isEmpty
  | fuel + 1, k, listed => (match memB we k with
    | true => (Region.ready .any ops listed == [k])
    | false => (Region.ready .any ops listed).contains k && firstB2 ops we listed k (upSet ops k)) && lexD2 ops we fuel (k + 1) (listed.setIfInBounds k true)
def drawB2 (ops : Array Oper) (we : List Nat) : Bool := lexD2 ops we ops.size 0 (Array.replicate ops.size false)
theorem anyD_lex2 (hT : TOk P T) : ∀ (l : List Oper) (k : Nat) (listed : Array Bool) (E : List AV) (H : List HO), (∀ j, l[j]? = ops[k + j]?) →
    lexD2 ops we l.length k listed = true → rdK2 P T ops.toList n0 we k l E H K X → anyD2 P T ops n0 we K X l.length listed E H
  | [], k, listed, E, H, _, hB, h => by
    unfold anyD2
    unfold rdK2 at h
    exact fun _ => ⟨by simpa [lexD2] using hB, h⟩
  | o :: l, k, listed, E, H, hl, hB, h => by
    have h0 : ops[k]? = some o := by simpa using (hl 0).symm
    have hl' : ∀ j, l[j]? = ops[k + 1 + j]? := fun j => by have := hl (j + 1); simpa [Nat.add_assoc, Nat.add_comm 1 j] using this
    simp only [List.length_cons, lexD2, Bool.and_eq_true] at hB
    obtain ⟨hB1, hB2⟩ := hB
    unfold rdK2 at h
    cases hw : memB we k with
    | false =>
      rw [hw] at h hB1
      simp only [Bool.and_eq_true] at hB1 h
      obtain ⟨hr, hf⟩ := hB1
      unfold firstB2 at hf
      rw [h0] at hf
      simp only [Bool.and_eq_true, List.all_eq_true, List.mem_range] at hf
      obtain ⟨⟨hUk, hall⟩, hlt⟩ := hf
      have lt : ∀ j, memB (upSet ops k) j = true → j < ops.size := fun j hj => by simpa using hlt j (memB_mem hj)
      refine anyD_first2 hT h0 hw (U := memB (upSet ops k)) hUk (fun j oj hu hjk hoj => ?_) l.length listed E H (fun j hu => ?_) (fun j oj hoj hu hun => ?_) (by simpa using hr) (stK_mono h fun E' H' h' => anyD_lex2 hT l (k + 1) _ E' H' hl' hB2 h')
      · have := (hall j (lt j hu)).2
        rw [hoj] at this
        simp only [hu] at this
        simp only [Bool.or_eq_true] at this
        rcases this with h1 | h1
        · exact absurd (Nat.eq_of_beq_eq_true h1) hjk
        · obtain ⟨e, he, h2⟩ := Array.any_eq_true'.1 h1
          simp only [Bool.and_eq_true] at h2
          exact ⟨e, he, h2⟩
      · have := (hall j (lt j hu)).1
        simpa [hu] using this
      · have hjl := (Array.getElem?_eq_some_iff.1 hoj).1
        have := (hall j hjl).2
        rw [hoj] at this
        simp only [hu] at this
        simp only [hun, Bool.or_eq_true, Bool.and_eq_true, Bool.not_eq_true', Bool.false_eq_true, false_or] at this
        simpa using this
    | true =>
      rw [hw] at h hB1
      simp only at h hB1
      have hr : Region.ready .any ops listed = [k] := by simpa using hB1
      unfold anyD2
      intro hs
      refine ⟨fun h0 => (by rw [hr] at h0; cases h0), fun j hj => ?_⟩
      rw [hr] at hj
      obtain rfl : j = k := by simpa using hj
      unfold dOp2
      rw [h0]; simp only; rw [hw]; simp only
      exact ⟨_, (stOK_of h).1, (stOK_of h).2, fun E1 H1 hh => anyD_lex2 hT l (j + 1) _ E1 H1 hl' hB2 hh⟩

theorem ACode.draw2 {id : Nat} (we : List Nat) (hT : TOk P T) (hm : P.follows .mixedOrders = true) (hB : drawB2 ops we = true)
    (h : rdK2 P T ops.toList H.length we 0 ops.toList E (H ++ List.replicate ops.size .dead) K X) : ACode P (.region id ops true) E H K X := by
  refine ⟨fun n G a w hP hst => ?_⟩
  subst hP
  obtain ⟨C, mu, hst⟩ := hst
  have hst' : StC G C mu E H a w.drew := hst.drew
  have hs2 := hst'.pad [] ops.size
  rw [pads_nil] at hs2
  have h1 := anyD_lex2 (ops := ops) (n0 := H.length) (we := we) (K := K) (X := X) hT ops.toList 0 (Array.replicate ops.size false) E _ (by simp) (by simpa [drawB2] using hB) h
  refine wpIn_region_any hm ?_
  have h2 := anyD_sound2 (r := G.rd) (n := n) hT _ _ _ _ a _ h1 ⟨C, mu, hs2⟩
  simpa using h2
end
end Go.Av
