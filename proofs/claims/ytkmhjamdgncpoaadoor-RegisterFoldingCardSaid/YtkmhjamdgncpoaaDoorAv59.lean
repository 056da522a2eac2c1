/-
  AV: an open region in an order that is handed over; its operations that write store in elements of one own array, or append to a growing slice: what does not lead there changes places with them.
-/
import Derived.Test.YtkmhjamdgncpoaaDoorAv58
set_option linter.unusedSimpArgs false
set_option linter.unusedVariables false
set_option linter.unusedSectionVars false
namespace Go.Av
section
variable {G : Cx} {C : CellSet} {w w' : World} {mu : Mu} {H : List HO} {E : List AV} {a : Act} {T : List TY} {P : Program} {ops : Array Oper} {n0 i j la : Nat} {o oi oj : Oper} {we nr : List Nat} {K : KK} {X : XX}
/-- An operation that writes at place la. -/
def wrK (T : List TY) (la : Nat) (o : Oper) (E : List AV) (H : List HO) (K : KK) : Prop :=
  match o.guard with
  | some _ => False
  | none => match o.op with
    | .store t ad x => (match o.dst with
      | some _ => False
      | none => evK E ad fun p => (match p with
        | .el l _ _ _ => (l = la ∧ noOwn (evD E x) = true) ∧ storeK T E H t ad x (fun _ E' H' => K E' H')
        | _ => False))
    | .call c => (match c.callee, c.args.toList, c.argTypes.toList with
      | .builtin .append, [s, x], [t, t'] => evK E x fun xv => (match xv with
        | .sl _ _ => la = 0 ∧ tokAppK T E H t t' s x (fun v E' H' => updOK E' o.dst v fun E'' => K E'' H')
        | _ => False)
      | _, _, _ => False)
    | _ => False
theorem onceH_store_el {t : TypeId} {ad x : Operand} {K : AV → KK} {l z i k : Nat} (hp : evD E ad = .el l z i k) (h : storeK T E H t ad x K) :
    ∃ b, K (.raw undef) E (H.set l b) ∧ ∀ (E2 : List AV) (H2 : List HO), evD E2 ad = evD E ad → evD E2 x = evD E x → H2[l]? = H[l]? → ∀ K' : AV → KK, K' (.raw undef) E2 (H2.set l b) → storeK T E2 H2 t ad x K' := by
  unfold storeK at h
  obtain ⟨y, hy, h⟩ := (lkK_iff _ _ _).1 h
  rw [evK_iff, evK_iff, cellsK_iff, hp] at h
  split at h
  case h_2 => exact h.elim
  rename_i hc
  simp only at h
  obtain ⟨ob, hob, h⟩ := (lkK_iff _ _ _).1 h
  split at h
  case h_2 => exact h.elim
  split at h
  case h_2 => exact h.elim
  rename_i hb
  obtain ⟨old, hold, h⟩ := h
  rw [cellsK_iff] at h
  split at h
  case h_2 => exact h.elim
  rename_i hb2
  split at h
  · rename_i hb3
    rw [updK_iff] at h
    refine ⟨_, h, fun E2 H2 e1 e2 e3 K' k => ?_⟩
    unfold storeK
    refine (lkK_iff _ _ _).2 ⟨y, hy, ?_⟩
    rw [evK_iff, evK_iff, cellsK_iff, e1, e2, hp]
    simp only [hc]
    refine (lkK_iff _ _ _).2 ⟨_, by rw [e3]; exact hob, ?_⟩
    simp only [hb]
    refine ⟨old, hold, ?_⟩
    rw [cellsK_iff]
    simp only [hb2, hb3]
    rw [updK_iff]
    exact k
  · rename_i hb3
    rw [putsK_iff, updK_iff] at h
    refine ⟨_, h, fun E2 H2 e1 e2 e3 K' k => ?_⟩
    unfold storeK
    refine (lkK_iff _ _ _).2 ⟨y, hy, ?_⟩
    rw [evK_iff, evK_iff, cellsK_iff, e1, e2, hp]
    simp only [hc]
    refine (lkK_iff _ _ _).2 ⟨_, by rw [e3]; exact hob, ?_⟩
    simp only [hb]
    refine ⟨old, hold, ?_⟩
    rw [cellsK_iff]
    simp only [hb2, hb3]
    rw [putsK_iff, updK_iff]
    exact k
theorem onceH_tok {t t' : TypeId} {s x : Operand} {K : AV → KK} {sz : Nat} {xs : List AV} (hx : evD E x = .sl sz xs) (h : tokAppK T E H t t' s x K) :
    ∃ S : AV → HO → Prop, (∀ v b, S v b → K v E (H.set 0 b)) ∧ ∀ (E2 : List AV) (H2 : List HO), evD E2 s = evD E s → evD E2 x = evD E x → H2[0]? = H[0]? → ∀ K' : AV → KK, (∀ v b, S v b → K' v E2 (H2.set 0 b)) → tokAppK T E2 H2 t t' s x K' := by
  unfold tokAppK at h
  split at h
  case h_2 => exact h.elim
  rename_i ht
  obtain ⟨y, hy, h⟩ := (lkK_iff _ _ _).1 h
  split at h
  case h_2 => exact h.elim
  rename_i e esz by' ag hk
  split at h
  case h_2 => exact h.elim
  rename_i hb
  rw [evK_iff, evK_iff, hx] at h
  obtain ⟨ts, j, sv, es, ss, hq, hs, hre⟩ : ∃ (ts : Tok) (j : Nat) (s' : Sv) (es ss : List (List UInt8)), (evD E s = .raw s'.v ∧ H[0]? = some (.inv (TokI e ts)) ∧ ts[j]? = some (s', es) ∧ xs = ss.map AV.str ∧ 1 ≤ ss.length ∧ (es.length + ss.length) * by' ≤ 140737488355328) ∧
      (∀ s' : Sv, K (.raw s'.v) E (H.set 0 (.inv (TokI e (ts.set j (s', es ++ ss)))))) ∧ ∀ (E2 : List AV) (H2 : List HO), evD E2 s = evD E s → evD E2 x = evD E x → H2[0]? = H[0]? → ∀ K' : AV → KK, (∀ s' : Sv, K' (.raw s'.v) E2 (H2.set 0 (.inv (TokI e (ts.set j (s', es ++ ss)))))) → tokAppK T E2 H2 t t' s x K' := by
    simp only [elemsK] at h
    split at h
    case h_2 => exact h.elim
    rename_i hz
    obtain ⟨z, h, hzz⟩ := once_zero h
    rw [cellsK_iff] at h
    split at h
    case h_2 => exact h.elim
    rename_i hc
    obtain ⟨ts, j, sv, es, ss, hq, h⟩ := h
    refine ⟨ts, j, sv, es, ss, hq, fun s' => by have := h s'; rwa [updK_iff] at this, fun E2 H2 e1 e2 e3 K' k => ?_⟩
    unfold tokAppK
    simp only [ht]
    refine (lkK_iff _ _ _).2 ⟨y, hy, ?_⟩
    simp only [hk, hb]
    rw [evK_iff, evK_iff, e1, e2, hx]
    simp only [elemsK, hz]
    refine hzz _ ?_
    rw [cellsK_iff]
    simp only [hc]
    exact ⟨ts, j, sv, es, ss, ⟨hq.1, by rw [e3]; exact hq.2.1, hq.2.2⟩, fun s' => by rw [updK_iff]; exact k s'⟩
  exact ⟨fun v b => ∃ s' : Sv, v = .raw s'.v ∧ b = .inv (TokI e (ts.set j (s', es ++ ss))), fun v b ⟨s', hv, hb⟩ => by subst hv; subst hb; exact hs s', fun E2 H2 e1 e2 e3 K' k => hre E2 H2 e1 e2 e3 K' fun s' => k _ _ ⟨s', rfl, rfl⟩⟩
theorem once_wr (h : wrK T la o E H K) : ∃ S : AV → HO → Prop, (∀ v b, S v b → K (updO E o.dst v) (H.set la b)) ∧
    ∀ (E2 : List AV) (H2 : List HO), (∀ y ∈ o.op.operands, evD E2 y = evD E y) → H2[la]? = H[la]? → ∀ K' : KK, (∀ v b, S v b → K' (updO E2 o.dst v) (H2.set la b)) → wrK T la o E2 H2 K' := by
  obtain ⟨dst, op, ty, pos, aft, gd⟩ := o
  unfold wrK at h
  cases gd with
  | some g => exact h.elim
  | none =>
    cases op <;> first | exact h.elim | skip
    · rename_i t ad x
      cases dst with
      | some d => exact h.elim
      | none =>
        simp only at h
        rw [evK_iff] at h
        split at h
        case h_2 => exact h.elim
        rename_i l z i k hp
        obtain ⟨⟨rfl, hn⟩, h⟩ := h
        obtain ⟨b, k1, k2⟩ := onceH_store_el hp h
        refine ⟨fun v b' => v = .raw undef ∧ b' = b, fun v b' ⟨hv, hb⟩ => by subst hv; subst hb; exact k1, fun E2 H2 he hl K' k => ?_⟩
        have e1 : evD E2 ad = evD E ad := he ad (by simp [Op.operands])
        have e2 : evD E2 x = evD E x := he x (by simp [Op.operands])
        unfold wrK
        simp only
        rw [evK_iff, e1, hp]
        simp only
        exact ⟨⟨trivial, by rw [e2]; exact hn⟩, k2 E2 H2 e1 e2 hl _ (k _ _ ⟨rfl, rfl⟩)⟩
    · rename_i c
      obtain ⟨cal, args, tys⟩ := c
      simp only at h
      split at h
      case h_2 => exact h.elim
      rename_i s x t t' h2 h3
      rw [evK_iff] at h
      split at h
      case h_2 => exact h.elim
      rename_i sz xs hx
      obtain ⟨rfl, h⟩ := h
      obtain ⟨S, k1, k2⟩ := onceH_tok hx h
      refine ⟨S, fun v b hs => by have := k1 v b hs; rwa [updOK_iff] at this, fun E2 H2 he hl K' k => ?_⟩
      obtain rfl : args = #[s, x] := by cases args; simp_all
      have e1 : evD E2 s = evD E s := he s (by simp [Op.operands, Call.operands])
      have e2 : evD E2 x = evD E x := he x (by simp [Op.operands, Call.operands])
      unfold wrK
      simp only [h3]
      rw [evK_iff, e2, hx]
      simp only
      exact ⟨trivial, k2 E2 H2 e1 e2 hl _ fun v b hs => by rw [updOK_iff]; exact k v b hs⟩
theorem wr_sound (hT : TOk G.P T) (hst : StC G C mu E H a w) {Kn : KK} {r : Option Nat} {n : Nat} (h : wrK T la o E H K) {Kr : KK} (hk : ∀ E H, K E H → Kr E H) :
    Region.wanted o (yielded ops a.tmps) = true ∧ o.wpIn (fw r) n G.P a w (fun a w => ∃ E' H', Kr E' H' ∧ St G E' H' a w) (QOf G Kn X) := by
  obtain ⟨dst, op, ty, pos, aft, gd⟩ := o
  unfold wrK at h
  cases gd with
  | some g => exact h.elim
  | none =>
    refine ⟨by simp [Region.wanted], ?_⟩
    cases op <;> first | exact h.elim | skip
    · rename_i t ad x
      cases dst with
      | some d => exact h.elim
      | none =>
        simp only at h
        rw [evK_iff] at h
        split at h
        case h_2 => exact h.elim
        rename_i l z i k hp
        obtain ⟨⟨rfl, hn⟩, h⟩ := h
        refine op_sound (al := none) (K := fun _ E' H' => K E' H') hT ?_ hst fun a' w' hp => ?_
        · unfold opK
          simp only
          rw [evK_iff, hp]
          simp only
          rw [evK_iff]
          exact (frzV_none hn).2 h
        · obtain ⟨r, E', H', hk', C', mu', hst'⟩ := hp
          exact ⟨E', H', hk _ _ hk', C', mu', by simpa [updO] using hst'⟩
    · rename_i c
      obtain ⟨cal, args, tys⟩ := c
      simp only at h
      split at h
      case h_2 => exact h.elim
      rename_i s x t t' h2 h3
      rw [evK_iff] at h
      split at h
      case h_2 => exact h.elim
      obtain ⟨rfl, h⟩ := h
      refine tokOp_sound (X := X) (Kn := Kn) (K := fun v E' H' => updOK E' dst v fun E'' => K E'' H') hT ?_ hst fun a' w' hp => ?_
      · unfold tokOpK
        simp only [h2, h3]
        exact h
      · obtain ⟨r, E', H', hk', C', mu', hst'⟩ := hp
        rw [updOK_iff] at hk'
        exact ⟨_, H', hk _ _ hk', C', mu', hst'⟩
def refOps (la : Nat) (E : List AV) : List Operand → Bool
  | [] => true
  | y :: r => (match refA la (evD E y) with | true => false | false => refOps la E r)
theorem refOps_mem : ∀ {l : List Operand}, refOps la E l = true → ∀ y ∈ l, refA la (evD E y) = false
  | [], _, y, h => by cases h
  | x :: l, h, y, hy => by
    unfold refOps at h
    split at h
    · cases h
    · rename_i h0
      rcases List.mem_cons.1 hy with rfl | hy
      · exact h0
      · exact refOps_mem h y hy
/-- What does not lead to place la (or moves, or reckons) changes places with what writes there. -/
theorem wr_over (hla : n0 + i ≠ la) (hnr : pvB oi = true ∨ ∀ y ∈ oi.op.operands, refA la (evD E y) = false) (p1 : ∀ t, oi.dst = some t → t ∉ oj.looksAt ops) (p2 : ∀ t, oi.dst = some t → oj.dst ≠ some t) (p3 : ∀ t, oj.dst = some t → t ∉ oi.looksAt ops) {Kw : KK}
    (h : stK P T ops.toList n0 i oi E H fun E' H' => wrK T la oj E' H' Kw) : wrK T la oj E H (fun E1 H1 => (∀ y ∈ oi.op.operands, evD E1 y = evD E y) ∧ stK P T ops.toList n0 i oi E1 H1 Kw) := by
  have key : ∃ vi obi, wrK T la oj (updO E oi.dst vi) (setO H (n0 + i) obi) Kw ∧ ∀ v b, ∀ K' : KK, K' (updO (updO E oj.dst v) oi.dst vi) (setO (H.set la b) (n0 + i) obi) → stK P T ops.toList n0 i oi (updO E oj.dst v) (H.set la b) K' := by
    rcases hnr with hpv | hnr
    · obtain ⟨idst, iop, ity, ipos, iaft, igd⟩ := oi
      unfold pvB at hpv
      simp only at hpv
      obtain ⟨hg, d, hd⟩ : igd = none ∧ ∃ d, idst = some d := by
        cases iop <;> first | cases hpv | skip
        · rename_i x
          cases x <;> first | cases hpv | skip
          cases igd <;> cases idst <;> simp at hpv
          exact ⟨rfl, _, rfl⟩
        · cases igd <;> cases idst <;> simp at hpv
          exact ⟨rfl, _, rfl⟩
      subst hg
      subst hd
      have pv : ∀ {E : List AV} {H : List HO} {K : KK}, stK P T ops.toList n0 i { dst := some d, op := iop, type := ity, pos := ipos, after := iaft, guard := none } E H K ↔ pureK T E H iop fun v => nbK v fun v => K (E.set d v) H := fun {E H K} => by
        cases iop <;> first | cases hpv | skip
        all_goals
          unfold stK gd2 rK pureK
          simp only [evK_iff, setOK, updOK_iff, updO]
      have noH : ∀ {E : List AV} {H H' : List HO} {K : AV → Prop}, pureK T E H iop K → pureK T E H' iop K := fun {E H H' K} h => by
        cases iop <;> first | cases hpv | skip
        all_goals exact h
      rw [pv] at h
      obtain ⟨r, hr, hback⟩ := once_pure h
      obtain ⟨u, h1, hu, _, _⟩ := once_nb hr
      refine ⟨u, none, h1, fun v b K' k => ?_⟩
      rw [pv]
      have ag := agree_upd (o := { dst := some d, op := iop, type := ity, pos := ipos, after := iaft, guard := none }) (ops := ops) (x := v) (E := E) p3
      exact noH (H := H) (hback (updO E oj.dst v) H ag.1 (fun _ _ _ _ _ h => h) _ (hu _ k))
    · obtain ⟨vi, obi, di, ki, ti⟩ := once_st h
      refine ⟨vi, obi, ki, fun v b K' k => ti _ _ (agree_upd p3) (fun y hy l ob hr hl => ?_) (List.getElem?_set_ne (Ne.symm hla)) K' k⟩
      have hne : la ≠ l := fun e => by subst e; rw [hnr y hy] at hr; cases hr
      rw [List.getElem?_set_ne hne]
      exact hl
  obtain ⟨vi, obi, ki, ti⟩ := key
  have ag := agree_upd (x := vi) (E := E) p1
  obtain ⟨S, k1, k2⟩ := once_wr ki
  have hpl : H[la]? = (setO H (n0 + i) obi)[la]? := by
    cases obi with
    | none => rfl
    | some y => simp only [setO]; rw [List.getElem?_set_ne hla]
  refine k2 E H (fun y hy => (ag.1 y hy).symm) hpl _ fun v b hs => ⟨(agree_upd (x := v) (E := E) p3).1, ti v b _ ?_⟩
  have := k1 v b hs
  rw [updO_comm p2] at this
  have e : (setO H (n0 + i) obi).set la b = setO (H.set la b) (n0 + i) obi := by
    cases obi with
    | none => rfl
    | some y => simp only [setO]; exact List.set_comm _ _ hla
  rw [e] at this
  exact this
/-! ### The order that is handed over -/
def dOp3 (P : Program) (T : List TY) (ops : Array Oper) (n0 : Nat) (la : Nat → Nat) (we : List Nat) (j : Nat) (Kn : KK) (E : List AV) (H : List HO) : Prop :=
  match ops[j]? with
  | none => Kn E H
  | some o => match memB we j with
    | false => stK P T ops.toList n0 j o E H Kn
    | true => ∃ Kw : KK, wrK T (la j) o E H Kw ∧ ∀ E H, Kw E H → Kn E H
def anyD3 (P : Program) (T : List TY) (ops : Array Oper) (n0 : Nat) (la : Nat → Nat) (we : List Nat) (K : KK) : Nat → Array Bool → List AV → List HO → Prop
  | 0, listed, E, H => Sat P E H → Region.ready .any ops listed = [] ∧ K E H
  | fuel + 1, listed, E, H => Sat P E H → (Region.ready .any ops listed = [] → K E H) ∧
    ∀ i ∈ Region.ready .any ops listed, dOp3 P T ops n0 la we i (anyD3 P T ops n0 la we K fuel (listed.setIfInBounds i true)) E H
variable {la : Nat → Nat}
theorem dOp_sound3 (hT : TOk G.P T) {r : Option Nat} {n : Nat} {Kn K : KK} (h : dOp3 G.P T ops n0 la we i Kn E H) (hst : StC G C mu E H a w) :
    wpOpIn (fw r) n G.P ops (QOf G K X) i (fun a w => ∃ E' H', Kn E' H' ∧ St G E' H' a w) a w := by
  unfold dOp3 at h
  unfold wpOpIn
  split
  · rename_i ho; rw [ho] at h; exact ⟨E, H, h, C, mu, hst⟩
  · rename_i o ho
    rw [ho] at h
    simp only at h
    split at h
    · rcases st_sound hT ho h hst with ⟨hw, h⟩ | ⟨hw, h⟩
      · rw [if_pos hw]; exact h
      · rw [if_neg (by simp [hw])]; exact ⟨fun _ _ => trivial, h⟩
    · obtain ⟨Kw, h, hKw⟩ := h
      obtain ⟨hw, h⟩ := wr_sound (X := X) (Kn := K) (r := r) (n := n) hT hst (K := Kw) h hKw
      rw [if_pos hw]
      exact h
theorem anyD_sound3 (hT : TOk G.P T) {r : Option Nat} {n : Nat} : ∀ (fuel : Nat) (listed : Array Bool) (E : List AV) (H : List HO) (a : Act) (w : World), anyD3 G.P T ops n0 la we K fuel listed E H → St G E H a w → wpAnyIn (fw r) n G.P .any ops (QOf G K X) fuel listed a w
  | 0, listed, E, H, a, w, h, hst => by
    unfold anyD3 at h
    obtain ⟨h1, h2⟩ := h ⟨G, a, w, rfl, hst⟩
    exact ⟨h1, E, H, h2, hst⟩
  | fuel + 1, listed, E, H, a, w, h, hst => by
    unfold anyD3 at h
    obtain ⟨h1, h2⟩ := h ⟨G, a, w, rfl, hst⟩
    refine ⟨fun h0 => ⟨E, H, h1 h0, hst⟩, fun i hi => ?_⟩
    obtain ⟨C, mu, hst⟩ := hst
    exact wpOpIn_mono (fun a' w' ⟨E', H', k1, k2⟩ => anyD_sound3 hT fuel _ E' H' a' w' k1 k2) (dOp_sound3 hT (h2 i hi) hst)
theorem st_comm3 (hT : TOk P T) (hs : Sat P E H) (hi : ops[i]? = some oi) (hj : ops[j]? = some oj) (hij : i ≠ j) (hap : oi.apart ops oj = true) {Ki Kj : KK}
    (h : stK P T ops.toList n0 i oi E H Ki) (hk : ∀ E' H', Sat P E' H' → Ki E' H' → stK P T ops.toList n0 j oj E' H' Kj) :
    stK P T ops.toList n0 j oj E H fun E1 H1 => (∀ y ∈ oi.op.operands, evD E1 y = evD E y) ∧ stK P T ops.toList n0 i oi E1 H1 Kj := by
  obtain ⟨p1, p2, p3⟩ := Oper.apart_spec hap
  obtain ⟨vi, obi, di, ki, ti⟩ := once_st h
  have refl : ∀ o : Oper, AgreeG ops.toList E E o := fun o => ⟨fun _ _ => rfl, fun _ _ _ _ _ _ _ => rfl⟩
  have hs' : Sat P (updO E oi.dst vi) (setO H (n0 + i) obi) := st_sat hT hi (ti E H (refl oi) (fun _ _ _ _ _ h => h) rfl _ ⟨rfl, rfl⟩) hs
  have h2 := hk _ _ hs' ki
  obtain ⟨vj, obj, dj, kj, tj⟩ := once_st h2
  have ag := agree_upd (x := vi) (E := E) p1
  have dj' : ∀ x, obj = some x → H[n0 + j]? = some .dead := fun x hx => by
    have := dj x hx
    cases obi with
    | none => exact this
    | some y => simp only [setO] at this; rwa [List.getElem?_set_ne (by omega)] at this
  have sne : ∀ (x : Option HO) (s t : Nat), s ≠ t → (setO H s x)[t]? = H[t]? := fun x s t hst => by
    cases x with
    | none => rfl
    | some y => simp only [setO]; rw [List.getElem?_set_ne hst]
  have agj := agree_upd (x := vj) (E := E) p3
  refine tj E H ag.symm (huses_from hs ag.1 di) (sne _ _ _ (by omega)).symm _ ⟨agj.1, ?_⟩
  refine ti _ _ agj (huses_to hs dj') (sne _ _ _ (by omega)) _ ?_
  · rw [updO_comm p2, setO_comm (show n0 + i ≠ n0 + j by omega)] at kj
    exact kj
theorem anyD_first3 (hT : TOk P T) (hla : ∀ j, memB we j = true → la j < n0) (hi : ops[i]? = some oi) (hwi : memB we i = false) {U : Nat → Bool} (hUi : U i = true) {hw : Bool}
    (hUp : ∀ j oj, U j = true → j ≠ i → ops[j]? = some oj → ∃ e ∈ oj.after, Region.binds .any e = true ∧ U e.on = true) :
    ∀ (fuel : Nat) (listed : Array Bool) (E : List AV) (H : List HO), (∀ j, U j = true → listed.getD j false = false) →
      (∀ j oj, ops[j]? = some oj → U j = false → listed.getD j true = false → (memB we j = false ∨ hw = true) ∧ oi.apart ops oj = true) →
      i ∈ Region.ready .any ops listed → (hw = true → pvB oi = true ∨ ∀ j, memB we j = true → ∀ y ∈ oi.op.operands, refA (la j) (evD E y) = false) → stK P T ops.toList n0 i oi E H (anyD3 P T ops n0 la we K fuel (listed.setIfInBounds i true)) → anyD3 P T ops n0 la we K (fuel + 1) listed E H := by
  intro fuel
  induction fuel with
  | zero =>
    intro listed E H hU hap hr hnr h
    unfold anyD3
    intro hs
    refine ⟨fun h0 => (by rw [h0] at hr; cases hr), fun j hj => ?_⟩
    by_cases hji : j = i
    · subst hji; unfold dOp3; rw [hi]; simp only; rw [hwi]; exact h
    · obtain ⟨hjun, oj, hoj, hall⟩ := mem_ready.1 hj
      exfalso
      obtain ⟨vi, obi, di, ki, ti⟩ := once_st h
      have hs' : Sat P (updO E oi.dst vi) (setO H (n0 + i) obi) := st_sat hT hi (ti E H ⟨fun _ _ => rfl, fun _ _ _ _ _ _ _ => rfl⟩ (fun _ _ _ _ _ h => h) rfl _ ⟨rfl, rfl⟩) hs
      unfold anyD3 at ki
      have := ready_mono hj hji
      rw [(ki hs').1] at this; cases this
  | succ fuel ih =>
    intro listed E H hU hap hr hnr h
    unfold anyD3
    intro hs
    refine ⟨fun h0 => (by rw [h0] at hr; cases hr), fun j hj => ?_⟩
    by_cases hji : j = i
    · subst hji; unfold dOp3; rw [hi]; simp only; rw [hwi]; exact h
    · obtain ⟨hjun, oj, hoj, hall⟩ := mem_ready.1 hj
      have hUj : U j = false := by
        cases hu : U j with
        | false => rfl
        | true =>
          obtain ⟨e, he, hb, hue⟩ := hUp j oj hu hji hoj
          have := hall e he hb
          rw [hU _ hue] at this; cases this
      obtain ⟨hwj, hapj⟩ := hap j oj hoj hUj hjun
      have rest : ∀ E1 H1, (∀ y ∈ oi.op.operands, evD E1 y = evD E y) → stK P T ops.toList n0 i oi E1 H1 (anyD3 P T ops n0 la we K fuel ((listed.setIfInBounds j true).setIfInBounds i true)) → anyD3 P T ops n0 la we K (fuel + 1) (listed.setIfInBounds j true) E1 H1 := fun E1 H1 he k => by
        refine ih (listed.setIfInBounds j true) E1 H1 (fun k hk => ?_) (fun k ok hk hu hun => ?_) (ready_mono hr (Ne.symm hji)) (fun h => (hnr h).imp id fun h j hj y hy => by rw [he y hy]; exact h j hj y hy) k
        · have hne : j ≠ k := fun he => by subst he; rw [hUj] at hk; cases hk
          rw [getD_set_ne false hne]; exact hU k hk
        · refine hap k ok hk hu ?_
          by_cases hjk : j = k
          · subst hjk; exact hjun
          · rw [getD_set_ne true hjk] at hun; exact hun
      unfold dOp3
      rw [hoj]; simp only
      cases hmw : memB we j with
      | false =>
        simp only
        have hc := st_comm3 (Kj := anyD3 P T ops n0 la we K fuel ((listed.setIfInBounds i true).setIfInBounds j true)) hT hs hi hoj (Ne.symm hji) hapj h fun E' H' hs' k => by
          unfold anyD3 at k
          have := (k hs').2 j (ready_mono hj hji)
          unfold dOp3 at this
          rw [hoj] at this; simp only at this; rw [hmw] at this; exact this
        refine stK_mono hc fun E1 H1 k => rest E1 H1 k.1 ?_
        rw [Array.setIfInBounds_comm _ _ hji]; exact k.2
      | true =>
        simp only
        have hww : hw = true := by
          rcases hwj with k | k
          · rw [hmw] at k; cases k
          · exact k
        obtain ⟨p1, p2, p3⟩ := Oper.apart_spec hapj
        obtain ⟨vi, obi, di, ki, ti⟩ := once_st h
        have refl : AgreeG ops.toList E E oi := ⟨fun _ _ => rfl, fun _ _ _ _ _ _ _ => rfl⟩
        have hs' : Sat P (updO E oi.dst vi) (setO H (n0 + i) obi) := st_sat hT hi (ti E H refl (fun _ _ _ _ _ h => h) rfl _ ⟨rfl, rfl⟩) hs
        unfold anyD3 at ki
        have hd := (ki hs').2 j (ready_mono hj hji)
        unfold dOp3 at hd
        rw [hoj] at hd; simp only at hd; rw [hmw] at hd
        obtain ⟨Kw, hw1, hw2⟩ := hd
        have h3 := ti E H refl (fun _ _ _ _ _ h => h) rfl (fun E' H' => wrK T (la j) oj E' H' Kw) hw1
        refine ⟨_, wr_over (by have := hla j hmw; omega) ((hnr hww).imp id fun h => h j hmw) p1 p2 p3 h3, fun E1 H1 k => rest E1 H1 k.1 (stK_mono k.2 fun E2 H2 k2 => ?_)⟩
        rw [Array.setIfInBounds_comm _ _ hji]
        exact hw2 _ _ k2
/-- Operation k may come first: all others that are left stand apart from it; 'hw': there are some among them that write. -/
def first3 (ops : Array Oper) (we : List Nat) (listed : Array Bool) (k : Nat) (hw : Bool) (U : List Nat) : Bool :=
  match ops[k]? with
  | none => false
  | some ok => memB U k && (List.range ops.size).all (fun j => (!memB U j || (!listed.getD j false)) && match ops[j]? with
      | none => true
      | some oj => (match memB U j with
        | true => Nat.beq j k || oj.after.any (fun e => Region.binds .any e && memB U e.on)
        | false => listed.getD j true || ((!memB we j || hw) && ok.apart ops oj))) && U.all fun j => decide (j < ops.size)
def ord3 (ops : Array Oper) (we nr : List Nat) : List Nat → Array Bool → Bool
  | [], listed => (Region.ready .any ops listed).isEmpty
  | k :: r, listed => (match memB we k with
    | true => (Region.ready .any ops listed == [k])
    | false => (Region.ready .any ops listed).contains k && first3 ops we listed k (memB nr k || (match ops[k]? with | some o => pvB o | none => false)) (upSet ops k)) && ord3 ops we nr r (listed.setIfInBounds k true)
/-- The run in the order that is handed over; 'we' write at place la, 'nr' do not lead there. -/
def so3 (P : Program) (T : List TY) (ops : List Oper) (n0 : Nat) (la : Nat → Nat) (we nr : List Nat) : List Nat → List AV → List HO → KK → Prop
  | [], E, H, K => K E H
  | k :: r, E, H, K => lkK ops k fun o => match memB we k with
    | false => (match memB nr k with
      | true => (we.all fun j => refOps (la j) E o.op.operands.toList) = true ∧ stK P T ops n0 k o E H fun E H => so3 P T ops n0 la we nr r E H K
      | false => stK P T ops n0 k o E H fun E H => so3 P T ops n0 la we nr r E H K)
    | true => wrK T (la k) o E H (fun E H => so3 P T ops n0 la we nr r E H K)
theorem anyD_ord3 (hT : TOk P T) (hla : ∀ j, memB we j = true → la j < n0) : ∀ (l : List Nat) (listed : Array Bool) (E : List AV) (H : List HO),
    ord3 ops we nr l listed = true → so3 P T ops.toList n0 la we nr l E H K → anyD3 P T ops n0 la we K l.length listed E H
  | [], listed, E, H, hB, h => by
    unfold anyD3
    unfold so3 at h
    exact fun _ => ⟨by simpa [ord3] using hB, h⟩
  | k :: l, listed, E, H, hB, h => by
    simp only [ord3, Bool.and_eq_true] at hB
    obtain ⟨hB1, hB2⟩ := hB
    unfold so3 at h
    replace h := (lkK_iff _ _ _).1 h; obtain ⟨o, h0, h⟩ := h
    have h0 : ops[k]? = some o := by simpa using h0
    cases hw : memB we k with
    | false =>
      rw [hw] at h hB1
      simp only [Bool.and_eq_true] at hB1 h
      obtain ⟨hr, hf⟩ := hB1
      rw [h0] at hf
      simp only at hf
      generalize hww : (memB nr k || pvB o) = ww at hf
      unfold first3 at hf
      rw [h0] at hf
      simp only [Bool.and_eq_true, List.all_eq_true, List.mem_range] at hf
      obtain ⟨⟨hUk, hall⟩, hlt⟩ := hf
      have lt : ∀ j, memB (upSet ops k) j = true → j < ops.size := fun j hj => by simpa using hlt j (memB_mem hj)
      have up : ∀ j oj, memB (upSet ops k) j = true → j ≠ k → ops[j]? = some oj → ∃ e ∈ oj.after, Region.binds .any e = true ∧ memB (upSet ops k) e.on = true := fun j oj hu hjk hoj => by
        have := (hall j (lt j hu)).2
        rw [hoj] at this
        simp only [hu] at this
        simp only [Bool.or_eq_true] at this
        rcases this with h1 | h1
        · exact absurd (Nat.eq_of_beq_eq_true h1) hjk
        · obtain ⟨e, he, h2⟩ := Array.any_eq_true'.1 h1
          simp only [Bool.and_eq_true] at h2
          exact ⟨e, he, h2⟩
      have un : ∀ j, memB (upSet ops k) j = true → listed.getD j false = false := fun j hu => by
        have := (hall j (lt j hu)).1
        simpa [hu] using this
      have apt : ∀ j oj, ops[j]? = some oj → memB (upSet ops k) j = false → listed.getD j true = false → (memB we j = false ∨ ww = true) ∧ o.apart ops oj = true := fun j oj hoj hu hun => by
        have hjl := (Array.getElem?_eq_some_iff.1 hoj).1
        have := (hall j hjl).2
        rw [hoj] at this
        simp only [hu] at this
        simp only [hun, Bool.or_eq_true, Bool.and_eq_true, Bool.not_eq_true', Bool.false_eq_true, false_or] at this
        exact this
      cases hp : memB nr k with
      | false =>
        rw [hp] at h
        refine anyD_first3 hT hla h0 hw (U := memB (upSet ops k)) hUk (hw := ww) up l.length listed E H un apt (by simpa using hr) (fun h => .inl ?_) (stK_mono h fun E' H' h' => anyD_ord3 hT hla l _ E' H' hB2 h')
        rw [hp, Bool.false_or] at hww
        rw [hww]; exact h
      | true =>
        rw [hp] at h
        refine anyD_first3 hT hla h0 hw (U := memB (upSet ops k)) hUk (hw := ww) up l.length listed E H un apt (by simpa using hr) (fun _ => .inr fun j hj y hy => refOps_mem (List.all_eq_true.1 h.1 j (memB_mem hj)) y (by simpa using hy)) (stK_mono h.2 fun E' H' h' => anyD_ord3 hT hla l _ E' H' hB2 h')
    | true =>
      rw [hw] at h hB1
      simp only at h hB1
      have hr : Region.ready .any ops listed = [k] := by simpa using hB1
      show anyD3 P T ops n0 la we K (l.length + 1) listed E H
      unfold anyD3
      intro hs
      refine ⟨fun h0 => (by rw [hr] at h0; cases h0), fun j hj => ?_⟩
      rw [hr] at hj
      obtain rfl : j = k := by simpa using hj
      unfold dOp3
      rw [h0]; simp only; rw [hw]; simp only
      exact ⟨_, h, fun E1 H1 hh => anyD_ord3 hT hla l _ E1 H1 hB2 hh⟩
/-- A region whose order is open, run in the order 'l'. -/
theorem ACode.drawS {id : Nat} (la : Nat → Nat) (l im we nr : List Nat) (hT : TOk P T) (hm : P.follows .mixedOrders = true) (hB : (Nat.beq l.length ops.size && ord3 ops we nr l (Array.replicate ops.size false)) = true) (hla : (we.all fun j => Nat.ble (la j + 1) H.length) = true)
    (h : so3 P T ops.toList H.length la we nr l E (H ++ pads im ops.size) K) : ACode P (.region id ops true) E H K X := by
  refine ⟨fun n G a w hP hst => ?_⟩
  subst hP
  obtain ⟨C, mu, hst⟩ := hst
  have hst' : StC G C mu E H a w.drew := hst.drew
  have hs2 := hst'.pad im ops.size
  simp only [Bool.and_eq_true] at hB
  have hl := Nat.eq_of_beq_eq_true hB.1
  have h1 := anyD_ord3 (ops := ops) (n0 := H.length) (we := we) (nr := nr) (K := K) hT (fun j hj => Nat.le_of_ble_eq_true (List.all_eq_true.1 hla j (memB_mem hj))) l (Array.replicate ops.size false) E _ hB.2 h
  rw [hl] at h1
  refine wpIn_region_any hm ?_
  have h2 := anyD_sound3 (X := X) (r := G.rd) (n := n) hT _ _ _ _ a _ h1 ⟨C, mu, hs2⟩
  simpa using h2
end
end Go.Av
