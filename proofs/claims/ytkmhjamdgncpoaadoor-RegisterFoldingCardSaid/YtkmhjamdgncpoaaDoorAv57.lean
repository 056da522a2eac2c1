/-
  AV: growing slices in a region, at calls, and when they stop growing.
-/
import Derived.Test.YtkmhjamdgncpoaaDoorAv56
set_option linter.unusedSimpArgs false
set_option linter.unusedVariables false
set_option linter.unusedSectionVars false
namespace Go.Av
open Go.RowKit (Below)
def tokAppK (T : List TY) (E : List AV) (H : List HO) (t t' : TypeId) (s x : Operand) (K : AV → KK) : Prop :=
  match Nat.beq t t' with
  | true => lkK T t fun y => (match y.k with
    | .slice e esz by' _ => (match Nat.beq esz 1 && Nat.ble 1 by' with
      | true => evK E s fun sv => evK E x fun xv => elemsK H xv fun sz xs => (match Nat.beq sz 1 with
        | true => zeroK T e fun z => cellsK z fun zc => (match Nat.beq zc.length 1 && zc.all scalB with
          | true => ∃ (ts : Tok) (j : Nat) (s : Sv) (es ss : List (List UInt8)), (sv = .raw s.v ∧ H[0]? = some (.inv (TokI e ts)) ∧ ts[j]? = some (s, es) ∧ xs = ss.map AV.str ∧ 1 ≤ ss.length ∧ (es.length + ss.length) * by' ≤ 140737488355328) ∧
              ∀ s' : Sv, updK H 0 (.inv (TokI e (ts.set j (s', es ++ ss)))) fun H' => K (.raw s'.v) E H'
          | false => False)
        | false => False)
      | false => False)
    | _ => False)
  | false => False
def tokOpK (T : List TY) (E : List AV) (H : List HO) (o : Op) (K : AV → KK) : Prop :=
  match o with
  | .call c => (match c.callee, c.args.toList, c.argTypes.toList with
    | .builtin .append, [s, x], [t, t'] => tokAppK T E H t t' s x K
    | _, _, _ => False)
  | _ => False
/-- A region in a fixed order, whose k-th operation lets a growing slice grow. -/
def regTK (P : Program) (T : List TY) (ops : List Oper) : Nat → List Oper → List AV → List HO → KK → XX → Prop
  | _, [], _, _, _, _ => False
  | 0, o :: r, E, H, K, X => gdK ops E o.guard
      (fun E => tokOpK T E H o.op (fun v E' H' => updOK E' o.dst v fun E'' => regK P T ops r E'' H' K X))
      (fun E => updOK E o.dst (.raw undef) fun E' => regK P T ops r E' H K X)
  | k + 1, o :: r, E, H, K, X => gdK ops E o.guard
      (fun E => opK none P T E H o.op (fun v E' H' => updOK E' o.dst v fun E'' => regTK P T ops k r E'' H' K X) X)
      (fun E => updOK E o.dst (.raw undef) fun E' => regTK P T ops k r E' H K X)
section
variable {G : Cx} {C C' : CellSet} {w w' : World} {mu : Mu} {H : List HO} {E : List AV} {a : Act} {T : List TY} {P : Program} {K : KK} {X : XX} {e0 : TypeId} {ts : Tok}
theorem tokApp_ok (hT : TOk G.P T) (h : StC G C mu E H a w) {t t' ty : TypeId} {s x : Operand} {K : AV → KK} (hk : tokAppK T E H t t' s x K) : EffOk G a w K (Builtin.append_ #[t, t'] ty #[a.eval s, a.eval x]) := by
  unfold tokAppK at hk
  split at hk
  case h_2 => exact hk.elim
  rename_i htt
  obtain rfl := Nat.eq_of_beq_eq_true htt
  replace hk := (lkK_iff _ _ _).1 hk; obtain ⟨y, hy, hk⟩ := hk
  split at hk
  case h_2 => exact hk.elim
  rename_i e esz by' ag hs
  split at hk
  case h_2 => exact hk.elim
  rename_i hp
  simp only [Bool.and_eq_true] at hp
  obtain rfl := Nat.eq_of_beq_eq_true hp.1
  have hby1 := Nat.le_of_ble_eq_true hp.2
  rw [evK_iff, evK_iff] at hk
  have hsr := rep_ev h.env s
  have hxr := rep_ev h.env x
  replace hk := elems_ok h hxr hk
  obtain ⟨sz, xs, hk, hzz, hxs⟩ := hk
  split at hk
  case h_2 => exact hk.elim
  rename_i hse
  obtain rfl := Nat.eq_of_beq_eq_true hse
  replace hk := zeroK_ok hT hk
  obtain ⟨z, ye, hye, hk, hzc⟩ := hk
  rw [cellsK_iff] at hk
  split at hk
  case h_2 => exact hk.elim
  rename_i hb2
  simp only [Bool.and_eq_true] at hb2
  obtain ⟨zv, i', A⟩ := appTy C w hT hy hs (Nat.le_refl 1) hye hzc (Nat.eq_of_beq_eq_true hb2.1) hb2.2
  obtain ⟨ts, j, sv, es, ss, ⟨q1, q2, q3, rfl, q5, q6⟩, hk⟩ := hk
  rw [q1] at hsr
  have hsv : a.eval s = sv.v := by unfold Rep at hsr; exact hsr
  have hu : ∃ ad c vs, a.eval x = .slice (some ad) ss.length c ∧ vs.length = ss.length * 1 ∧ Reps C w (ss.map AV.str) (blkMu mu) vs ∧ (∀ j v, vs[j]? = some v → w.cell? (ad.add j) = some v) ∧ ∀ v ∈ vs, v.oneCell' = true := by
    rcases hxs with ⟨_, k⟩ | ⟨ad, c, vs, k1, k2, k3, k4, k5⟩
    · have := congrArg List.length k
      simp at this
      subst this
      simp at q5
    · rw [List.length_map] at k1 k2
      rw [flat_strs] at k3
      exact ⟨ad, c, vs, k1, k2, k3, k4, k5⟩
  have hm : es.length + ss.length ≤ 9223372036854775807 := by
    have := Nat.le_mul_of_pos_right (es.length + ss.length) (show 0 < by' by omega)
    omega
  obtain ⟨s', w', k1, k2⟩ := tok_append (ty := ty) h q2 A q3 q5 hu q6 hm
  have hk := hk s'
  rw [updK_iff] at hk
  exact ⟨_, s'.v, _, _, C, mu, w', hk, by rw [hsv]; exact k1, k2, by unfold Rep; rfl⟩
theorem tokOp_sound (hT : TOk G.P T) {o : Oper} {K : AV → KK} {Kn : KK} {r : Option Nat} {n : Nat} (h : tokOpK T E H o.op K) (hst : StC G C mu E H a w) {next : Act → World → Prop} (hn : ∀ a w, OpPost G o K a w → next a w) :
    o.wpIn (fw r) n G.P a w next (QOf G Kn X) := by
  unfold tokOpK at h
  split at h
  case h_2 => exact h.elim
  rename_i c ho
  split at h
  case h_2 => exact h.elim
  rename_i s x t t' hc h1 h2
  obtain ⟨cal, args, tys⟩ := c
  simp only at hc h1 h2
  subst hc
  obtain rfl : args = #[s, x] := by cases args; simp_all
  obtain rfl : tys = #[t, t'] := by cases tys; simp_all
  obtain ⟨r, v, E', H', C', mu', w', k1, k2, k3, k4⟩ := tokApp_ok (ty := o.type) hT hst h
  exact wpIn_of_wp (fun c hc => by rw [ho] at hc; cases hc) (op_of_value (X := X) (Q := Kn) hn k1 (by simp [execOp, ho, resolve, invoke, builtin, k2]) k3 k4)
theorem regT_sound (hT : TOk G.P T) {r : Option Nat} {n : Nat} {ops : Array Oper} {K : KK} {X : XX} : ∀ (l : List Oper) (k : Nat) {C : CellSet} {mu : Mu} {E : List AV} {H : List HO} {a : Act} {w : World}, regTK G.P T ops.toList k l E H K X → StC G C mu E H a w → wpListIn (fw r) n G.P ops (QOf G K X) l a w
  | [], k, _, _, _, _, _, _, h, hst => by unfold regTK at h; exact h.elim
  | o :: l, 0, C, mu, E, H, a, w, h, hst => by
    unfold regTK at h
    unfold wpListIn
    rcases gd_sound rfl hst h with ⟨hw, E', h1, h2⟩ | ⟨hw, E', h1, h2⟩
    · rw [if_pos hw]
      refine tokOp_sound hT h1 h2 fun a' w' hp => ?_
      obtain ⟨x, E'', H', h3, C', mu', h4⟩ := hp
      rw [updOK_iff] at h3
      exact reg_sound hT l h3 h4
    · rw [if_neg (by simp [hw])]
      rw [updOK_iff] at h1
      exact ⟨fun _ _ => trivial, reg_sound hT l h1 (h2.frame (reps_put h2.env o.dst (by unfold Rep; rfl)) (put_defers _ _ _))⟩
  | o :: l, k + 1, C, mu, E, H, a, w, h, hst => by
    unfold regTK at h
    unfold wpListIn
    rcases gd_sound rfl hst h with ⟨hw, E', h1, h2⟩ | ⟨hw, E', h1, h2⟩
    · rw [if_pos hw]
      refine op_sound hT h1 h2 fun a' w' hp => ?_
      obtain ⟨x, E'', H', h3, C', mu', h4⟩ := hp
      rw [updOK_iff] at h3
      exact regT_sound hT l k h3 h4
    · rw [if_neg (by simp [hw])]
      rw [updOK_iff] at h1
      exact ⟨fun _ _ => trivial, regT_sound hT l k h1 (h2.frame (reps_put h2.env o.dst (by unfold Rep; rfl)) (put_defers _ _ _))⟩
theorem ACode.s_regT (k : Nat) (hT : TOk P T) {id : Nat} {ops : Array Oper} (h : regTK P T ops.toList k ops.toList E H K X) : ACode P (.region id ops false) E H K X :=
  ⟨fun n G a w hP hst => by
    obtain ⟨C, mu, hst⟩ := hst
    subst hP
    exact wpIn_region_list (regT_sound hT _ k h hst)⟩
/-! ### Kept, added -/
theorem StC.tok0 (h : StC G C mu E [] a w) (e0 : TypeId) : StC G C mu E [.inv (TokI e0 [])] a w := by
  obtain ⟨ms, d1, d2⟩ := h.defers
  have one : ∀ {l : Nat} {y : HO}, [HO.inv (TokI e0 [])][l]? = some y → l = 0 ∧ y = .inv (TokI e0 []) := fun {l y} hl => by
    cases l with
    | zero => simp at hl; exact ⟨rfl, hl.symm⟩
    | succ l => simp at hl
  have hno : ∀ l g, mu l ≠ some g := fun l g hl => by have := h.heap.dom l g hl; simp at this
  refine ⟨h.c0, h.c1, h.lt, ⟨fun l g hl => absurd hl (hno l g), fun l g b hl => absurd hl (hno l g), fun l g b l' g' hl => absurd hl (hno l g), fun l hl => ?_, fun l cs hl => ?_, fun l e sz es hl => ?_, fun l ks vs hl => ?_⟩, h.env, ⟨ms, d1, fun l cs vs ms' hl => ?_, fun l I hl => ?_, d2.marks, d2.nd, fun l l' cs vs ms cs' vs' ms' hl => ?_⟩, h.keep, by have := h.pin.1; simp at this; simp; omega, h.pin.2⟩
  · cases (one hl).2
  · cases (one hl).2
  · cases (one hl).2
  · cases (one hl).2
  · cases (one hl).2
  · obtain ⟨h0, h1⟩ := one hl
    simp only [HO.inv.injEq] at h1
    subst h1
    exact ⟨h0, fun _ => False, fun _ => False, ⟨fun b hb => hb.elim, Nat.zero_le _, fun _ _ _ => .inl trivial, fun l g b hl => absurd hl (hno l g), fun _ h => h, fun _ h => h.elim, fun _ h => h.elim, fun _ _ h => h.elim⟩, (show TokJ e0 [] (fun _ => False) (fun _ => False) w from ⟨fun x hx => (by cases hx), fun i j x y hi => (by simp at hi)⟩), fun _ _ h => h, fun l' cs vs ms' hl' => by cases (one hl').2⟩
  · cases (one hl).2
theorem ACode.tok0 (e0 : TypeId) {c : Code} (h : ACode P c E [.inv (TokI e0 [])] K X) : ACode P c E [] K X :=
  ⟨fun n G a w hP ⟨C, mu, hst⟩ => h.out n G a w hP ⟨C, mu, hst.tok0 e0⟩⟩
theorem ADef.tok0 (e0 : TypeId) {c : Code} {K2 : DK} {X2 : DX} (h : ADef P c E [.inv (TokI e0 [])] K X K2 X2) : ADef P c E [] K X K2 X2 :=
  ⟨fun n G a w hP hr ⟨C, mu, hst⟩ => h.out n G a w hP hr ⟨C, mu, hst.tok0 e0⟩⟩
/-- A slice that holds nothing yet is one that may grow. -/
theorem ACode.tokAdd {c : Code} (hob : H[0]? = some (.inv (TokI e0 ts))) (h : ACode P c E (H.set 0 (.inv (TokI e0 (ts ++ [(Sv.nil, [])])))) K X) : ACode P c E H K X :=
  ⟨fun n G a w hP ⟨C, mu, hst⟩ => by
    obtain ⟨Sw, Sr, hf, hJ, key⟩ := hst.owner hob
    obtain ⟨hJ1, hJ2⟩ : TokJ e0 ts Sw Sr w := hJ
    have get : ∀ {i : Nat} {x}, (ts ++ [(Sv.nil, ([] : List (List UInt8)))])[i]? = some x → ts[i]? = some x ∨ x = (Sv.nil, []) := fun {i x} hi => by
      rw [List.getElem?_append] at hi
      split at hi
      · exact .inl hi
      · have := List.mem_of_getElem? hi
        simp at this
        exact .inr this
    refine h.out n G a w hP ⟨C, mu, key _ w Sw Sr rfl rfl ⟨rfl, rfl, rfl, Nat.le_refl _, fun _ _ => rfl⟩ (fun b hb => .inl hb) (fun b hb => .inl hb) hf.sub hf.lt ⟨fun x hx => ?_, fun i j x y hi hj hne b hb hb' => ?_⟩⟩
    · rcases List.mem_append.1 hx with hx | hx
      · exact hJ1 x hx
      · simp at hx
        subst hx
        exact .inl ⟨rfl, rfl⟩
    · rcases get hi with k | rfl
      · rcases get hj with k' | rfl
        · exact hJ2 i j x y k k' hne b hb hb'
        · cases hb'
      · cases hb⟩
/-! ### At calls -/
def viewC (ts : Tok) (x y : AV) : Prop := (x = y ∧ closed x = true) ∨ ∃ (j : Nat) (s : Sv) (ss : List (List UInt8)), ts[j]? = some (s, ss) ∧ x = .raw s.v ∧ y = .sl 1 (ss.map AV.str)
def viewCs (ts : Tok) : List AV → List AV → Prop
  | [], [] => True
  | x :: xs, y :: ys => viewC ts x y ∧ viewCs ts xs ys
  | _, _ => False
def viewV (H : List HO) (ts : Tok) (x y : AV) : Prop := viewC ts x y ∨ (∃ cs ds, x = .agg cs ∧ y = .agg ds ∧ viewCs ts cs ds) ∨ ∃ l cs ds, x = .ptr l 0 ∧ y = .at_ ds ∧ H[l]? = some (.cells cs) ∧ viewCs ts cs ds
def viewVs (H : List HO) (ts : Tok) : List AV → List AV → Prop
  | [], [] => True
  | x :: xs, y :: ys => viewV H ts x y ∧ viewVs H ts xs ys
  | _, _ => False
def viewX (H : List HO) (ts : Tok) (x y : AV) : Prop := viewV H ts x y ∨ ∃ f cs ds, x = .fn f cs ∧ y = .fn f ds ∧ viewVs H ts cs ds
def viewXs (H : List HO) (ts : Tok) : List AV → List AV → Prop
  | [], [] => True
  | x :: xs, y :: ys => viewX H ts x y ∧ viewXs H ts xs ys
  | _, _ => False
theorem viewCs_closed : ∀ (xs : List AV), closeds xs = true → viewCs ts xs xs
  | [], _ => trivial
  | x :: xs, h => by
    unfold closeds at h
    simp only [Bool.and_eq_true] at h
    exact ⟨.inl ⟨rfl, h.1⟩, viewCs_closed xs h.2⟩
theorem rows_texts {C2 : CellSet} {b : Nat} {cur : Array Value} {e : TypeId} {fz : Nat × Nat} (hb : w.heap[b]? = some (.cells cur e fz)) : ∀ (ss : List (List UInt8)) (o : Nat) (rest : List Value), cur.toList.drop o = ss.map strV ++ rest → (∀ k, k < ss.length → C2 b (o + k)) → (∀ s ∈ ss, s.length ≤ 9223372036854775807) →
    Rows C2 w 1 (ss.map AV.str) b o
  | [], o, rest, _, _, _ => by simp [Rows]
  | s :: ss, o, rest, hc, hC, hl => by
    simp only [List.map_cons]
    unfold Rows
    have h0 : cur[o]? = some (strV s) := by
      have := congrArg (fun l : List Value => l[0]?) hc
      simp only [List.getElem?_drop, Nat.add_zero, List.map_cons, List.cons_append, List.getElem?_cons_zero] at this
      rw [Array.getElem?_toList] at this
      exact this
    refine ⟨rfl, ⟨strV s, rfl, ⟨by simpa using hC 0 (by simp), by simp [World.cell?, hb, h0]⟩, ?_⟩, rows_texts hb ss (o + 1) rest ?_ (fun k hk => by have := hC (k + 1) (by simpa using hk); rwa [show o + 1 + k = o + (k + 1) by omega]) fun x hx => hl x (by simp [hx])⟩
    · unfold Rep
      exact ⟨rfl, hl s (by simp)⟩
    · rw [← List.drop_drop, hc]
      simp
theorem tok_rep {Sw Sr : Nat → Prop} {C2 : CellSet} {s : Sv} {ss : List (List UInt8)} (h : TokE e0 Sw Sr w (s, ss)) (hC : ∀ b, Sr b → s.blk = some b → ∀ o, C2 b o) (mu : Mu) : Rep C2 w (.sl 1 (ss.map AV.str)) mu s.v := by
  unfold Rep
  rcases h with ⟨h1, h2⟩ | ⟨b, cap, cur, rest, h1, h2, h3, h4, h5, h6, h7, h8, h9⟩
  · simp only at h1 h2
    subst h1; subst h2
    exact .inl ⟨⟨none, rfl⟩, rfl⟩
  · simp only at h1 h2
    subst h1
    have hl : ss.length ≤ cap := by
      have := congrArg List.length h7
      simp only [Array.length_toList, List.length_append, List.length_map] at this
      omega
    refine .inr ⟨b, 0, cap, by simp [Sv.v], by simpa using hl, h5, rows_texts h4 ss 0 rest (by simpa using h7) (fun k _ => hC b h3 rfl _) h9⟩
theorem viewC_ok {Sw Sr : Nat → Prop} {C2 : CellSet} (hts : ∀ x ∈ ts, TokE e0 Sw Sr w x) (hC : ∀ b, Sr b → ∀ o, C2 b o) (hx : Ext C C2 w w) {x y : AV} {u : Value} (h : viewC ts x y) (hr : Rep C w x mu u) : Rep C2 w y Mu.none u := by
  rcases h with ⟨rfl, hc⟩ | ⟨j, s, ss, hj, rfl, rfl⟩
  · exact Rep.mono hx _ (MuLe.none _) (closed_rep _ hc hr)
  · unfold Rep at hr
    subst hr
    exact tok_rep (hts _ (List.mem_of_getElem? hj)) (fun b hb _ => hC b hb) _
theorem viewCs_ok {Sw Sr : Nat → Prop} {C2 : CellSet} (hts : ∀ x ∈ ts, TokE e0 Sw Sr w x) (hC : ∀ b, Sr b → ∀ o, C2 b o) (hx : Ext C C2 w w) : ∀ {xs ys : List AV} {us : List Value}, viewCs ts xs ys → Reps C w xs mu us → Reps C2 w ys Mu.none us
  | [], [], us, _, hr => by unfold Reps at *; exact hr
  | [], _ :: _, _, h, _ => h.elim
  | _ :: _, [], _, h, _ => h.elim
  | x :: xs, y :: ys, us, h, hr => by
    unfold Reps at hr ⊢
    obtain ⟨v, vs, rfl, h1, h2⟩ := hr
    exact ⟨v, vs, rfl, viewC_ok hts hC hx h.1 h1, viewCs_ok hts hC hx h.2 h2⟩
theorem viewV_ok (hst : StC G C mu E H a w) {Sw Sr : Nat → Prop} (hts : ∀ x ∈ ts, TokE e0 Sw Sr w x) (hS : ∀ b, Sr b → b < w.heap.size) {x y : AV} {u : Value} (h : viewV H ts x y) (hr : Rep C w x mu u) : Rep (wideC w) w y Mu.none u := by
  have hx : Ext C (wideC w) w w := .of_block (fun b o hc => hst.lt b o hc) fun _ _ _ => rfl
  rcases h with h | ⟨cs, ds, rfl, rfl, h⟩ | ⟨l, cs, ds, rfl, rfl, hl, h⟩
  · exact viewC_ok hts (fun b hb _ => hS b hb) hx h hr
  · unfold Rep at hr ⊢
    obtain ⟨vs, rfl, h2⟩ := hr
    exact ⟨vs, rfl, viewCs_ok hts (fun b hb _ => hS b hb) hx h h2⟩
  · unfold Rep at hr
    obtain ⟨b, hm, rfl⟩ := hr
    obtain ⟨b', cur, e, k1, k2, k3, k4⟩ := hst.heap.recs l cs hl
    rw [hm] at k1
    simp only [Option.some.injEq, GO.blk.injEq] at k1
    subst k1
    have k5 := viewCs_ok hts (fun b hb _ => hS b hb) hx h k3
    unfold Rep
    refine ⟨b, 0, rfl, (cells_iff _ _).2 fun i hi => ?_⟩
    have hlen := reps_len _ k5
    have hir := ((reps_iff _).1 k5).2 i hi (by omega)
    have hlt : b < w.heap.size := (Array.getElem?_eq_some_iff.1 k2).1
    refine ⟨cur.toList[i], k4 _ (List.getElem_mem _), ⟨hlt, ?_⟩, hir⟩
    rw [Nat.zero_add]
    have : cur[i]? = some cur.toList[i] := by rw [← Array.getElem?_toList]; exact List.getElem?_eq_getElem _
    simp [World.cell?, k2, this]
theorem viewVs_ok (hst : StC G C mu E H a w) {Sw Sr : Nat → Prop} (hts : ∀ x ∈ ts, TokE e0 Sw Sr w x) (hS : ∀ b, Sr b → b < w.heap.size) : ∀ {xs ys : List AV} {us : List Value}, viewVs H ts xs ys → Reps C w xs mu us → Reps (wideC w) w ys Mu.none us
  | [], [], us, _, hr => by unfold Reps at *; exact hr
  | [], _ :: _, _, h, _ => h.elim
  | _ :: _, [], _, h, _ => h.elim
  | x :: xs, y :: ys, us, h, hr => by
    unfold Reps at hr ⊢
    obtain ⟨v, vs, rfl, h1, h2⟩ := hr
    exact ⟨v, vs, rfl, viewV_ok hst hts hS h.1 h1, viewVs_ok hst hts hS h.2 h2⟩
theorem viewXs_ok (hst : StC G C mu E H a w) {Sw Sr : Nat → Prop} (hts : ∀ x ∈ ts, TokE e0 Sw Sr w x) (hS : ∀ b, Sr b → b < w.heap.size) : ∀ {xs ys : List AV} {us : List Value}, viewXs H ts xs ys → Reps C w xs mu us → Reps (wideC w) w ys Mu.none us
  | [], [], us, _, hr => by unfold Reps at *; exact hr
  | [], _ :: _, _, h, _ => h.elim
  | _ :: _, [], _, h, _ => h.elim
  | x :: xs, y :: ys, us, h, hr => by
    unfold Reps at hr ⊢
    obtain ⟨v, vs, rfl, h1, h2⟩ := hr
    refine ⟨v, vs, rfl, ?_, viewXs_ok hst hts hS h.2 h2⟩
    rcases h.1 with k | ⟨f, cs, ds, rfl, rfl, k⟩
    · exact viewV_ok hst hts hS k h1
    · unfold Rep at h1 ⊢
      obtain ⟨us, rfl, h3⟩ := h1
      exact ⟨us, rfl, viewVs_ok hst hts hS k h3⟩
/-- A call of a function on plain data that looks at growing slices; its result leads to no memory. -/
theorem ACall.of_tok {f : FuncId} {as as' : List AV} {v : AV} {K : AV → KK} (hob : H[0]? = some (.inv (TokI e0 ts))) (hv : viewXs H ts as as') (hctr : Ctr P f as' (fun r => r = v)) (hm : memfree v = true) (hk : K v E H) : ACall P f as E H K X := by
  refine ⟨hctr.good, fun G C mu a w vs hP hst hr => ?_⟩
  obtain ⟨Sw, Sr, hf, hJ, key⟩ := hst.owner hob
  obtain ⟨hJ1, hJ2⟩ : TokJ e0 ts Sw Sr w := hJ
  refine (hctr.out (wideC w) w vs (wide_cok hst) (viewXs_ok hst hJ1 hf.lt hv hr)).mono fun e w' ⟨r, u, h1, h2, h3, h4⟩ => ?_
  subst h2
  exact .inl ⟨r, u, E, H, _, mu, h1, hk, hst.below h3, memfree_rep _ hm h4⟩
/-! ### At the end -/
def viewRows (ts : Tok) : List AV → List AV → Prop
  | [], [] => True
  | x :: xs, y :: ys => (∃ cs ds, x = .agg cs ∧ y = .agg ds ∧ viewCs ts cs ds) ∧ viewRows ts xs ys
  | _, _ => False
theorem viewCs_len : ∀ {xs ys : List AV}, viewCs ts xs ys → ys.length = xs.length
  | [], [], _ => rfl
  | [], _ :: _, h => h.elim
  | _ :: _, [], h => h.elim
  | x :: xs, y :: ys, h => by simp [viewCs_len h.2]
theorem viewRows_len {sz : Nat} : ∀ {xs ys : List AV}, viewRows ts xs ys → (∀ a ∈ xs, a.cells.length = sz) → ys.length = xs.length ∧ ∀ a ∈ ys, a.cells.length = sz
  | [], [], _, _ => ⟨rfl, fun a ha => by cases ha⟩
  | [], _ :: _, h, _ => h.elim
  | _ :: _, [], h, _ => h.elim
  | x :: xs, y :: ys, h, hs => by
    obtain ⟨⟨cs, ds, rfl, rfl, h1⟩, h2⟩ := h
    obtain ⟨k1, k2⟩ := viewRows_len h2 fun a ha => hs a (by simp [ha])
    refine ⟨by simp [k1], fun a ha => ?_⟩
    rcases List.mem_cons.1 ha with rfl | ha
    · have := hs (.agg cs) (by simp)
      show ds.length = sz
      rw [viewCs_len h1]; exact this
    · exact k2 a ha
theorem viewRows_ok {Sw Sr : Nat → Prop} {C2 : CellSet} (hts : ∀ x ∈ ts, TokE e0 Sw Sr w x) (hC : ∀ b, Sr b → ∀ o, C2 b o) (hx : Ext C C2 w w) : ∀ {xs ys : List AV} {us : List Value}, viewRows ts xs ys → Reps C w (flat xs) mu us → Reps C2 w (flat ys) Mu.none us
  | [], [], us, _, hr => by
    have e : flat ([] : List AV) = [] := rfl
    rw [e] at *
    unfold Reps at *; exact hr
  | [], _ :: _, _, h, _ => h.elim
  | _ :: _, [], _, h, _ => h.elim
  | x :: xs, y :: ys, us, h, hr => by
    obtain ⟨⟨cs, ds, rfl, rfl, h1⟩, h2⟩ := h
    have e1 : flat (.agg cs :: xs) = cs ++ flat xs := rfl
    have e2 : flat (.agg ds :: ys) = ds ++ flat ys := rfl
    rw [e1] at hr
    rw [e2]
    have hl := reps_len _ hr
    rw [List.length_append] at hl
    have r1 := hr.take cs.length
    have r2 := hr.drop cs.length
    rw [List.take_left] at r1
    rw [List.drop_left] at r2
    have := reps_append (viewCs_ok hts hC hx h1 r1) (viewRows_ok hts hC hx h2 r2)
    rwa [List.take_append_drop] at this
/-- From here on the slices do not grow any more: they are plain ones. -/
theorem ACode.seal_ {c : Code} {l : Nat} {e : TypeId} {sz : Nat} {rows rows' : List AV} (hob : H[0]? = some (.inv (TokI e0 ts))) (hl : H[l]? = some (.arr e sz rows)) (hv : viewRows ts rows rows')
    (h : ACode P c E ((H.set 0 (.ghost [] [] [])).set l (.arr e sz rows')) K X) : ACode P c E H K X :=
  ⟨fun n G a w hP ⟨C, mu, hst⟩ => by
    obtain ⟨ms, d1, d2⟩ := hst.defers
    obtain ⟨_, Sw, Sr, hf, hJ, hD1, hD2⟩ := d2.invs 0 _ hob
    obtain ⟨hJ1, hJ2⟩ : TokJ e0 ts Sw Sr w := hJ
    let C2 : CellSet := fun b o => C b o ∨ Sw b
    have hx : Ext C C2 w w := .of_block (fun _ _ h => .inl h) fun _ _ _ => rfl
    have hJw : ∀ x ∈ ts, TokE e0 Sw Sw w x := fun x hx => by
      rcases hJ1 x hx with k | ⟨b, cap, cur, rest, q1, q2, q3, q⟩
      · exact .inl k
      · exact .inr ⟨b, cap, cur, rest, q1, q2, q2, q⟩
    have hl0 : l ≠ 0 := fun e => by subst e; rw [hob] at hl; cases hl
    have hlt0 : 0 < H.length := (List.getElem?_eq_some_iff.1 hob).1
    have hltl : l < H.length := (List.getElem?_eq_some_iff.1 hl).1
    have get : ∀ {i : Nat} {ob' : HO}, ((H.set 0 (.ghost [] [] [])).set l (.arr e sz rows'))[i]? = some ob' → (i = 0 ∧ ob' = .ghost [] [] []) ∨ (i = l ∧ ob' = .arr e sz rows') ∨ (i ≠ 0 ∧ i ≠ l ∧ H[i]? = some ob') := fun {i ob'} hi => by
      by_cases e1 : i = l
      · subst e1
        rw [List.getElem?_set_self (by simpa using hltl)] at hi
        simp only [Option.some.injEq] at hi
        exact .inr (.inl ⟨rfl, hi.symm⟩)
      · rw [List.getElem?_set_ne (Ne.symm e1)] at hi
        by_cases e2 : i = 0
        · subst e2
          rw [List.getElem?_set_self hlt0] at hi
          simp only [Option.some.injEq] at hi
          exact .inl ⟨rfl, hi.symm⟩
        · rw [List.getElem?_set_ne (Ne.symm e2)] at hi
          exact .inr (.inr ⟨e2, e1, hi⟩)
    have hmark : ∀ D : Nat × Obj, ¬ Sr D.1 → MarkOK C w G.fresh mu D → MarkOK C2 w G.fresh mu D := fun D hd m => ⟨m.at_, fun o hc => hc.elim (m.imm o) fun k => hd (hf.sub _ k), m.own, m.fr⟩
    refine h.out n G a w hP ⟨C2, mu, fun b o hc => .inl (hst.c0 b o hc), fun b o hc => hc.elim (hst.c1 b o) fun k => .inr (hf.fr b k), fun b o hc => hc.elim (hst.lt b o) fun k => hf.lt b (hf.sub b k),
      ⟨fun i g hi => by simpa using hst.heap.dom i g hi, fun i g b hi hg => ?_, hst.heap.sep, fun i hi => ?_, fun i cs hi => ?_, fun i e' sz' es hi => ?_, fun i ks vs hi => ?_⟩, Reps.mono hx _ (MuLe.refl _) hst.env,
      ⟨ms, d1, fun i cs us ms' hi => ?_, fun i I' hi => ?_, fun d hd => hmark d (hD1 d hd) (d2.marks d hd), d2.nd, fun i i' cs vs ms1 cs' vs' ms2 hi hi' hne => ?_⟩, hst.keep, by simpa using hst.pin.1, hst.pin.2⟩
    · obtain ⟨k1, k2, k3⟩ := hst.heap.fresh i g b hi hg
      exact ⟨k1, k2, fun o hc => hc.elim (k3 o) fun k => hf.own b (hf.sub b k) i g hi hg⟩
    · rcases get hi with ⟨_, k⟩ | ⟨_, k⟩ | ⟨_, _, k⟩
      · cases k
      · cases k
      · exact hst.heap.dead i k
    · rcases get hi with ⟨_, k⟩ | ⟨_, k⟩ | ⟨_, _, k⟩
      · cases k
      · cases k
      · obtain ⟨b, cur, e', k1, k2, k3, k4⟩ := hst.heap.recs i cs k
        exact ⟨b, cur, e', k1, k2, Reps.mono hx _ (MuLe.refl _) k3, k4⟩
    · rcases get hi with ⟨_, k⟩ | ⟨rfl, k⟩ | ⟨_, _, k⟩
      · cases k
      · simp only [HO.arr.injEq] at k
        obtain ⟨rfl, rfl, rfl⟩ := k
        obtain ⟨k0, k⟩ := hst.heap.arrs i e' sz' rows hl
        obtain ⟨m1, m2⟩ := viewRows_len hv k0
        refine ⟨m2, k.imp (fun ⟨q1, q2⟩ => ⟨q1, ?_⟩) fun ⟨b, cap, cur, k1, k2, k3, k4, k5, k6, k7⟩ => ⟨b, cap, cur, by rw [m1]; exact k1, k2, by rw [m1]; exact k3, k4, k5, ?_, k7⟩⟩
        · subst q2
          exact List.eq_nil_of_length_eq_zero m1
        · rw [m1]
          exact Reps.mono (Ext.refl _ _) _ (MuLe.none _) (viewRows_ok hJw (fun b hb o => .inr hb) hx hv k6)
      · obtain ⟨k0, k⟩ := hst.heap.arrs i e' sz' es k
        exact ⟨k0, k.imp id fun ⟨b, cap, cur, k1, k2, k3, k4, k5, k6, k7⟩ => ⟨b, cap, cur, k1, k2, k3, k4, k5, Reps.mono hx _ (MuLe.refl _) k6, k7⟩⟩
    · rcases get hi with ⟨_, k⟩ | ⟨_, k⟩ | ⟨_, _, k⟩
      · cases k
      · cases k
      · exact hst.heap.maps i ks vs k
    · rcases get hi with ⟨_, k⟩ | ⟨_, k⟩ | ⟨_, _, k⟩
      · simp only [HO.ghost.injEq] at k
        obtain ⟨rfl, rfl, rfl⟩ := k
        exact ⟨by unfold Reps; rfl, List.nodup_nil, fun D hD => by cases hD⟩
      · cases k
      · obtain ⟨k1, k3, k2⟩ := d2.ghosts i cs us ms' k
        exact ⟨Reps.mono hx _ (MuLe.refl _) k1, k3, fun d hd => ⟨hmark (d, dfr) (hD2 i cs us ms' k d hd) (k2 d hd).1, (k2 d hd).2⟩⟩
    · rcases get hi with ⟨_, k⟩ | ⟨_, k⟩ | ⟨k0, _, k⟩
      · cases k
      · cases k
      · exact absurd (d2.invs i I' k).1 k0
    · rcases get hi with ⟨_, k⟩ | ⟨_, k⟩ | ⟨_, _, k⟩
      · simp only [HO.ghost.injEq] at k
        obtain ⟨rfl, rfl, rfl⟩ := k
        intro D hD; cases hD
      · cases k
      · rcases get hi' with ⟨_, k'⟩ | ⟨_, k'⟩ | ⟨_, _, k'⟩
        · simp only [HO.ghost.injEq] at k'
          obtain ⟨rfl, rfl, rfl⟩ := k'
          intro D _ hD; cases hD
        · cases k'
        · exact d2.sep i i' cs vs ms1 cs' vs' ms2 k k' hne⟩
theorem vx_c {x : AV} (h : closed x = true) : viewX H ts x x := .inl (.inl (.inl ⟨rfl, h⟩))
theorem vv_c {x : AV} (h : closed x = true) : viewV H ts x x := .inl (.inl ⟨rfl, h⟩)
theorem vc_c {x : AV} (h : closed x = true) : viewC ts x x := .inl ⟨rfl, h⟩
theorem vv_p {l : Nat} {cs ds : List AV} (hl : H[l]? = some (.cells cs)) (h : viewCs ts cs ds) : viewV H ts (.ptr l 0) (.at_ ds) := .inr (.inr ⟨l, cs, ds, rfl, rfl, hl, h⟩)
theorem vx_p {l : Nat} {cs ds : List AV} (hl : H[l]? = some (.cells cs)) (h : viewCs ts cs ds) : viewX H ts (.ptr l 0) (.at_ ds) := .inl (vv_p hl h)
theorem vx_a {cs ds : List AV} (h : viewCs ts cs ds) : viewX H ts (.agg cs) (.agg ds) := .inl (.inr (.inl ⟨cs, ds, rfl, rfl, h⟩))
theorem vx_f {f : FuncId} {cs ds : List AV} (h : viewVs H ts cs ds) : viewX H ts (.fn f cs) (.fn f ds) := .inr ⟨f, cs, ds, rfl, rfl, h⟩
theorem vc_t {j : Nat} {s : Sv} {ss : List (List UInt8)} (h : ts[j]? = some (s, ss)) : viewC ts (.raw s.v) (.sl 1 (ss.map AV.str)) := .inr ⟨j, s, ss, h, rfl, rfl⟩
theorem vx_t {j : Nat} {s : Sv} {ss : List (List UInt8)} (h : ts[j]? = some (s, ss)) : viewX H ts (.raw s.v) (.sl 1 (ss.map AV.str)) := .inl (.inl (vc_t h))
/-- A call of a function on plain data that looks at one's own variables; its result leads to no memory. -/
theorem ACall.of_look {f : FuncId} {as as' : List AV} {v : AV} {K : AV → KK} (hv : viewXs H [] as as') (hctr : Ctr P f as' (fun r => r = v)) (hm : memfree v = true) (hk : K v E H) : ACall P f as E H K X := by
  refine ⟨hctr.good, fun G C mu a w vs hP hst hr => ?_⟩
  refine (hctr.out (wideC w) w vs (wide_cok hst) (viewXs_ok (e0 := 0) (Sw := fun _ => False) (Sr := fun _ => False) hst (fun x hx => by cases hx) (fun _ h => h.elim) hv hr)).mono fun e w' ⟨r, u, h1, h2, h3, h4⟩ => ?_
  subst h2
  exact .inl ⟨r, u, E, H, _, mu, h1, hk, hst.below h3, memfree_rep _ hm h4⟩
end
end Go.Av
