/-
  AV: one operation, a region, a body: run by 'conv => whnf', sound over the model.
-/
import Derived.Test.YtbedaolpfedacaaGreatDoorKb3
import Derived.RangeFuncNested
import Derived.RangeFuncLeaves
import Derived.RangeFuncCalls
import Derived.TacticsIn
import Derived.OrdersIn
set_option linter.unusedSimpArgs false
set_option linter.unusedVariables false
namespace Go.Av
open Go.RowKit (Below)
inductive AE where
 | exit (id : Nat)
 | ret
 | panic (x : AV)
abbrev XX := AE → KK
def goodF (P : Program) (f : FuncId) : Bool := match P.funcs[f]? with | some fn => fn.body.isSome && fn.name != "runtime.NumGoroutine" | none => false
structure ACall (P : Program) (f : FuncId) (args : List AV) (E : List AV) (H : List HO) (K : AV → KK) (X : XX) : Prop where
 good : goodF P f = true
 out : ∀ (G : Cx) C mu (a : Act) (w : World) (vs : List Value), G.P = P → StC G C mu E H a w → Reps C w args mu vs →
  Calls P f vs.toArray w fun e w' =>
   (∃ r v E' H' C' mu', e = .returned v ∧ K r E' H' ∧ StC G C' mu' E' H' a w' ∧ Rep C' w' r mu' v) ∨
   (∃ x v E' H' C' mu', e = .panicked [{ v, recovered := false }] ∧ X (.panic x) E' H' ∧ StC G C' mu' E' H' a w' ∧ Rep C' w' x mu' v)
def appK {α : Type} : List α → List α → (List α → Prop) → Prop
 | [], m, K => K m
 | x :: l, m, K => appK l m fun r => K (x :: r)
theorem appK_iff {α : Type} : ∀ (l m : List α) (K : List α → Prop), appK l m K ↔ K (l ++ m)
 | [], _, _ => by simp [appK]
 | x :: l, m, K => by simp [appK, appK_iff l m]
def fw (r : Option Nat) : Fence := { Fence.wide with round := r }
structure AYield (P : Program) (v : Value) (as : List AV) (I It If : Inv) : Prop where
 eqs : It.Cb = I.Cb ∧ It.nb = I.nb ∧ If.Cb = I.Cb ∧ If.nb = I.nb
 out : ∃ l, v = .func (.yield l) #[] #[] ∧ ∀ (C : CellSet) (w : World) (us : List Value) (Sw Sr : Nat → Prop) (n : Nat), (∀ b o, C b o → b < w.heap.size) → (∀ b o, C b o → I.Cb b o ∨ I.nb ≤ b) → I.nb ≤ w.heap.size → (∀ b o, Sw b → ¬ C b o) → (∀ b, Sw b → Sr b) → (∀ b, Sr b → b < w.heap.size) →
  I.J Sw Sr w → Reps C w as Mu.none us → YieldAt (fw none) n P l us.toArray w fun e w' => ∃ Sw' Sr', Same (fun b => b < w.heap.size ∧ ¬ Sw b) w w' ∧ (∀ b, Sw' b → Sw b ∨ w.heap.size ≤ b) ∧ (∀ b, Sr' b → Sr b ∨ w.heap.size ≤ b ∨ ∃ o, C b o) ∧
   (∀ b, Sw' b → Sr' b) ∧ (∀ b, Sr' b → b < w'.heap.size) ∧ ((e = .returned (.bool true) ∧ It.J Sw' Sr' w') ∨ (e = .returned (.bool false) ∧ If.J Sw' Sr' w'))
def yieldK (P : Program) (v : Value) (as : List AV) (E : List AV) (H : List HO) (K : AV → KK) : Prop :=
 closeds as = true ∧ lkK H 0 fun ob => match ob with
  | .inv I => ∃ It If, AYield P v as I It If ∧ updK H 0 (.inv It) (fun H' => K (.lit true) E H') ∧ updK H 0 (.inv If) (fun H' => K (.lit false) E H')
  | _ => False
def glGet : List (Nat × List AV) → Nat → List AV
 | [], _ => []
 | x :: r, g => match Nat.beq x.1 g with | true => x.2 | false => glGet r g
theorem glGet_ok {C : CellSet} {w : World} {g : Nat} : ∀ (l : List (Nat × List AV)), (∀ x ∈ l, Cells C w x.2 x.1 0) → Cells C w (glGet l g) g 0
 | [], _ => by unfold glGet Cells; trivial
 | x :: r, h => by
  unfold glGet
  split
  ·rename_i hb
   have := Nat.eq_of_beq_eq_true hb
   subst this
   exact h x (by simp)
  ·exact glGet_ok r fun y hy => h y (List.mem_cons_of_mem _ hy)
def opK (al : Option Nat) (P : Program) (T : List TY) (E : List AV) (H : List HO) (o : Op) (K : AV → KK) (X : XX) : Prop :=
 match o with
 | .box _ x => boxK al E H x K
 | .alloc t => allocK al T E H t K
 | .store t a x => evK E a fun p => (match p with
  | .el _ _ _ _ => evK E x fun v => frzVK v E H fun E H => storeK T E H t a x K
  | _ => storeK T E H t a x K)
 | .build t parts => buildK T E t parts.toList fun v => K v E H
 | .buildSlice t n parts => (match al with
  | none => frzPartsK parts.toList E H fun E H => buildSliceK none T E H t n parts.toList K
  | some s => buildSliceK (some s) T E H t n parts.toList K)
 | .makeSlice t l c => makeSliceK al T E H t l c K
 | .panic x => evK E x fun v => (match v with | .iface t y => X (.panic (.iface t y)) E H | _ => False)
 | .convert s d x => evK E x fun u => (match u with
  | .int k n => convK T s d (.int k n) fun v => K v E H
  | .str l => lkK T d fun yd => (match yd.k with
   | .string => convK T s d (.str l) fun v => K v E H
   | _ => bytesK T E H s d x K)
  | _ => bytesK T E H s d x K)
 | .call c => match c.callee with
  | .builtin .len => pureK T E H (.call c) fun v => K v E H
  | .builtin .min => pureK T E H (.call c) fun v => K v E H
  | .builtin .clear => (match c.args.toList, c.argTypes.toList with
   | [x], [t] => clearK T E H t x K
   | _, _ => False)
  | .builtin .append => (match c.args.toList, c.argTypes.toList with
   | [s, x], [t, t'] => appendK al T E H t t' s x K
   | _, _ => False)
  | .value f => evK E f fun fv => (match fv with
   | .fn f cap => mapK (evK E) c.args.toList fun as => appK as cap fun as => ACall P f as E H K X
   | .mv f fs => mapK (evK E) c.args.toList fun as => appK fs as fun as => ACall P f as E H K X
   | .raw v => mapK (evK E) c.args.toList fun as => yieldK P v as E H K
   | _ => False)
  | _ => False
 | .load t (.global g) => loadK T H t (.at_ (glGet glTab g)) fun v => K v E H
 | .makeMap _ r => (match r with | none => makeMapK al E H K | some _ => False)
 | .mapUpdate t m k x => mapUpdK T E H t m k x K
 | .insert t m k x => mapUpdK T E H t m k x K
 | o => pureK T E H o fun v => K v E H
section
variable {G : Cx} {C : CellSet} {w w' : World} {mu : Mu} {H : List HO} {E : List AV} {a : Act} {T : List TY}
def QOf (G : Cx) (K : KK) (X : XX) : Exit → Act → World → Prop
 | .normal, a, w => ∃ E H, K E H ∧ St G E H a w
 | .exit id, a, w => ∃ E H, X (.exit id) E H ∧ St G E H a w
 | .ret, a, w => ∃ E H, X .ret E H ∧ St G E H a w
 | .panic chain, a, w => ∃ x v E H C mu, chain = [{ v, recovered := false }] ∧ X (.panic x) E H ∧ StC G C mu E H a w ∧ Rep C w x mu v
 | _, _, _ => False
theorem execOp_value {o : Oper} {s : Sem Value} {w' : World} {v : Value} {ρ : Operand → Value} (h : execOp ρ o = (do pure (.value (← s)))) (hs : s.run G.P w = .ok v w') : (execOp ρ o).run G.P w = .ok (.value v) w' := by
 rw [h]; simp [hs]
def OpPost (G : Cx) (o : Oper) (K : AV → KK) (a : Act) (w : World) : Prop := ∃ r E' H', K r E' H' ∧ St G (updO E' o.dst r) H' a w
theorem op_of_value {o : Oper} {K : AV → KK} {X : XX} {Q : KK} {next : Act → World → Prop} {Qx : Exit → Act → World → Prop} {r : AV} {v : Value} {E' : List AV} {H' : List HO} {C' : CellSet} {mu' : Mu} {w' : World}
  (hn : ∀ a w, OpPost G o K a w → next a w) (hk : K r E' H') (hrun : (execOp a.eval o).run G.P w = .ok (.value v) w') (hst : StC G C' mu' E' H' a w') (hr : Rep C' w' r mu' v) : o.wp G.P a w next Qx := by
 unfold Oper.wp
 rw [hrun]
 exact hn _ _ ⟨r, E', H', hk, C', mu', hst.frame (reps_put hst.env o.dst hr) (put_defers _ _ _)⟩
theorem op_sound0 {al : Option Nat} (hT : TOk G.P T) {o : Oper} {K : AV → KK} {X : XX} {Kn : KK} (h : opK al G.P T E H o.op K X) (hst : StC G C mu E H a w) {next : Act → World → Prop} (hn : ∀ a w, OpPost G o K a w → next a w)
  (hy : ¬ ∃ c f v, o.op = .call c ∧ c.callee = .value f ∧ evD E f = .raw v) : o.wp G.P a w next (QOf G Kn X) := by
 unfold opK at h
 split at h
 case h_1 t x ho =>
  obtain ⟨r, v, E', H', C', mu', w', h1, h2, h3, h4⟩ := box_ok (t := t) hst h
  exact op_of_value (X := X) (Q := Kn) hn h1 (execOp_value (by simp [execOp, ho]) h2) h3 h4
 case h_2 t ho =>
  obtain ⟨r, v, E', H', C', mu', w', h1, h2, h3, h4⟩ := alloc_ok hT hst h
  exact op_of_value (X := X) (Q := Kn) hn h1 (execOp_value (by simp [execOp, ho]) h2) h3 h4
 case h_3 t ad x ho =>
  obtain ⟨E, H, C, mu, h, hst⟩ : ∃ E H C mu, storeK T E H t ad x K ∧ StC G C mu E H a w := by
   rw [evK_iff] at h
   split at h
   ·rw [evK_iff] at h
    obtain ⟨E', H', C', mu', h1, h2⟩ := frzV_ok hst h
    exact ⟨E', H', C', mu', h1, h2⟩
   ·exact ⟨E, H, C, mu, h, hst⟩
  obtain ⟨E', H', C', mu', w', h1, h2, h3⟩ := store_ok hT hst h
  unfold Oper.wp
  have : (execOp a.eval o).run G.P w = .ok .skip w' := by simp [execOp, ho, h2]
  rw [this]
  exact hn _ _ ⟨_, E', H', h1, C', mu', h3.frame (reps_put h3.env o.dst (by unfold Rep; rfl)) (put_defers _ _ _)⟩
 case h_4 t parts ho =>
  obtain ⟨r, v, h1, h2, h3⟩ := build_ok hT hst.env h
  exact op_of_value (X := X) (Q := Kn) hn h1 (execOp_value (by simp [execOp, ho]) h3) hst h2
 case h_5 t n parts ho =>
  obtain ⟨al, E, H, C, mu, h, hst⟩ : ∃ al E H C mu, buildSliceK al T E H t n parts.toList K ∧ StC G C mu E H a w := by
   split at h
   ·obtain ⟨E', H', C', mu', h1, h2⟩ := frzParts_ok _ hst h
    exact ⟨none, E', H', C', mu', h1, h2⟩
   ·exact ⟨_, E, H, C, mu, h, hst⟩
  obtain ⟨r, v, E', H', C', mu', w', h1, h2, h3, h4⟩ := buildSlice_ok hT hst h
  exact op_of_value (X := X) (Q := Kn) hn h1 (execOp_value (by simp [execOp, ho]) h2) h3 h4
 case h_6 t l c ho =>
  obtain ⟨r, v, E', H', C', mu', w', h1, h2, h3, h4⟩ := makeSlice_ok hT hst h
  exact op_of_value (X := X) (Q := Kn) hn h1 (execOp_value (by simp [execOp, ho]) h2) h3 h4
 case h_7 x ho =>
  rw [evK_iff] at h
  have hx := rep_ev hst.env x
  split at h
  ·rename_i t y hxe
   rw [hxe] at hx
   have hx' := hx
   unfold Rep at hx
   obtain ⟨u, hu, _⟩ := hx
   unfold Oper.wp
   have : (execOp a.eval o).run G.P w = .halt (.panic (a.eval x)) w := by
    simp [execOp, ho, hu, Instr.panic]
   rw [this]
   exact ⟨_, _, E, H, C, mu, rfl, h, hst, hx'⟩
  ·exact h.elim
 case h_8 s d x ho =>
  rw [evK_iff] at h
  have eff : bytesK T E H s d x K → o.wp G.P a w next (QOf G Kn X) := fun h => by
   obtain ⟨r, v, E', H', C', mu', w', h1, h2, h3, h4⟩ := bytes_ok hT hst h
   exact op_of_value (X := X) (Q := Kn) hn h1 (execOp_value (by simp [execOp, ho]) h2) h3 h4
  have hx := rep_ev hst.env x
  split at h
  ·rename_i k n hxe
   rw [hxe] at hx
   obtain ⟨r, v, h1, h2, h3⟩ := run_conv hT hx h
   exact op_of_value (X := X) (Q := Kn) hn h1 (execOp_value (by simp [execOp, ho]) h3) hst h2
  ·rename_i l hxe
   rw [hxe] at hx
   replace h := (lkK_iff _ _ _).1 h; obtain ⟨yd, hyd, h⟩ := h
   split at h
   ·obtain ⟨r, v, h1, h2, h3⟩ := run_conv hT hx h
    exact op_of_value (X := X) (Q := Kn) hn h1 (execOp_value (by simp [execOp, ho]) h3) hst h2
   ·exact eff h
  ·exact eff h
 case h_9 c ho =>
  split at h
  ·rename_i hc
   obtain ⟨r, v, h1, h2, h3⟩ := pure_sound hT hst.heap hst.env (o := o) (by rw [ho]; exact h)
   exact op_of_value (X := X) (Q := Kn) hn h1 h3 hst h2
  ·rename_i hc
   obtain ⟨r, v, h1, h2, h3⟩ := pure_sound hT hst.heap hst.env (o := o) (by rw [ho]; exact h)
   exact op_of_value (X := X) (Q := Kn) hn h1 h3 hst h2
  ·rename_i hc
   split at h
   ·rename_i x t h1 h2
    obtain ⟨cal, args, tys⟩ := c
    simp only at hc h1 h2
    subst hc
    obtain rfl : args = #[x] := by cases args; simp_all
    obtain rfl : tys = #[t] := by cases tys; simp_all
    obtain ⟨r, v, E', H', C', mu', w', k1, k2, k3, k4⟩ := clear_ok (ty := o.type) hT hst h
    exact op_of_value (X := X) (Q := Kn) hn k1 (by simp [execOp, ho, resolve, invoke, builtin, k2]) k3 k4
   ·exact h.elim
  ·rename_i hc
   split at h
   ·rename_i s x t t' h1 h2
    obtain ⟨cal, args, tys⟩ := c
    simp only at hc h1 h2
    subst hc
    obtain rfl : args = #[s, x] := by cases args; simp_all
    obtain rfl : tys = #[t, t'] := by cases tys; simp_all
    obtain ⟨r, v, E', H', C', mu', w', k1, k2, k3, k4⟩ := append_ok (ty := o.type) hT hst h
    exact op_of_value (X := X) (Q := Kn) hn k1 (by simp [execOp, ho, resolve, invoke, builtin, k2]) k3 k4
   ·exact h.elim
  ·rename_i f hc
   rw [evK_iff] at h
   have hf := rep_ev hst.env f
   split at h
   ·rename_i fi cap hfe
    rw [hfe] at hf
    rw [mapK_iff (evK E) (evD E) (evK_iff E), appK_iff] at h
    unfold Rep at hf
    obtain ⟨vs, hfv, hcap⟩ := hf
    have hargs : Reps C w (c.args.toList.map (evD E) ++ cap) mu (c.args.toList.map a.eval ++ vs) := reps_append (mapK_ev hst.env _) hcap
    have hg := h.good
    unfold goodF at hg
    cases hfn : G.P.funcs[fi]? with
    | none => rw [hfn] at hg; cases hg
    | some fn =>
     rw [hfn] at hg
     simp only [Bool.and_eq_true] at hg
     have hrun : (execOp a.eval o).run G.P w = .ok (.enter fi (c.args.toList.map a.eval ++ vs).toArray) w := by
      obtain ⟨cal, args, tys⟩ := c
      simp only at hc
      subst hc
      have hne : fn.name ≠ "runtime.NumGoroutine" := by simpa using hg.2
      have hb : fn.body ≠ none := by cases hh : fn.body <;> simp_all
      simp [execOp, ho, resolve, invoke, hfv, Deferred.ofValue, callFunc, hfn, hne, hb]
     unfold Oper.wp
     rw [hrun]
     refine (h.out G C mu a w _ rfl hst hargs).mono fun e w'' hp => ?_
     rcases hp with ⟨r, v, E', H', C', mu', rfl, k1, k2, k3⟩ | ⟨x, v, E', H', C', mu', rfl, k1, k2, k3⟩
     ·exact hn _ _ ⟨r, E', H', k1, C', mu', k2.frame (reps_put k2.env o.dst k3) (put_defers _ _ _)⟩
     ·exact ⟨x, v, E', H', C', mu', rfl, k1, k2, k3⟩
   ·rename_i fi cap hfe
    rw [hfe] at hf
    rw [mapK_iff (evK E) (evD E) (evK_iff E), appK_iff] at h
    unfold Rep at hf
    obtain ⟨vs, hfv, hcap⟩ := hf
    have hargs : Reps C w (cap ++ c.args.toList.map (evD E)) mu (vs ++ c.args.toList.map a.eval) := reps_append hcap (mapK_ev hst.env _)
    have hg := h.good
    unfold goodF at hg
    cases hfn : G.P.funcs[fi]? with
    | none => rw [hfn] at hg; cases hg
    | some fn =>
     rw [hfn] at hg
     simp only [Bool.and_eq_true] at hg
     have hrun : (execOp a.eval o).run G.P w = .ok (.enter fi (vs ++ c.args.toList.map a.eval).toArray) w := by
      obtain ⟨cal, args, tys⟩ := c
      simp only at hc
      subst hc
      have hne : fn.name ≠ "runtime.NumGoroutine" := by simpa using hg.2
      have hb : fn.body ≠ none := by cases hh : fn.body <;> simp_all
      simp [execOp, ho, resolve, invoke, hfv, Deferred.ofValue, callFunc, hfn, hne, hb]
     unfold Oper.wp
     rw [hrun]
     refine (h.out G C mu a w _ rfl hst hargs).mono fun e w'' hp => ?_
     rcases hp with ⟨r, v, E', H', C', mu', rfl, k1, k2, k3⟩ | ⟨x, v, E', H', C', mu', rfl, k1, k2, k3⟩
     ·exact hn _ _ ⟨r, E', H', k1, C', mu', k2.frame (reps_put k2.env o.dst k3) (put_defers _ _ _)⟩
     ·exact ⟨x, v, E', H', C', mu', rfl, k1, k2, k3⟩
   ·rename_i v hfe
    exact absurd ⟨c, f, v, ho, hc, hfe⟩ hy
   ·exact h.elim
  ·exact h.elim
 case h_10 t g ho =>
  have hr : Rep C w (.at_ (glGet glTab g)) mu (a.eval (.global g)) := by
   unfold Rep
   exact ⟨g, 0, rfl, glGet_ok _ hst.cok.gl⟩
  obtain ⟨r, v, h1, h2, h3⟩ := run_loadK hT hst.heap hr h
  exact op_of_value (X := X) (Q := Kn) hn h1 (execOp_value (by simp [execOp, ho]) h3) hst h2
 case h_11 t r ho =>
  split at h
  ·obtain ⟨r, v, E', H', C', mu', w', h1, h2, h3, h4⟩ := makeMap_ok (t := t) hst h
   exact op_of_value (X := X) (Q := Kn) hn h1 (execOp_value (by simp [execOp, ho]) h2) h3 h4
  ·exact h.elim
 case h_12 t m k x ho =>
  obtain ⟨E', H', C', mu', w', h1, h2, h3⟩ := mapUpd_ok hT hst h
  unfold Oper.wp
  have : (execOp a.eval o).run G.P w = .ok .skip w' := by simp [execOp, ho, h2]
  rw [this]
  exact hn _ _ ⟨_, E', H', h1, C', mu', h3.frame (reps_put h3.env o.dst (by unfold Rep; rfl)) (put_defers _ _ _)⟩
 case h_13 t m k x ho =>
  obtain ⟨E', H', C', mu', w', h1, h2, h3⟩ := mapUpd_ok hT hst h
  unfold Oper.wp
  have : (execOp a.eval o).run G.P w = .ok .skip w' := by simp [execOp, ho, h2]
  rw [this]
  exact hn _ _ ⟨_, E', H', h1, C', mu', h3.frame (reps_put h3.env o.dst (by unfold Rep; rfl)) (put_defers _ _ _)⟩
 case h_14 =>
  obtain ⟨r, v, h1, h2, h3⟩ := pure_sound hT hst.heap hst.env (o := o) h
  exact op_of_value (X := X) (Q := Kn) hn h1 h3 hst h2
theorem wpIn_of_wp {P : Program} {o : Oper} {a : Act} {w : World} {r : Option Nat} {n : Nat} {next : Act → World → Prop} {Q : Exit → Act → World → Prop} (hnd : ∀ c, o.op ≠ .defer c) (h : o.wp P a w next Q) : o.wpIn (fw r) n P a w next Q := by
 refine ⟨fun _ _ => trivial, ?_⟩
 rw [Oper.semAt_eq _ _ _ hnd]
 unfold Oper.wp at h
 generalize (execOp a.eval o).run P w = res at h
 cases res with
 | ok x w' =>
  cases x <;> simp only [Oper.upon] at h <;> simp only [Oper.uponIn] <;> first | exact h.elim | exact h | skip
  ·exact ⟨fun hd => (by cases hd), (callsIn_wide (n := n - 1)).2 h⟩
  ·refine ⟨fun hd => (by cases hd), fun c cs _ => ?_⟩
   obtain ⟨v, w'', k1, k2⟩ := h c cs
   exact ⟨v, w'', k1, stepsIn_wide.2 k2⟩
 | halt x w' => cases x <;> simp only [Oper.upon] at h <;> simp only [Oper.uponIn] <;> first | exact h.elim | exact h
theorem yield_ok {v : Value} {as us : List AV} {vs : List Value} {K : AV → KK} (h : yieldK G.P v as E H K) (hst : StC G C mu E H a w) (hr : Reps C w as mu vs) :
  ∃ l, v = .func (.yield l) #[] #[] ∧ ∀ n, YieldAt (fw none) n G.P l vs.toArray w fun e w' => ∃ r u H', e = .returned u ∧ K r E H' ∧ StC G C mu E H' a w' ∧ Rep C w' r mu u := by
 obtain ⟨hc, h⟩ := h
 replace h := (lkK_iff _ _ _).1 h; obtain ⟨ob, hob, h⟩ := h
 cases ob <;> first | exact h.elim | skip
 rename_i I
 obtain ⟨It, If, ⟨eqs, l, hv, hy⟩, h1, h2⟩ := h
 rw [updK_iff] at h1 h2
 obtain ⟨ms, d1, d2⟩ := hst.defers
 obtain ⟨_, Sw, Sr, hf, hJ, hD1, hD2⟩ := d2.invs 0 I hob
 have h0 : 0 < H.length := (List.getElem?_eq_some_iff.1 hob).1
 refine ⟨l, hv, fun n => ?_⟩
 obtain ⟨fn, tmps, assign, body, y1, y2⟩ := hy C w vs Sw Sr n hst.lt hf.cb hf.base hf.imm hf.sub hf.lt hJ (closeds_rep as hc hr)
 refine ⟨fn, tmps, assign, body, y1, y2.mono fun e w' ⟨Sw', Sr', q1, q2, q3, q4, q5, q6⟩ => ?_⟩
 have hx : Ext C C w w' := Ext.of_block (fun _ _ h => h) fun b o hc => q1.block b ⟨hst.lt b o hc, fun hs => hf.imm b o hs hc⟩
 have hown : ∀ {i g b}, mu i = some g → g.block? = some b → w'.heap[b]? = w.heap[b]? := fun {i g b} hi hg => q1.block b ⟨(hst.heap.fresh i g b hi hg).2.1, fun hs => hf.own b (hf.sub b hs) i g hi hg⟩
 have key : ∀ (In : Inv), In.Cb = I.Cb → In.nb = I.nb → In.J Sw' Sr' w' → StC G C mu E (H.set 0 (.inv In)) a w' := fun In eq1 eq2 hIn => by
  have get : ∀ {i ob'}, (H.set 0 (.inv In))[i]? = some ob' → (i = 0 ∧ ob' = .inv In) ∨ (H[i]? = some ob') := fun {i ob'} hi => by
   by_cases e : 0 = i
   ·subst e; rw [List.getElem?_set_self h0] at hi; simp only [Option.some.injEq] at hi; exact .inl ⟨rfl, hi.symm⟩
   ·rw [List.getElem?_set_ne e] at hi; exact .inr hi
  have hmark : ∀ D : Nat × Obj, ¬ Sr D.1 → MarkOK C w G.fresh mu D → MarkOK C w' G.fresh mu D := fun D hd m => by
   refine ⟨?_, m.imm, m.own, m.fr⟩
   rw [q1.block D.1 ⟨(Array.getElem?_eq_some_iff.1 m.at_).1, fun hs => hd (hf.sub D.1 hs)⟩]; exact m.at_
  have hsr : ∀ D : Nat × Obj, ¬ Sr D.1 → MarkOK C w G.fresh mu D → ¬ Sr' D.1 := fun D hd m hs => by
   rcases q3 D.1 hs with k | k | ⟨o, k⟩
   ·exact hd k
   ·have := (Array.getElem?_eq_some_iff.1 m.at_).1; omega
   ·exact m.imm o k
  have gg : ∀ {i : Nat} {cs : List AV} {us : List Value} {ms' : List Nat}, (H.set 0 (.inv In))[i]? = some (.ghost cs us ms') → H[i]? = some (.ghost cs us ms') := fun {i cs us ms'} hi => by
   rcases get hi with ⟨_, h⟩ | h
   ·cases h
   ·exact h
  have hrest : (∀ D ∈ ms.map (fun D => (D, dfr)) ++ G.rds, ¬ Sr' D.1) ∧ ∀ (l : Nat) (cs : List AV) (vs : List Value) (ms' : List Nat), (H.set 0 (.inv In))[l]? = some (.ghost cs vs ms') → ∀ D ∈ ms', ¬ Sr' D :=
   ⟨fun D hd => hsr D (hD1 D hd) (d2.marks D hd), fun l cs vs ms' hl D hd => hsr (D, dfr) (hD2 l cs vs ms' (gg hl) D hd) ((d2.ghosts l cs vs ms' (gg hl)).2.2 D hd).1⟩
  refine ⟨hst.c0, hst.c1, fun b o hc => Nat.lt_of_lt_of_le (hst.lt b o hc) q1.size, ⟨fun i g hi => by simpa using hst.heap.dom i g hi, fun i g b hi hg => ?_, hst.heap.sep, fun i hi => ?_, fun i cs hi => ?_, fun i e sz es hi => ?_, fun i ks vs hi => ?_⟩,
   Reps.mono hx _ (MuLe.refl _) hst.env, ⟨ms, d1, fun i cs us ms' hi => ?_, fun i I' hi => ?_, fun d hd => hmark d (hD1 d hd) (d2.marks d hd), d2.nd, fun l l' cs vs ms cs' vs' ms' hl hl' hne => d2.sep l l' cs vs ms cs' vs' ms' (gg hl) (gg hl') hne⟩, ?_, by simpa using hst.pin.1, hst.pin.2⟩
  ·obtain ⟨k1, k2, k3⟩ := hst.heap.fresh i g b hi hg
   exact ⟨k1, Nat.lt_of_lt_of_le k2 q1.size, k3⟩
  ·rcases get hi with ⟨_, h⟩ | h
   ·cases h
   ·exact hst.heap.dead i h
  ·rcases get hi with ⟨_, h⟩ | h
   ·cases h
   ·obtain ⟨b, cur, e, k1, k2, k3, k4⟩ := hst.heap.recs i cs h
    exact ⟨b, cur, e, k1, by rw [hown k1 rfl]; exact k2, Reps.mono hx _ (MuLe.refl _) k3, k4⟩
  ·rcases get hi with ⟨_, h⟩ | h
   ·cases h
   ·obtain ⟨k0, k⟩ := hst.heap.arrs i e sz es h
    refine ⟨k0, k.imp id fun ⟨b, cap, cur, k1, k2, k3, k4, k5, k6, k7⟩ => ⟨b, cap, cur, k1, k2.of_eq (by rw [hown k1 rfl]), k3, k4, k5, Reps.mono hx _ (MuLe.refl _) k6, k7⟩⟩
  ·rcases get hi with ⟨_, h⟩ | h
   ·cases h
   ·obtain ⟨b, es, cl, k1, k2, k3⟩ := hst.heap.maps i ks vs h
    exact ⟨b, es, cl, k1, by rw [hown k1 rfl]; exact k2, k3⟩
  ·rcases get hi with ⟨_, h⟩ | h
   ·cases h
   ·obtain ⟨k1, k3, k2⟩ := d2.ghosts i cs us ms' h
    exact ⟨Reps.mono hx _ (MuLe.refl _) k1, k3, fun d hd => ⟨hmark (d, dfr) (hD2 i cs us ms' h d hd) (k2 d hd).1, (k2 d hd).2⟩⟩
  ·rcases get hi with ⟨rfl, h⟩ | h
   ·simp only [HO.inv.injEq] at h
    subst h
    refine ⟨rfl, Sw', Sr', ⟨fun b hb => ?_, by rw [eq2]; exact Nat.le_trans hf.base q1.size, by rw [eq1, eq2]; exact hf.cb, by rw [eq2]; exact hf.ob, q4, q5, fun b hb i g hi hg => ?_, fun b o hb hc => ?_⟩, hIn, hrest⟩
    ·rcases q2 b hb with k | k
     ·exact hf.fr b k
     ·exact .inl (Nat.le_trans hst.keep.size k)
    ·obtain ⟨_, k2, k3⟩ := hst.heap.fresh i g b hi hg
     rcases q3 b hb with k | k | ⟨o, k⟩
     ·exact hf.own b k i g hi hg
     ·omega
     ·exact k3 o k
    ·rcases q2 b hb with k | k
     ·exact hf.imm b o k hc
     ·have := hst.lt b o hc; omega
   ·have hi0 := (d2.invs i I' h).1
    subst hi0
    rw [List.getElem?_set_self h0] at hi
    simp only [Option.some.injEq, HO.inv.injEq] at hi
    subst hi
    refine ⟨rfl, Sw', Sr', ⟨fun b hb => ?_, by rw [eq2]; exact Nat.le_trans hf.base q1.size, by rw [eq1, eq2]; exact hf.cb, by rw [eq2]; exact hf.ob, q4, q5, fun b hb i g hi hg => ?_, fun b o hb hc => ?_⟩, hIn, hrest⟩
    ·rcases q2 b hb with k | k
     ·exact hf.fr b k
     ·exact .inl (Nat.le_trans hst.keep.size k)
    ·obtain ⟨_, k2, k3⟩ := hst.heap.fresh i g b hi hg
     rcases q3 b hb with k | k | ⟨o, k⟩
     ·exact hf.own b k i g hi hg
     ·omega
     ·exact k3 o k
    ·rcases q2 b hb with k | k
     ·exact hf.imm b o k hc
     ·have := hst.lt b o hc; omega
  ·refine ⟨q1.os.trans hst.keep.os, q1.tape.trans hst.keep.tape, q1.output.trans hst.keep.output, Nat.le_trans hst.keep.size q1.size, fun k hk hm => ?_⟩
   rw [q1.block k ⟨Nat.lt_of_lt_of_le hk hst.keep.size, fun hs => ?_⟩]
   ·exact hst.keep.block k hk hm
   ·rcases hf.fr k hs with h | h
    ·omega
    ·exact hm h
 rcases q6 with ⟨rfl, hJ'⟩ | ⟨rfl, hJ'⟩
 ·exact ⟨_, _, _, rfl, h1, key It eqs.1 eqs.2.1 hJ', by unfold Rep; rfl⟩
 ·exact ⟨_, _, _, rfl, h2, key If eqs.2.2.1 eqs.2.2.2 hJ', by unfold Rep; rfl⟩
theorem op_sound {al : Option Nat} (hT : TOk G.P T) {o : Oper} {K : AV → KK} {X : XX} {Kn : KK} {r : Option Nat} {n : Nat} (h : opK al G.P T E H o.op K X) (hst : StC G C mu E H a w) {next : Act → World → Prop} (hn : ∀ a w, OpPost G o K a w → next a w) :
  o.wpIn (fw r) n G.P a w next (QOf G Kn X) := by
 have hnd : ∀ c, o.op ≠ .defer c := fun c hc => by rw [hc] at h; exact h
 by_cases hy : ∃ c f v, o.op = .call c ∧ c.callee = .value f ∧ evD E f = .raw v
 ·obtain ⟨c, f, v, ho, hc, hfe⟩ := hy
  rw [ho] at h
  unfold opK at h
  simp only [hc] at h
  rw [evK_iff, hfe] at h
  simp only at h
  rw [mapK_iff (evK E) (evD E) (evK_iff E)] at h
  have hf := rep_ev hst.env f
  rw [hfe] at hf
  have hfv : a.eval f = v := by unfold Rep at hf; exact hf
  obtain ⟨l, rfl, hy⟩ := yield_ok (us := []) h hst (mapK_ev hst.env _)
  refine ⟨fun _ _ => trivial, ?_⟩
  rw [Oper.semAt_eq _ _ _ hnd]
  obtain ⟨fn, tmps, assign, body, y1, y2⟩ := hy (n - 1)
  have hrun : (execOp a.eval o).run G.P w = .ok (.round l fn tmps assign body) w := by
   obtain ⟨cal, args, tys⟩ := c
   simp only at hc
   subst hc
   simp only [← Array.toList_map] at y1
   simp [execOp, ho, resolve, invoke, hfv, Deferred.ofValue, y1]
  rw [hrun]
  refine ⟨fun h => (by cases h), y2.mono fun e w' ⟨r, u, H', he, k1, k2, k3⟩ => ?_⟩
  subst he
  exact hn _ _ ⟨r, E, H', k1, C, mu, k2.frame (reps_put k2.env o.dst k3) (put_defers _ _ _)⟩
 ·exact wpIn_of_wp hnd (op_sound0 hT h hst hn hy)
end
end Go.Av
set_option linter.unusedSimpArgs false
set_option linter.unusedVariables false
namespace Go.Av
open Go.RowKit (Below)
def gdK (ops : List Oper) (E : List AV) (g : Option (Nat × Bool)) (Ky Kn : List AV → Prop) : Prop :=
 match g with
 | none => Ky E
 | some (j, want) => lkK ops j fun oj => match oj.dst with
  | some d => lkK E d fun v => (match v with
   | .lit b => (match b, want with
    | true, true => Ky E
    | false, false => Ky E
    | true, false => Kn E
    | false, true => Kn E)
   | .bool b => (match want with
    | true => (b = true → updK E d (.lit true) Ky) ∧ (b = false → updK E d (.lit false) Kn)
    | false => (b = false → updK E d (.lit false) Ky) ∧ (b = true → updK E d (.lit true) Kn))
   | .raw (.tuple ⟨[]⟩) => Kn E
   | _ => False)
  | none => False
def updOK (E : List AV) (d : Option Tmp) (x : AV) (K : List AV → Prop) : Prop := match d with | some d => updK E d x K | none => K E
theorem updOK_iff (E : List AV) (d : Option Tmp) (x : AV) (K : List AV → Prop) : updOK E d x K ↔ K (updO E d x) := by
 cases d <;> simp [updOK, updO, updK_iff]
def regK (P : Program) (T : List TY) (ops : List Oper) : List Oper → List AV → List HO → KK → XX → Prop
 | [], E, H, K, _ => K E H
 | o :: r, E, H, K, X => gdK ops E o.guard
   (fun E => opK none P T E H o.op (fun v E' H' => updOK E' o.dst v fun E'' => regK P T ops r E'' H' K X) X)
   (fun E => updOK E o.dst (.raw undef) fun E' => regK P T ops r E' H K X)
structure ACode (P : Program) (c : Code) (E : List AV) (H : List HO) (K : KK) (X : XX) : Prop where
 out : ∀ (n : Nat) (G : Cx) (a : Act) (w : World), G.P = P → St G E H a w → c.wpIn (fw G.rd) n P (QOf G K X) a w
def cdK (P : Program) (T : List TY) : Code → List AV → List HO → KK → XX → Prop
 | .skip, E, H, K, _ => K E H
 | .region id ops draw, E, H, K, X => match draw with
  | false => regK P T ops.toList ops.toList E H K X
  | true => ACode P (.region id ops true) E H K X
 | .seq a b, E, H, K, X => cdK P T a E H (fun E H => cdK P T b E H K X) X
 | .cond c a b, E, H, K, X => evK E c fun v => match v with
  | .lit t => (match t with | true => cdK P T a E H K X | false => cdK P T b E H K X)
  | .bool t => (t = true → cdK P T a E H K X) ∧ (t = false → cdK P T b E H K X)
  | _ => False
 | .block id b, E, H, K, X => cdK P T b E H K fun e E H => match e with
  | .exit i => (match Nat.beq i id with | true => K E H | false => X (.exit i) E H)
  | .ret => X .ret E H
  | .panic x => X (.panic x) E H
 | .exit id, E, H, _, X => X (.exit id) E H
 | .ret, E, H, _, X => X .ret E H
 | .label _, E, H, K, _ => K E H
 | .scope b, E, H, K, X => cdK P T b E H K X
 | c, E, H, K, X => ACode P c E H K X
section
variable {G : Cx} {C : CellSet} {w w' : World} {mu : Mu} {H : List HO} {E : List AV} {a : Act} {T : List TY} {P : Program}
theorem QOf.mono {K K' : KK} {X X' : XX} (hK : ∀ E H, K E H → K' E H) (hX : ∀ e E H, X e E H → X' e E H) : ∀ e a w, QOf G K X e a w → QOf G K' X' e a w
 | .normal, _, _, ⟨E, H, h1, h2⟩ => ⟨E, H, hK _ _ h1, h2⟩
 | .exit _, _, _, ⟨E, H, h1, h2⟩ => ⟨E, H, hX _ _ _ h1, h2⟩
 | .ret, _, _, ⟨E, H, h1, h2⟩ => ⟨E, H, hX _ _ _ h1, h2⟩
 | .panic _, _, _, ⟨x, v, E, H, C, mu, h1, h2, h3⟩ => ⟨x, v, E, H, C, mu, h1, hX _ _ _ h2, h3⟩
 | .goto _, _, _, h => h
 | .outgrown, _, _, h => h
theorem getD_of_rep {E : List AV} {tmps : Array Value} (h : Reps C w E mu tmps.toList) {d : Nat} {x : AV} (hd : E[d]? = some x) : ∃ v, tmps[d]? = some v ∧ Rep C w x mu v := by
 obtain ⟨h1, h2⟩ := (reps_iff E).1 h
 obtain ⟨hi, hx⟩ := List.getElem?_eq_some_iff.1 hd
 have hi' : d < tmps.toList.length := by omega
 refine ⟨tmps.toList[d], by simp at hi' ⊢, ?_⟩
 have := h2 d hi hi'
 rwa [hx] at this
theorem set_self_reps {E : List AV} {tmps : Array Value} (h : Reps C w E mu tmps.toList) {d : Nat} {v : Value} (hv : tmps[d]? = some v) {x : AV} (hx : Rep C w x mu v) : Reps C w (E.set d x) mu tmps.toList := by
 have := h.put d hx
 have e : tmps.setIfInBounds d v = tmps := by
  apply Array.ext_getElem?
  intro i
  rw [Array.getElem?_setIfInBounds]
  split
  ·rename_i hi; subst hi
   have hlt := (Array.getElem?_eq_some_iff.1 hv).1
   simp [hlt, hv]
   obtain ⟨_, hv⟩ := Array.getElem?_eq_some_iff.1 hv
   exact hv.symm
  ·rfl
 rwa [e] at this
theorem gd_sound {ops : Array Oper} {g : Option (Nat × Bool)} {o : Oper} (hg : o.guard = g) {Ky Kn : List AV → Prop} (hst : StC G C mu E H a w) (h : gdK ops.toList E g Ky Kn) :
  (Region.wanted o (yielded ops a.tmps) = true ∧ ∃ E', Ky E' ∧ StC G C mu E' H a w) ∨ (Region.wanted o (yielded ops a.tmps) = false ∧ ∃ E', Kn E' ∧ StC G C mu E' H a w) := by
 subst hg
 unfold gdK at h
 split at h
 ·rename_i hg
  exact .inl ⟨by simp [Region.wanted, hg], E, h, hst⟩
 ·rename_i j want hg
  replace h := (lkK_iff _ _ _).1 h; obtain ⟨oj, hoj, h⟩ := h
  split at h
  ·rename_i d hd
   replace h := (lkK_iff _ _ _).1 h; obtain ⟨v, hv, h⟩ := h
   obtain ⟨u, hu, hr⟩ := getD_of_rep hst.env hv
   have hy : ∀ b, u = .bool b → yielded ops a.tmps j = some b := fun b hb => by
    have : ops[j]? = some oj := by simpa using hoj
    simp [yielded, this, hd, hu, hb]
   have hw : ∀ b, u = .bool b → Region.wanted o (yielded ops a.tmps) = (b == want) := fun b hb => by
    simp [Region.wanted, hg, hy b hb]
   have setE : ∀ b, u = .bool b → StC G C mu (E.set d (.lit b)) H a w := fun b hb =>
    hst.frame (set_self_reps hst.env hu (by unfold Rep; exact hb)) rfl
   split at h
   ·rename_i b
    have hb := rep_lit_inv hr
    split at h
    ·exact .inl ⟨by rw [hw _ hb]; rfl, E, h, hst⟩
    ·exact .inl ⟨by rw [hw _ hb]; rfl, E, h, hst⟩
    ·exact .inr ⟨by rw [hw _ hb]; rfl, E, h, hst⟩
    ·exact .inr ⟨by rw [hw _ hb]; rfl, E, h, hst⟩
   ·rename_i b
    have hb := rep_bool_inv hr
    split at h
    ·cases b with
     | true => have := h.1 rfl; rw [updK_iff] at this; exact .inl ⟨by rw [hw _ hb]; rfl, _, this, setE _ hb⟩
     | false => have := h.2 rfl; rw [updK_iff] at this; exact .inr ⟨by rw [hw _ hb]; rfl, _, this, setE _ hb⟩
    ·cases b with
     | false => have := h.1 rfl; rw [updK_iff] at this; exact .inl ⟨by rw [hw _ hb]; rfl, _, this, setE _ hb⟩
     | true => have := h.2 rfl; rw [updK_iff] at this; exact .inr ⟨by rw [hw _ hb]; rfl, _, this, setE _ hb⟩
   ·have hb : u = .tuple ⟨[]⟩ := by unfold Rep at hr; exact hr
    refine .inr ⟨?_, E, h, hst⟩
    have : ops[j]? = some oj := by simpa using hoj
    simp [Region.wanted, hg, yielded, this, hd, hu, hb]
   ·exact h.elim
  ·exact h.elim
theorem reg_sound (hT : TOk G.P T) {r : Option Nat} {n : Nat} {ops : Array Oper} {K : KK} {X : XX} : ∀ (l : List Oper) {C : CellSet} {mu : Mu} {E : List AV} {H : List HO} {a : Act} {w : World}, regK G.P T ops.toList l E H K X → StC G C mu E H a w → wpListIn (fw r) n G.P ops (QOf G K X) l a w
 | [], _, _, _, _, _, _, h, hst => ⟨_, _, h, _, _, hst⟩
 | o :: l, C, mu, E, H, a, w, h, hst => by
  unfold regK at h
  unfold wpListIn
  rcases gd_sound rfl hst h with ⟨hw, E', h1, h2⟩ | ⟨hw, E', h1, h2⟩
  ·rw [if_pos hw]
   refine op_sound hT h1 h2 fun a' w' hp => ?_
   obtain ⟨x, E'', H', h3, C', mu', h4⟩ := hp
   rw [updOK_iff] at h3
   exact reg_sound hT l h3 h4
  ·rw [if_neg (by simp [hw])]
   rw [updOK_iff] at h1
   exact ⟨fun _ _ => trivial, reg_sound hT l h1 (h2.frame (reps_put h2.env o.dst (by unfold Rep; rfl)) (put_defers _ _ _))⟩
theorem stepR_scope {b : Frame} {a : Act} {k : List Item} {cs : List Frame} {w : World} {c : Code} : step P (lone (b.atR a (.code (.scope c) :: k)) cs w) = .next (lone (b.atR a (.code c :: .inScope c :: k)) cs w) :=
 step_lone_go (by simp [stepG, stepG.exec, Frame.atR])
theorem stepR_inScope {b : Frame} {a : Act} {k : List Item} {cs : List Frame} {w : World} {c : Code} : step P (lone (b.atR a (.inScope c :: k)) cs w) = .next (lone (b.atR a k) cs w) :=
 step_lone_go (by simp [stepG, stepG.exec, Frame.atR])
theorem wpIn_scope {F : Fence} {n : Nat} {Q : Exit → Act → World → Prop} {a : Act} {w : World} {c : Code} (hg : ∀ l a w, ¬ Q (.goto l) a w) (h : c.wpIn F n P Q a w) : (Code.scope c).wpIn F n P Q a w := by
 intro b k cs hro hb hr
 have h0 : (lone (b.atR a (.code (.scope c) :: k)) cs w).fenced P F := fenced_calm hb hr rfl
 obtain ⟨e, a₁, w₁, hq, harr⟩ := h b (.inScope c :: k) cs hro hb hr
 cases e with
 | normal => exact ⟨.normal, a₁, w₁, hq, .head h0 stepR_scope (StepsIn.trans harr (.one (fenced_calm hb hr rfl) stepR_inScope))⟩
 | exit id =>
  have hx : exitTo id (.inScope c :: k) = exitTo id k := by simp [exitTo]
  exact ⟨.exit id, a₁, w₁, hq, fun k' hk => .head h0 stepR_scope (harr.1 k' (by rw [hx]; exact hk)),
   fun hr' hk => let ⟨k₁, h1, h2⟩ := harr.2 hr' (by rw [hx]; exact hk); ⟨k₁, h1, .head h0 stepR_scope h2⟩⟩
 | goto l => exact absurd hq (hg _ _ _)
 | ret => exact ⟨_, a₁, w₁, hq, .of_steps (.one h0 stepR_scope) harr⟩
 | panic ch => exact ⟨_, a₁, w₁, hq, .of_steps (.one h0 stepR_scope) harr⟩
 | outgrown => exact ⟨_, a₁, w₁, hq, .of_steps (.one h0 stepR_scope) harr⟩
theorem cd_sound (hT : TOk P T) : ∀ (c : Code) {E : List AV} {H : List HO} {K : KK} {X : XX}, cdK P T c E H K X → ACode P c E H K X
 | .skip, E, H, K, X, h => ⟨fun n G a w hP hst => wpIn_skip ⟨E, H, h, hst⟩⟩
 | .region id ops draw, E, H, K, X, h => by
  unfold cdK at h
  cases draw with
  | false =>
   refine ⟨fun n G a w hP hst => ?_⟩
   obtain ⟨C, mu, hst⟩ := hst
   subst hP
   exact wpIn_region_list (reg_sound hT _ h hst)
  | true => exact h
 | .seq x y, E, H, K, X, h => ⟨fun n G a w hP hst => by
  unfold cdK at h
  refine wpIn_seq (wpIn_mono ((cd_sound hT x h).out n G a w hP hst) fun e a w q => ?_)
  cases e with
  | normal => obtain ⟨E', H', h1, h2⟩ := q; exact (cd_sound hT y h1).out n G a w hP h2
  | _ => exact q⟩
 | .cond c x y, E, H, K, X, h => ⟨fun n G a w hP hst => by
  unfold cdK at h
  rw [evK_iff] at h
  have hst0 := hst
  obtain ⟨C, mu, hst'⟩ := hst0
  have hr := rep_ev hst'.env c
  split at h
  ·rename_i t hb
   rw [hb] at hr
   have hv := rep_lit_inv hr
   cases t with
   | true => exact wpIn_cond_true hv ((cd_sound hT x h).out n G a w hP hst)
   | false => exact wpIn_cond_false hv ((cd_sound hT y h).out n G a w hP hst)
  ·rename_i t hb
   rw [hb] at hr
   have hv := rep_bool_inv hr
   exact wpIn_cond_split hv (fun ht => (cd_sound hT x (h.1 ht)).out n G a w hP hst) (fun ht => (cd_sound hT y (h.2 ht)).out n G a w hP hst)
  ·exact h.elim⟩
 | .block id b, E, H, K, X, h => ⟨fun n G a w hP hst => by
  unfold cdK at h
  refine wpIn_block (wpIn_mono ((cd_sound hT b h).out n G a w hP hst) fun e a w q => ?_)
  cases e with
  | normal => exact q
  | exit i =>
   obtain ⟨E', H', h1, h2⟩ := q
   simp only [Exit.inBlock]
   simp only at h1
   split at h1
   ·rename_i hb
    rw [if_pos (Nat.eq_of_beq_eq_true hb)]
    exact ⟨E', H', h1, h2⟩
   ·rename_i hb
    rw [if_neg (Nat.ne_of_beq_eq_false hb)]
    exact ⟨E', H', h1, h2⟩
  | ret => exact q
  | panic ch => exact q
  | goto l => exact q
  | outgrown => exact q⟩
 | .exit id, E, H, K, X, h => ⟨fun n G a w hP hst => wpIn_exit ⟨E, H, h, hst⟩⟩
 | .ret, E, H, K, X, h => ⟨fun n G a w hP hst => wpIn_ret ⟨E, H, h, hst⟩⟩
 | .loop b, _, _, _, _, h => h
 | .rangeFunc _ _ _ _, _, _, _, _, h => h
 | .scope b, E, H, K, X, h => ⟨fun n G a w hP hst => by
  unfold cdK at h
  exact wpIn_scope (fun l a w q => q) ((cd_sound hT b h).out n G a w hP hst)⟩
 | .label _, E, H, K, X, h => ⟨fun n G a w hP hst => wpIn_label ⟨E, H, h, hst⟩⟩
 | .goto _, _, _, _, _, h => h
 | .refuse _, _, _, _, _, h => h
theorem ACode.mono {c : Code} {K K' : KK} {X X' : XX} (h : ACode P c E H K X) (hK : ∀ E H, K E H → K' E H) (hX : ∀ e E H, X e E H → X' e E H) : ACode P c E H K' X' :=
 ⟨fun n G a w hP hst => wpIn_mono (h.out n G a w hP hst) (QOf.mono hK hX)⟩
theorem ACode.seq {x y : Code} {K : KK} {X : XX} (h : ACode P x E H (fun E H => ACode P y E H K X) X) : ACode P (.seq x y) E H K X :=
 ⟨fun n G a w hP hst => wpIn_seq (wpIn_mono (h.out n G a w hP hst) fun e a w q => by
  cases e with
  | normal => obtain ⟨E', H', h1, h2⟩ := q; exact h1.out n G a w hP h2
  | _ => exact q)⟩
def leA (x y : AV) : Prop :=
 match y with
 | .any => True
 | .int k b => (match x with | .int k' a => (match kEq k' k with | true => a = b | false => False) | _ => False)
 | .bool b => (match x with | .bool a => a = b | .lit a => a = b | _ => False)
 | y => x = y
def LeE : List AV → List AV → Prop
 | [], [] => True
 | x :: xs, y :: ys => leA x y ∧ LeE xs ys
 | _, _ => False
theorem leA_rep {x y : AV} (h : leA x y) {v : Value} (hr : Rep C w x mu v) : Rep C w y mu v := by
 unfold leA at h
 split at h
 ·exact rep_any v
 ·split at h
  ·split at h
   ·rename_i hk; obtain rfl := kEq_eq hk; subst h; exact hr
   ·exact h.elim
  ·exact h.elim
 ·split at h
  ·subst h; exact hr
  ·subst h; unfold Rep at *; exact hr
  ·exact h.elim
 ·subst h; exact hr
theorem LeE_reps : ∀ {xs ys : List AV} {vs : List Value}, LeE xs ys → Reps C w xs mu vs → Reps C w ys mu vs
 | [], [], _, _, h => h
 | x :: xs, y :: ys, _, hl, h => by
  unfold LeE at hl
  unfold Reps at *
  obtain ⟨v, vs', h1, h2, h3⟩ := h
  exact ⟨v, vs', h1, leA_rep hl.1 h2, LeE_reps hl.2 h3⟩
 | [], _ :: _, _, hl, _ => by unfold LeE at hl; exact hl.elim
 | _ :: _, [], _, hl, _ => by unfold LeE at hl; exact hl.elim
theorem St.le {E' : List AV} (h : St G E H a w) (hl : LeE E E') : St G E' H a w := by
 obtain ⟨C, mu, h⟩ := h
 exact ⟨C, mu, h.frame (LeE_reps hl h.env) rfl⟩
def mkGo : Nat → Nat → List (Nat × AV) → List AV
 | 0, _, _ => []
 | n + 1, i, [] => .any :: mkGo n (i + 1) []
 | n + 1, i, (j, v) :: l => match Nat.beq i j with
  | true => v :: mkGo n (i + 1) l
  | false => .any :: mkGo n (i + 1) ((j, v) :: l)
def mk (n : Nat) (l : List (Nat × AV)) : List AV := mkGo n 0 l
def leK : List AV → List AV → Prop → Prop
 | [], [], Q => Q
 | x :: xs, y :: ys, Q => (match y with
  | .any => leK xs ys Q
  | .int k b => (match x with | .int k' a => (match kEq k' k with | true => a = b ∧ leK xs ys Q | false => False) | _ => False)
  | .bool b => (match x with | .bool a => a = b ∧ leK xs ys Q | .lit a => a = b ∧ leK xs ys Q | _ => False)
  | y => x = y ∧ leK xs ys Q)
 | _, _, _ => False
theorem leK_iff : ∀ (xs ys : List AV) (Q : Prop), leK xs ys Q → LeE xs ys ∧ Q
 | [], [], Q, h => ⟨trivial, h⟩
 | x :: xs, y :: ys, Q, h => by
  unfold leK at h
  have key : leA x y ∧ leK xs ys Q := by
   cases y with
   | any => exact ⟨trivial, h⟩
   | int k b =>
    cases x with
    | int k' a =>
     simp only at h
     unfold leA
     simp only
     split at h
     ·exact h
     ·exact h.elim
    | _ => exact h.elim
   | bool b => cases x <;> first | exact h | exact h.elim
   | _ => exact h
  obtain ⟨h1, h2⟩ := leK_iff xs ys Q key.2
  exact ⟨⟨key.1, h1⟩, h2⟩
 | [], _ :: _, _, h => by unfold leK at h; exact h.elim
 | _ :: _, [], _, h => by unfold leK at h; exact h.elim
theorem leK_intro : ∀ (xs ys : List AV) {Q : Prop}, LeE xs ys → Q → leK xs ys Q
 | [], [], _, _, q => q
 | x :: xs, y :: ys, Q, h, q => by
  unfold LeE at h
  have ih := leK_intro xs ys h.2 q
  have h1 := h.1
  unfold leK
  cases y with
  | any => exact ih
  | int k b =>
   cases x with
   | int k' a =>
    unfold leA at h1
    simp only at h1 ⊢
    split at h1
    ·exact ⟨h1, ih⟩
    ·exact h1.elim
   | _ => exact h1.elim
  | bool b => cases x <;> first | exact ⟨h1, ih⟩ | exact h1.elim
  | _ => exact ⟨h1, ih⟩
 | [], _ :: _, _, h, _ => by unfold LeE at h; exact h.elim
 | _ :: _, [], _, h, _ => by unfold LeE at h; exact h.elim
theorem exists_min (p : Nat → Prop) (h : ∃ n, p n) : ∃ n, p n ∧ ∀ m, p m → n ≤ m := by
 obtain ⟨n, hn⟩ := h
 induction n using Nat.strongRecOn with
 | _ n ih =>
  by_cases hm : ∃ m, m < n ∧ p m
  ·obtain ⟨m, h1, h2⟩ := hm
   exact ih m h1 h2
  ·exact ⟨n, hn, fun m h => by
    rcases Nat.lt_or_ge m n with h' | h'
    ·exact absurd ⟨m, h', h⟩ hm
    ·exact h'⟩
open Classical in
theorem ACode.loop {b : Code} (Inv : Nat → KK) {K : KK} {X : XX} (h0' : ∃ n E', leK E E' (Inv n E' H))
  (step : ∀ n E H, Inv n E H → ACode P b E H (fun E' H' => ∃ m E'', leK E' E'' (m < n ∧ Inv m E'' H')) X) : ACode P (.loop b) E H K X := by
 have h0 : ∃ n E', LeE E E' ∧ Inv n E' H := let ⟨n, E', h⟩ := h0'; ⟨n, E', leK_iff _ _ _ h⟩
 refine ⟨fun n G a w hP hst => ?_⟩
 have hI0 : ∃ n E H, Inv n E H ∧ St G E H a w := by
  obtain ⟨n, E', h1, h2⟩ := h0
  exact ⟨n, E', H, h2, hst.le h1⟩
 let I : Act → World → Prop := fun a w => ∃ n E H, Inv n E H ∧ St G E H a w
 let μ : Act → World → Nat := fun a w => if h : I a w then Classical.choose (exists_min _ h) else 0
 refine wpIn_loop I μ hI0 fun a w hI => ?_
 have hm : μ a w = Classical.choose (exists_min _ hI) := dif_pos hI
 obtain ⟨E1, H1, k1, k2⟩ := (Classical.choose_spec (exists_min _ hI)).1
 refine wpIn_mono ((step _ _ _ k1).out n G a w hP k2) fun e a' w' q => ?_
 cases e with
 | normal =>
  obtain ⟨E2, H2, ⟨m, E3, k345⟩, k6⟩ := q
  obtain ⟨k4, k3, k5⟩ := leK_iff _ _ _ k345
  have hI' : I a' w' := ⟨m, E3, H2, k5, k6.le k4⟩
  refine ⟨hI', ?_⟩
  have : μ a' w' = Classical.choose (exists_min _ hI') := dif_pos hI'
  rw [this, hm]
  have := (Classical.choose_spec (exists_min _ hI')).2 m ⟨E3, H2, k5, k6.le k4⟩
  omega
 | exit id => exact q
 | ret => exact q
 | panic ch => exact q
 | goto l => exact q
 | outgrown => exact q
theorem ACode.loopT {b : Code} {ι : Type} (tm : ι → List AV) (hp : ι → List HO) (pre : ι → Prop) (μ : ι → Nat) {K : KK} {X : XX} (h0 : ∃ i, leK E (tm i) (H = hp i ∧ pre i))
  (step : ∀ i, pre i → ACode P b (tm i) (hp i) (fun E' H' => ∃ j, leK E' (tm j) (H' = hp j ∧ pre j ∧ μ j < μ i)) X) : ACode P (.loop b) E H K X := by
 refine ACode.loop (fun n E H => ∃ i, n = μ i ∧ E = tm i ∧ H = hp i ∧ pre i) ?_ ?_
 ·obtain ⟨i, h⟩ := h0
  obtain ⟨h1, h2, h3⟩ := leK_iff _ _ _ h
  exact ⟨μ i, tm i, leK_intro _ _ h1 ⟨i, rfl, rfl, h2, h3⟩⟩
 ·rintro n E H ⟨i, rfl, rfl, rfl, hi⟩
  refine (step i hi).mono (fun E' H' ⟨j, h⟩ => ?_) (fun _ _ _ h => h)
  obtain ⟨h1, h2, h3, h4⟩ := leK_iff _ _ _ h
  exact ⟨μ j, tm j, leK_intro _ _ h1 ⟨h4, j, rfl, rfl, h2, h3⟩⟩
end
end Go.Av
set_option linter.unusedSimpArgs false
set_option linter.unusedVariables false
namespace Go.Av
open Go.RowKit (Below)
structure Ctr (P : Program) (f : FuncId) (args : List AV) (R : AV → Prop) : Prop where
 good : goodF P f = true
 out : ∀ (C : CellSet) (w : World) (vs : List Value), COK C w → Reps C w args Mu.none vs →
  Calls P f vs.toArray w fun e w' => ∃ r v, e = .returned v ∧ R r ∧ Below w.heap.size w w' ∧ Rep (newC C w.heap.size w'.heap.size) w' r Mu.none v
def closeK (H : List HO) (v : AV) (K : AV → Prop) : Prop :=
 match v with
 | .own l sz lo n => lkK H l fun ob => (match ob with
  | .arr _ sz' es => (match Nat.beq sz sz' && Nat.beq lo 0 with
   | true => (n = es.length ∧ ∀ e ∈ es, closed e = true) ∧ K (.sl sz es)
   | false => False)
  | _ => False)
 | .raw (.slice none 0 0) => ∃ sz, K (.sl sz [])
 | .lit b => K (.bool b)
 | .om l => lkK H l fun ob => (match ob with | .map ks vs => K (.mp ks vs) | _ => False)
 | v => (match closed v with | true => v.force K | false => False)
def closesK (H : List HO) : List AV → (List AV → Prop) → Prop
 | [], K => K []
 | a :: as, K => closeK H a fun a => closesK H as fun as => K (a :: as)
def closeR (H : List HO) : Nat → AV → (AV → Prop) → Prop
 | 0, v, K => closeK H v K
 | n + 1, v, K => match v with
  | .fn f cap => mapK (closeR H n) cap fun cs => K (.fn f cs)
  | .mv f cap => mapK (closeR H n) cap fun cs => K (.mv f cs)
  | .agg cs => mapK (closeR H n) cs fun cs => K (.agg cs)
  | .iface t x => closeR H n x fun x => K (.iface t x)
  | .ptr l o => lkK H l fun ob => (match ob with
   | .cells cs => mapK (closeR H n) cs fun cs => dropK cs o fun cs => K (.at_ cs)
   | _ => False)
  | v => closeK H v K
def resK (T : List TY) (E : List AV) (H : List HO) : List ResultVar → (List AV → Prop) → Prop
 | [], K => K []
 | .tmp t :: r, K => lkA E t fun v => resK T E H r fun vs => K (v :: vs)
 | .cell a t :: r, K => lkA E a fun p => loadK T H t p fun v => resK T E H r fun vs => K (v :: vs)
def retK (T : List TY) (rs : List ResultVar) (R : AV → Prop) (E : List AV) (H : List HO) : Prop :=
 resK T E H rs fun vs => match vs with
  | [v] => closeR H 4 v R
  | vs => mapK (closeR H 4) vs fun vs => R (.tuple vs)
section
variable {G : Cx} {C : CellSet} {w w' : World} {mu : Mu} {H : List HO} {E : List AV} {a : Act} {T : List TY} {P : Program}
theorem close_gen {C' : CellSet} (h : StC G C mu E H a w) (hxx : Ext C C' w w) (hob' : ∀ l g b o, mu l = some g → g.block? = some b → C' b o) {x : AV} {u : Value} (hx : Rep C w x mu u) {R : AV → Prop} (hk : closeK H x R) :
  ∃ r, R r ∧ Rep C' w r Mu.none u := by
 unfold closeK at hk
 split at hk
 ·rename_i l sz lo n
  replace hk := (lkK_iff _ _ _).1 hk; obtain ⟨ob, hob, hk⟩ := hk
  cases ob with
  | cells _ => exact hk.elim
  | dead => exact hk.elim
  | ghost _ _ _ => exact hk.elim
  | inv _ => exact hk.elim
  | map _ _ => exact hk.elim
  | arr e sz' es =>
   simp only at hk
   split at hk
   ·rename_i hb
    simp only [Bool.and_eq_true] at hb
    obtain rfl := Nat.eq_of_beq_eq_true hb.1
    obtain rfl := Nat.eq_of_beq_eq_true hb.2
    obtain ⟨⟨rfl, hc⟩, hk⟩ := hk
    exact ⟨_, hk, rows_own h.heap hxx (fun g b o hm hb => hob' _ g b o hm hb) hob hc hx⟩
   ·exact hk.elim
 ·obtain ⟨sz, hk⟩ := hk
  refine ⟨_, hk, ?_⟩
  unfold Rep at hx ⊢
  exact .inl ⟨⟨_, hx⟩, rfl⟩
 ·exact ⟨_, hk, by unfold Rep at *; exact hx⟩
 ·rename_i l
  replace hk := (lkK_iff _ _ _).1 hk; obtain ⟨ob, hob, hk⟩ := hk
  cases ob <;> first | exact hk.elim | skip
  rename_i ks vs
  obtain ⟨b, es, clock, h1, h2, h3⟩ := h.heap.maps l ks vs hob
  unfold Rep at hx
  obtain ⟨b', h4, h5⟩ := hx
  rw [h1] at h4
  simp only [Option.some.injEq, GO.blk.injEq] at h4
  subst h4
  refine ⟨_, hk, ?_⟩
  unfold Rep
  exact .inr ⟨b, es, clock, h5, hob' l _ b 0 h1 rfl, h2, (h3 _ _).1, (h3 _ _).2⟩
 ·split at hk
  ·rename_i hc
   rw [AV.force_iff] at hk
   exact ⟨_, hk, Rep.mono hxx _ (MuLe.refl _) (closed_rep _ hc hx)⟩
  ·exact hk.elim
theorem close_ok (h : StC G C mu E H a w) (hM : ∀ b, ¬ G.M0 b) {x : AV} {u : Value} (hx : Rep C w x mu u) {R : AV → Prop} (hk : closeK H x R) :
  ∃ r, R r ∧ Rep (newC G.C0 G.W0.heap.size w.heap.size) w r Mu.none u :=
 close_gen h ⟨fun b o hc => (h.c1 b o hc).imp id fun k => ⟨k.resolve_right (hM b), h.lt b o hc⟩, fun _ _ _ => rfl⟩ (fun l g b o hm hb => .inr ⟨(h.heap.fresh _ g b hm hb).1.resolve_right (hM b), (h.heap.fresh _ g b hm hb).2.1⟩) hx hk
theorem mapR_ok {C' : CellSet} {mu' : Mu} {f : AV → (AV → Prop) → Prop} (hf : ∀ {x : AV} {u : Value}, Rep C w x mu u → ∀ {R : AV → Prop}, f x R → ∃ r, R r ∧ Rep C' w r mu' u) :
  ∀ {xs : List AV} {us : List Value}, Reps C w xs mu us → ∀ {R : List AV → Prop}, mapK f xs R → ∃ rs, R rs ∧ Reps C' w rs mu' us
 | [], us, hx, R, hk => ⟨[], hk, by unfold Reps at *; exact hx⟩
 | x :: xs, us, hx, R, hk => by
  unfold mapK at hk
  unfold Reps at hx
  obtain ⟨v, vs', rfl, h2, h3⟩ := hx
  obtain ⟨r, hk, hr⟩ := hf h2 hk
  obtain ⟨rs, hk, hrs⟩ := mapR_ok hf h3 hk
  exact ⟨r :: rs, hk, by unfold Reps; exact ⟨v, vs', rfl, hr, hrs⟩⟩
theorem closeR_ok (h : StC G C mu E H a w) (hM : ∀ b, ¬ G.M0 b) : ∀ (n : Nat) {x : AV} {u : Value}, Rep C w x mu u → ∀ {R : AV → Prop}, closeR H n x R →
  ∃ r, R r ∧ Rep (newC G.C0 G.W0.heap.size w.heap.size) w r Mu.none u
 | 0, x, u, hx, R, hk => close_ok h hM hx hk
 | n + 1, x, u, hx, R, hk => by
  have ih : ∀ {x : AV} {u : Value}, Rep C w x mu u → ∀ {R : AV → Prop}, closeR H n x R → ∃ r, R r ∧ Rep (newC G.C0 G.W0.heap.size w.heap.size) w r Mu.none u := fun hx _ hk => closeR_ok h hM n hx hk
  unfold closeR at hk
  split at hk
  ·unfold Rep at hx
   obtain ⟨vs, rfl, hx⟩ := hx
   obtain ⟨rs, hk, hr⟩ := mapR_ok (fun hx _ hk => ih hx hk) hx hk
   exact ⟨_, hk, by unfold Rep; exact ⟨vs, rfl, hr⟩⟩
  ·unfold Rep at hx
   obtain ⟨vs, rfl, hx⟩ := hx
   obtain ⟨rs, hk, hr⟩ := mapR_ok (fun hx _ hk => ih hx hk) hx hk
   exact ⟨_, hk, by unfold Rep; exact ⟨vs, rfl, hr⟩⟩
  ·unfold Rep at hx
   obtain ⟨vs, rfl, hx⟩ := hx
   obtain ⟨rs, hk, hr⟩ := mapR_ok (fun hx _ hk => ih hx hk) hx hk
   exact ⟨_, hk, by unfold Rep; exact ⟨vs, rfl, hr⟩⟩
  ·unfold Rep at hx
   obtain ⟨y, rfl, hx⟩ := hx
   obtain ⟨r, hk, hr⟩ := ih hx hk
   exact ⟨_, hk, by unfold Rep; exact ⟨y, rfl, hr⟩⟩
  ·rename_i l o
   replace hk := (lkK_iff _ _ _).1 hk; obtain ⟨ob, hob, hk⟩ := hk
   cases ob <;> first | exact hk.elim | skip
   rename_i cs
   simp only at hk
   unfold Rep at hx
   obtain ⟨b, hm, rfl⟩ := hx
   obtain ⟨b', cur, e, hm', hb, hr, h1⟩ := h.heap.recs l cs hob
   rw [hm] at hm'
   simp only [Option.some.injEq, GO.blk.injEq] at hm'
   subst hm'
   obtain ⟨rs, hk, hrs⟩ := mapR_ok (fun hx _ hk => ih hx hk) hr hk
   rw [dropK_iff] at hk
   obtain ⟨f1, f2, _⟩ := h.heap.fresh l _ b hm rfl
   refine ⟨_, hk, ?_⟩
   unfold Rep
   refine ⟨b, o, rfl, (cells_iff _ _).2 fun i hi => ?_⟩
   have hri := (reps_iff _).1 hrs
   have hi1 : o + i < rs.length := by simp at hi; omega
   have hi2 : o + i < cur.toList.length := by rw [hri.1]; exact hi1
   refine ⟨cur.toList[o + i], h1 _ (List.getElem_mem hi2), ⟨.inr ⟨f1.resolve_right (hM b), f2⟩, ?_⟩, ?_⟩
   ·rw [cell_of_row w b _ cur e _ hb]
    simp at hi2 ⊢
   ·have := hri.2 (o + i) hi1 hi2
    simp only [List.getElem_drop]
    exact this
  ·exact close_ok h hM hx hk
theorem StC.takeMark {D : Nat} {ms : List Nat} (h : StC G C mu E H a w) (hx : XRel C w G.fresh mu H ((D :: ms).map (fun D => (D, dfr)) ++ G.rds)) :
  StC G C mu E H { a with defers := ms.map mark ++ G.ds } (w.putObj D (.deferred none)) ∧ XRel C (w.putObj D (.deferred none)) G.fresh mu H (ms.map (fun D => (D, dfr)) ++ G.rds) := by
 simp only [List.map_cons, List.cons_append] at hx
 generalize hds : ms.map (fun D => (D, dfr)) ++ G.rds = ds at hx
 have hm := hx.marks (D, dfr) (by simp)
 have hlt := (Array.getElem?_eq_some_iff.1 hm.at_).1
 have hoth : ∀ {b}, b ≠ D → (w.putObj D (.deferred none)).heap[b]? = w.heap[b]? := fun hb => World.putObj_heap_other hb
 have hs : (w.putObj D (.deferred none)).heap.size = w.heap.size := by simp [World.putObj]
 have hext : Ext C C w (w.putObj D (.deferred none)) := Ext.of_block (fun _ _ h => h) fun b o hc => hoth fun e => hm.imm o (by rw [← e]; exact hc)
 have hnd : D ∉ ds.map Prod.fst := (List.nodup_cons.1 hx.nd).1
 have hmk : ∀ {D' : Nat × Obj}, D'.1 ≠ D → MarkOK C w G.fresh mu D' → MarkOK C (w.putObj D (.deferred none)) G.fresh mu D' := fun hne k => ⟨by rw [hoth hne]; exact k.at_, k.imm, k.own, k.fr⟩
 have hX : XRel C (w.putObj D (.deferred none)) G.fresh mu H ds := by
  refine ⟨fun l cs vs ms' hl => ?_, fun l I hl => ?_, fun D' hd => hmk (fun e => hnd (e ▸ List.mem_map_of_mem hd)) (hx.marks D' (by simp [hd])), (List.nodup_cons.1 hx.nd).2, hx.sep⟩
  ·obtain ⟨k1, k2, k3⟩ := hx.ghosts l cs vs ms' hl
   exact ⟨Reps.mono hext _ (MuLe.refl _) k1, k2, fun D' hd => ⟨hmk (fun e => (k3 D' hd).2 (List.mem_cons.2 (.inl e))) (k3 D' hd).1, fun hd' => (k3 D' hd).2 (List.mem_cons_of_mem _ hd')⟩⟩
  ·obtain ⟨h0, Sw, Sr, h1, h2, h3, h4⟩ := hx.invs l I hl
   exact ⟨h0, Sw, Sr, ⟨h1.fr, by rw [hs]; exact h1.base, h1.cb, h1.ob, h1.sub, fun b hb => by rw [hs]; exact h1.lt b hb, h1.own, h1.imm⟩, I.stab Sw Sr w _ h2 ⟨rfl, rfl, rfl, Nat.le_of_eq hs.symm, fun b hb => hoth fun e => h3 (D, dfr) (by simp) (e ▸ hb)⟩, fun D' hd => h3 D' (List.mem_cons_of_mem _ hd), h4⟩
 refine ⟨⟨h.c0, h.c1, fun b o hc => by rw [hs]; exact h.lt b o hc, ⟨h.heap.dom, fun l g b hl hg => ?_, h.heap.sep, h.heap.dead, fun l cs hl => ?_, fun l e sz es hl => ?_, fun l ks vs hl => ?_⟩, Reps.mono hext _ (MuLe.refl _) h.env, ⟨ms, rfl, hds ▸ hX⟩,
  ⟨h.keep.os, h.keep.tape, h.keep.output, by rw [hs]; exact h.keep.size, fun k hk hn => ?_⟩, h.pin⟩, hX⟩
 ·obtain ⟨k1, k2, k3⟩ := h.heap.fresh l g b hl hg
  exact ⟨k1, by rw [hs]; exact k2, k3⟩
 ·obtain ⟨b, cur, e, k1, k2, k3, k4⟩ := h.heap.recs l cs hl
  exact ⟨b, cur, e, k1, by rw [hoth fun ee => hm.own l _ k1 (by rw [← ee]; rfl)]; exact k2, Reps.mono hext _ (MuLe.refl _) k3, k4⟩
 ·obtain ⟨k0, k⟩ := h.heap.arrs l e sz es hl
  exact ⟨k0, k.imp id fun ⟨b, cap, cur, k1, k2, k3, k4, k5, k6, k7⟩ => ⟨b, cap, cur, k1, k2.of_eq (by rw [hoth fun ee => hm.own l _ k1 (by rw [← ee]; rfl)]), k3, k4, k5, Reps.mono hext _ (MuLe.refl _) k6, k7⟩⟩
 ·obtain ⟨b, es, cl, k1, k2, k3⟩ := h.heap.maps l ks vs hl
  exact ⟨b, es, cl, k1, by rw [hoth fun ee => hm.own l _ k1 (by rw [← ee]; rfl)]; exact k2, k3⟩
 ·rw [hoth fun e => ?_]
  ·exact h.keep.block k hk hn
  ·subst e
   rcases hm.fr with k | k
   ·omega
   ·exact hn k
theorem leaves_ok {n : Nat} {fn : Func} {R : Ending → World → Prop} {tmps : Array Value} (hds : G.ds = []) : ∀ (ms : List Nat) {w : World} {a : Act}, a.tmps = tmps → StC G C mu E H a w → XRel C w G.fresh mu H (ms.map (fun D => (D, dfr)) ++ G.rds) →
  (∀ a' w', a'.tmps = tmps → StC G C mu E H a' w' → ∃ v, (results fn tmps).run G.P w' = .ok v w' ∧ R (.returned v) w') → LeavesInM (fw none) n G.P fn tmps R (ms.map mark) .returning w
 | [], w, a, ha, h, hx, hr => by
  simp only [List.map_nil, LeavesInM, LeavesIn]
  exact hr a w ha h
 | D :: ms, w, a, ha, h, hx, hr => by
  simp only [List.map_cons, LeavesInM]
  obtain ⟨h1, h2⟩ := h.takeMark hx
  exact ⟨by simp, .inl ⟨D, _, rfl, run_takeDeferred (hx.marks (D, dfr) (by simp)).at_, leaves_ok hds ms (a := { a with defers := ms.map mark ++ G.ds }) ha h1 h2 hr⟩⟩
def resF (tmps : Array Value) : ResultVar → Sem Value
 | .tmp t => pure (tmps.getD t undef)
 | .cell a t => do loadVar t (← asAddr (tmps.getD a undef))
theorem results_eq (fn : Func) (tmps : Array Value) : results fn tmps = (fn.results.mapM (resF tmps) >>= fun vs => pure (if h : vs.size = 1 then vs[0] else .tuple vs)) := by
 unfold results
 congr 1
theorem heap_empty (C : CellSet) (w : World) (fr : Nat → Prop) : HeapRel C w fr Mu.none [] := by
 refine ⟨?_, ?_, ?_, ?_, ?_, ?_, ?_⟩
 ·intro l g h; cases h
 ·intro l g b h; cases h
 ·intro l g b l' g' h; cases h
 ·intro l h; cases h
 ·intro l cs h; cases h
 ·intro l e sz es h; cases h
 ·intro l ks vs h; cases h
theorem xrel_empty (C : CellSet) (w : World) (fr : Nat → Prop) (mu : Mu) : XRel C w fr mu [] [] :=
 ⟨fun l cs vs ms h => (by simp at h), fun l I h => (by simp at h), fun D h => (by cases h), List.nodup_nil, fun l l' cs vs ms cs' vs' ms' h => (by simp at h)⟩
theorem res_ok (hT : TOk G.P T) (h : StC G C mu E H a w) : ∀ (rs : List ResultVar) {K : List AV → Prop}, resK T E H rs K →
  ∃ xs us, K xs ∧ Reps C w xs mu us ∧ (rs.mapM (resF a.tmps)).run G.P w = .ok us w
 | [], K, hk => ⟨[], [], hk, by unfold Reps; rfl, by simp⟩
 | .tmp t :: r, K, hk => by
  unfold resK at hk
  rw [lkA_iff] at hk
  obtain ⟨xs, us, h1, h2, h3⟩ := res_ok hT h r hk
  refine ⟨_, _, h1, by unfold Reps; exact ⟨_, us, rfl, h.env.get t, h2⟩, ?_⟩
  rw [List.mapM_cons]
  simp only [resF, Sem.run_bind, Sem.run_pure, Result.andThen_ok, h3]
 | .cell p t :: r, K, hk => by
  unfold resK at hk
  rw [lkA_iff] at hk
  have hp := h.env.get p
  obtain ⟨x, v, hk, hr, hrun⟩ := run_loadK hT h.heap hp hk
  obtain ⟨xs, us, h1, h2, h3⟩ := res_ok hT h r hk
  refine ⟨_, _, h1, by unfold Reps; exact ⟨v, us, rfl, hr, h2⟩, ?_⟩
  have ha : ∃ ad, a.tmps.getD p undef = .pointer (some ad) := by
   unfold Instr.loadAt Instr.sureAddr at hrun
   generalize a.tmps.getD p undef = q at hrun
   cases q <;> first | (simp at hrun; done) | skip
   rename_i o
   cases o with
   | none => simp at hrun
   | some ad => exact ⟨ad, rfl⟩
  obtain ⟨ad, ha⟩ := ha
  rw [ha] at hrun
  simp only [Instr.loadAt, Instr.sureAddr, Sem.run_bind, Sem.run_pure, Result.andThen_ok] at hrun
  rw [List.mapM_cons]
  simp only [resF, ha, asAddr, Sem.run_bind, Sem.run_pure, Result.andThen_ok, hrun, h3]
theorem ret_ok (hT : TOk G.P T) (h : StC G C mu E H a w) (hM : ∀ b, ¬ G.M0 b) {fn : Func} {R : AV → Prop} (hk : retK T fn.results.toList R E H) :
  ∃ r v, R r ∧ (results fn a.tmps).run G.P w = .ok v w ∧ Rep (newC G.C0 G.W0.heap.size w.heap.size) w r Mu.none v := by
 unfold retK at hk
 obtain ⟨xs, us, hk, hr, hrun⟩ := res_ok hT h _ hk
 have hm : (fn.results.mapM (resF a.tmps)).run G.P w = .ok us.toArray w := by
  rw [Array.mapM_eq_mapM_toList]
  simp only [Sem.run_map, hrun, Result.andThen_ok]
 have hres : (results fn a.tmps).run G.P w = .ok (if h : us.toArray.size = 1 then us.toArray[0] else .tuple us.toArray) w := by
  rw [results_eq, Sem.run_bind, hm]
  rfl
 rw [hres]
 split at hk
 ·rename_i v
  unfold Reps at hr
  obtain ⟨u, us', rfl, hr, hr'⟩ := hr
  unfold Reps at hr'
  subst hr'
  obtain ⟨r, hk, hr⟩ := closeR_ok h hM 4 hr hk
  exact ⟨r, u, hk, by simp, hr⟩
 ·rename_i hne
  obtain ⟨rs, hk, hrs⟩ := mapR_ok (fun hx _ hk => closeR_ok h hM 4 hx hk) hr hk
  have hl : us.length ≠ 1 := fun e => by
   have := reps_len _ hr
   rw [e] at this
   cases xs with
   | nil => simp at this
   | cons x xs =>
    cases xs with
    | nil => exact hne x rfl
    | cons _ _ => simp at this
  exact ⟨_, _, hk, by simp [hl]; rfl, by unfold Rep; exact ⟨us, rfl, hrs⟩⟩
theorem reps_replicate : ∀ (n : Nat), Reps C w (List.replicate n (.raw undef)) mu (List.replicate n undef)
 | 0 => by simp [Reps]
 | n + 1 => by
  simp only [List.replicate_succ]
  unfold Reps
  exact ⟨_, _, rfl, by unfold Rep; rfl, reps_replicate n⟩
def enterK (n : Nat) (args : List AV) (K : List AV → Prop) : Prop := repK (AV.raw undef) (n - args.length) fun r => appK args r K
theorem Ctr.of_body {f : FuncId} {fn : Func} {c : Code} {args : List AV} {R : AV → Prop} (hf : P.funcs[f]? = some fn) (hb : fn.body = some c) (hT : TOk P T) (hg : goodF P f = true)
  (h : enterK fn.ntmps args fun E => ACode P c E [] (retK T fn.results.toList R) (fun e E H => match e with | .ret => retK T fn.results.toList R E H | _ => False)) : Ctr P f args R := by
 refine ⟨hg, fun C w vs hlt hr => (callsIn_wide (n := 0)).1 (callsIn_of_wp_marks (F := Fence.wide) (n := 0) hf hb trivial ?_ rfl)⟩
 unfold enterK at h
 rw [repK_iff, appK_iff] at h
 let G : Cx := { P := P, C0 := C, M0 := fun _ => False, W0 := w, gok := ⟨hlt, fun _ _ _ h => h⟩ }
 have hst : St G (args ++ List.replicate (fn.ntmps - args.length) (.raw undef)) [] { tmps := vs.toArray ++ Array.replicate (fn.ntmps - vs.toArray.size) undef, defers := [] } w := by
  refine ⟨C, Mu.none, fun _ _ h => h, fun _ _ h => .inl h, hlt.lt, heap_empty _ _ _, ?_, ⟨[], rfl, xrel_empty _ _ _ _⟩, ⟨rfl, rfl, rfl, Nat.le_refl _, fun _ _ _ => rfl⟩, Nat.zero_le _, fun _ _ h => absurd h (Nat.not_lt_zero _)⟩
  have hl := reps_len _ hr
  have := reps_append hr (reps_replicate (C := C) (w := w) (mu := Mu.none) (fn.ntmps - args.length))
  simpa [hl] using this
 have fin : ∀ E H a w', retK T fn.results.toList R E H → St G E H a w' → LeavesInM (fw none) 0 P fn a.tmps (fun e w' => ∃ r v', e = .returned v' ∧ R r ∧ Below w.heap.size w w' ∧ Rep (newC C w.heap.size w'.heap.size) w' r Mu.none v') a.defers .returning w' := by
  rintro E H a w' hk ⟨C', mu', hst⟩
  obtain ⟨ms, d1, d2⟩ := hst.defers
  rw [show a.defers = ms.map mark by simpa [G] using d1]
  refine leaves_ok (G := G) rfl ms rfl hst d2 fun a' w'' ha hs' => ?_
  obtain ⟨r, v, h1, h2, h3⟩ := ret_ok (G := G) hT hs' (fun _ h => h) hk
  rw [ha] at h2
  exact ⟨v, h2, r, v, rfl, h1, ⟨hs'.keep.os, hs'.keep.tape, hs'.keep.output, hs'.keep.size, fun k hk => hs'.keep.block k hk (fun h => h)⟩, h3⟩
 refine wpIn_mono (h.out 0 G _ w rfl hst) fun e a w' q => ?_
 cases e with
 | normal => obtain ⟨E, H, h1, h2⟩ := q; exact fin E H a w' h1 h2
 | ret => obtain ⟨E, H, h1, h2⟩ := q; exact fin E H a w' h1 h2
 | exit id => obtain ⟨E, H, h1, h2⟩ := q; exact h1.elim
 | panic ch => obtain ⟨x, v, E, H, C, mu, _, h1, _⟩ := q; exact h1.elim
 | goto l => exact q.elim
 | outgrown => exact q.elim
theorem ACall.of_spec {f : FuncId} {args : List AV} {R : AV → Prop} {K : AV → KK} {X : XX} (h : Ctr P f args R) (hc : closeds args = true) (hk : ∀ r, R r → K r E H) : ACall P f args E H K X := by
 refine ⟨h.good, fun G C mu a w vs hP hst hr => ?_⟩
 refine (h.out C w vs hst.cok (closeds_rep args hc hr)).mono fun e w' ⟨r, v, h1, h2, h3, h4⟩ => ?_
 exact .inl ⟨r, v, E, H, _, mu, h1, hk r h2, hst.below h3, Rep.mono (Ext.refl _ _) _ (MuLe.none mu) h4⟩
end
end Go.Av
set_option linter.unusedSimpArgs false
set_option linter.unusedVariables false
namespace Go.Av
mutual
/-- Does it lead to object l? -/
def refA (l : Nat) : AV → Bool
 | .ptr k _ => Nat.beq k l
 | .el k _ _ _ => Nat.beq k l
 | .own k _ _ _ => Nat.beq k l
 | .om k => Nat.beq k l
 | .fn _ cap => refAs l cap
 | .mv _ cap => refAs l cap
 | .iface _ x => refA l x
 | .agg cs => refAs l cs
 | .tuple vs => refAs l vs
 | _ => false
def refAs (l : Nat) : List AV → Bool
 | [] => false
 | a :: as => refA l a || refAs l as
end
section
variable {C : CellSet} {w : World} {mu : Mu}
mutual
theorem ref_rep {l : Nat} (hl : mu l = none) : ∀ (x : AV) {v : Value}, Rep C w x mu v → refA l x = false
 | .any, _, _ => rfl
 | .int _ _, _, _ => rfl
 | .bool _, _, _ => rfl
 | .lit _, _, _ => rfl
 | .str _, _, _ => rfl
 | .sl _ _, _, _ => rfl
 | .at_ _, _, _ => rfl
 | .raw _, _, _ => rfl
 | .mp _ _, _, _ => rfl
 | .om k, _, h => by
  unfold Rep at h
  obtain ⟨b, h1, _⟩ := h
  unfold refA
  cases hb : Nat.beq k l with
  | false => rfl
  | true => rw [Nat.eq_of_beq_eq_true hb, hl] at h1; cases h1
 | .ptr k o, _, h => by
  unfold Rep at h
  obtain ⟨b, h1, _⟩ := h
  unfold refA
  cases hb : Nat.beq k l with
  | false => rfl
  | true => rw [Nat.eq_of_beq_eq_true hb, hl] at h1; cases h1
 | .el k sz i o, _, h => by
  unfold Rep at h
  obtain ⟨b, n, c, h1, _⟩ := h
  unfold refA
  cases hb : Nat.beq k l with
  | false => rfl
  | true => rw [Nat.eq_of_beq_eq_true hb, hl] at h1; cases h1
 | .own k sz lo n, _, h => by
  unfold Rep at h
  obtain ⟨x, h1, _⟩ := h
  unfold refA
  cases hb : Nat.beq k l with
  | false => rfl
  | true => rw [Nat.eq_of_beq_eq_true hb, hl] at h1; cases h1
 | .fn f cap, _, h => by
  unfold Rep at h
  obtain ⟨vs, _, h2⟩ := h
  unfold refA
  exact refs_rep hl cap h2
 | .mv f cap, _, h => by
  unfold Rep at h
  obtain ⟨vs, _, h2⟩ := h
  unfold refA
  exact refs_rep hl cap h2
 | .iface t x, _, h => by
  unfold Rep at h
  obtain ⟨y, _, h2⟩ := h
  unfold refA
  exact ref_rep hl x h2
 | .agg cs, _, h => by
  unfold Rep at h
  obtain ⟨vs, _, h2⟩ := h
  unfold refA
  exact refs_rep hl cs h2
 | .tuple cs, _, h => by
  unfold Rep at h
  obtain ⟨vs, _, h2⟩ := h
  unfold refA
  exact refs_rep hl cs h2
theorem refs_rep {l : Nat} (hl : mu l = none) : ∀ (xs : List AV) {vs : List Value}, Reps C w xs mu vs → refAs l xs = false
 | [], _, _ => rfl
 | x :: xs, _, h => by
  unfold Reps at h
  obtain ⟨v, vs', _, h2, h3⟩ := h
  unfold refAs
  rw [ref_rep hl x h2, refs_rep hl xs h3]; rfl
end
end
def HUse (x : AV) (H H' : List HO) : Prop := ∀ (l : Nat) (ob : HO), refA l x = true → H[l]? = some ob → H'[l]? = some ob
def HUses (E : List AV) (o : Op) (H H' : List HO) : Prop := ∀ x ∈ o.operands, HUse (evD E x) H H'
def Once {α : Type} (t : (α → Prop) → Prop) (K : α → Prop) : Prop := ∃ r, K r ∧ ∀ K' : α → Prop, K' r → t K'
theorem once_leaf {k : Nat} {a b : AV} {K : Bool → Prop} (h : leafK k a b K) : Once (leafK k a b) K := by
 unfold leafK at h
 split at h
 ·split at h
  ·split at h <;> first | exact h.elim | exact ⟨_, h, fun K' k => k⟩
  ·split at h <;> first | exact h.elim | exact ⟨_, h, fun K' k => k⟩
  ·exact h.elim
 ·split at h
  ·split at h
   ·split at h
    ·rename_i hk
     exact ⟨_, h, fun K' k => by simp only [leafK, hk]; exact k⟩
    ·exact h.elim
   ·exact h.elim
  ·exact h.elim
 ·split at h
  ·split at h <;> first | exact h.elim | exact ⟨_, h, fun K' k => k⟩
  ·exact h.elim
 ·exact h.elim
theorem once_eqL : ∀ {ls : List Nat} {xs ys : List AV} {K : Bool → Prop}, eqLK ls xs ys K → Once (eqLK ls xs ys) K
 | [], [], [], K, h => ⟨_, h, fun K' k => k⟩
 | k :: ls, a :: xs, b :: ys, K, h => by
  obtain ⟨p, h, hp⟩ := once_leaf h
  obtain ⟨r, h, hr⟩ := once_eqL h
  exact ⟨_, h, fun K' k => hp _ (hr _ k)⟩
 | [], [], _ :: _, _, h => h.elim
 | [], _ :: _, _, _, h => h.elim
 | _ :: _, [], _, _, h => h.elim
 | _ :: _, _ :: _, [], _, h => h.elim
theorem once_aggEq {T : List TY} {op : BinOp} {t : TypeId} {cs ds : List AV} {K : AV → Prop} (h : aggEqK T op t cs ds K) : Once (aggEqK T op t cs ds) K := by
 unfold aggEqK at h
 replace h := (lkK_iff _ _ _).1 h; obtain ⟨y, hy, h⟩ := h
 split at h
 ·rename_i ha
  split at h
  ·rename_i ls hl
   cases op <;> simp only [] at h
   case eql =>
    obtain ⟨r, h1, h2⟩ := once_eqL h
    exact ⟨_, h1, fun K' k => (lkK_iff _ _ _).2 ⟨y, hy, by rw [ha, hl]; exact h2 _ k⟩⟩
   case neq =>
    obtain ⟨r, h1, h2⟩ := once_eqL h
    exact ⟨_, h1, fun K' k => (lkK_iff _ _ _).2 ⟨y, hy, by rw [ha, hl]; exact h2 _ k⟩⟩
  ·exact h.elim
 ·exact h.elim
theorem once_bin {T : List TY} {op : BinOp} {t : TypeId} {a b : AV} {K : AV → Prop} (h : binK T op t a b K) : Once (binK T op t a b) K := by
 have bl : ∀ {p q : Bool}, (lkK T t fun y => (match y.k with | .bool => boolK op p q K | _ => False)) → Once (fun K => lkK T t fun y => (match y.k with | .bool => boolK op p q K | _ => False)) K := by
  intro p q h
  replace h := (lkK_iff _ _ _).1 h; obtain ⟨y, hy, h⟩ := h
  split at h
  ·rename_i hk
   unfold boolK at h
   cases op <;> first | exact h.elim | exact ⟨_, h, fun K' k => (lkK_iff _ _ _).2 ⟨y, hy, by rw [hk]; exact k⟩⟩
  ·exact h.elim
 cases a <;> cases b <;> first | exact h.elim | skip
 case int.int k m k' n =>
  simp only [binK] at h
  split at h
  ·rename_i hk
   cases op <;> simp only [intK] at h
   case quo => exact ⟨_, h.2, fun K' k => by simp only [binK, hk, intK]; exact ⟨h.1, k⟩⟩
   case rem => exact ⟨_, h.2, fun K' k => by simp only [binK, hk, intK]; exact ⟨h.1, k⟩⟩
   all_goals exact ⟨_, h, fun K' k => by simp only [binK, hk, intK]; exact k⟩
  ·exact h.elim
 case str.str p q =>
  simp only [binK] at h
  cases op <;> simp only [strK] at h
  case add => exact ⟨_, h.2, fun K' k => by simp only [binK, strK]; exact ⟨h.1, k⟩⟩
  all_goals exact ⟨_, h, fun K' k => by simp only [binK, strK]; exact k⟩
 case bool.bool p q => exact bl h
 case bool.lit p q => exact bl h
 case lit.bool p q => exact bl h
 case lit.lit p q => exact bl h
 case agg.agg cs ds => exact once_aggEq h
theorem once_ifc {T : List TY} {op : BinOp} {t : TypeId} {r : Bool} {K : AV → Prop} (h : ifcK T op t r K) : Once (ifcK T op t r) K := by
 unfold ifcK at h
 replace h := (lkK_iff _ _ _).1 h; obtain ⟨y, hy, h⟩ := h
 split at h
 ·rename_i hk
  cases op <;> first | exact h.elim | (cases r <;> exact ⟨_, h, fun K' k => (lkK_iff _ _ _).2 ⟨y, hy, by rw [hk]; exact k⟩⟩)
 ·exact h.elim
theorem nilK_eq {T : List TY} {op : BinOp} {t : TypeId} {a b : AV} {c : Bool} (h1 : ∀ t x, a ≠ .iface t x) (h2 : ∀ u, a ≠ .raw u) : nilK T op t a b c = binK T op t a b := by
 cases a <;> first | rfl | exact absurd rfl (h1 _ _) | exact absurd rfl (h2 _)
theorem once_nil {T : List TY} {op : BinOp} {t : TypeId} {a b : AV} {c : Bool} {K : AV → Prop} (h : nilK T op t a b c K) : Once (nilK T op t a b c) K := by
 cases a
 case iface ty x =>
  cases b <;> first | exact h.elim | skip
  case raw v => cases v <;> first | exact h.elim | exact @once_ifc T op t false K h
 case raw u =>
  cases u <;> first | exact h.elim | skip
  cases b <;> first | exact h.elim | exact @once_ifc T op t false K h | skip
  case raw v =>
   cases v <;> first | exact h.elim | skip
   cases c <;> first | exact h.elim | exact @once_ifc T op t true K h
 all_goals (rw [nilK_eq (by simp) (by simp)] at h ⊢; exact once_bin h)
theorem once_un {op : UnOp} {a : AV} {K : AV → Prop} (h : unK op a K) : Once (unK op a) K := by
 cases op <;> cases a <;> first | exact h.elim | exact ⟨_, h, fun K' k => k⟩ | skip
 case not.lit b => cases b <;> exact ⟨_, h, fun K' k => k⟩
theorem once_ld {T : List TY} {t : TypeId} {cs : List AV} {K : AV → Prop} (h : ldK T t cs K) : Once (ldK T t cs) K := by
 unfold ldK at h
 replace h := (lkK_iff _ _ _).1 h; obtain ⟨y, hy, h⟩ := h
 cases ha : y.agg with
 | true =>
  rw [ha] at h
  obtain ⟨hn, h⟩ := (takeK_iff _ _ _).1 h
  exact ⟨_, h, fun K' k => (lkK_iff _ _ _).2 ⟨y, hy, by rw [ha]; exact (takeK_iff _ _ _).2 ⟨hn, k⟩⟩⟩
 | false =>
  rw [ha] at h
  cases cs with
  | nil => exact h.elim
  | cons c cs =>
   simp only [AV.force_iff] at h
   exact ⟨c, h, fun K' k => (lkK_iff _ _ _).2 ⟨y, hy, by rw [ha]; simpa only [AV.force_iff] using k⟩⟩
theorem once_load {T : List TY} {H : List HO} {t : TypeId} {p : AV} {K : AV → Prop} (h : loadK T H t p K) : ∃ r, K r ∧ ∀ H', HUse p H H' → ∀ K' : AV → Prop, K' r → loadK T H' t p K' := by
 cases p <;> first | exact h.elim | skip
 case at_ cs =>
  obtain ⟨r, h1, h2⟩ := once_ld h
  exact ⟨r, h1, fun H' _ K' k => h2 K' k⟩
 case ptr l o =>
  simp only [loadK] at h
  replace h := (lkK_iff _ _ _).1 h; obtain ⟨ob, hob, h⟩ := h
  cases ob <;> first | exact h.elim | skip
  rename_i cs
  simp only at h
  rw [dropK_iff] at h
  obtain ⟨r, h1, h2⟩ := once_ld h
  exact ⟨r, h1, fun H' hl K' k => (lkK_iff _ _ _).2 ⟨_, hl _ _ (by simp [refA]) hob, by simp only; rw [dropK_iff]; exact h2 K' k⟩⟩
 case el l sz i o =>
  simp only [loadK] at h
  replace h := (lkK_iff _ _ _).1 h; obtain ⟨ob, hob, h⟩ := h
  cases ob <;> first | exact h.elim | skip
  rename_i e sz' es
  simp only at h
  split at h
  ·rename_i hz
   obtain ⟨v, hv, h⟩ := h
   rw [cellsK_iff, dropK_iff] at h
   obtain ⟨r, h1, h2⟩ := once_ld h
   exact ⟨r, h1, fun H' hl K' k => (lkK_iff _ _ _).2 ⟨_, hl _ _ (by simp [refA]) hob, by simp only [hz]; exact ⟨v, hv, by rw [cellsK_iff, dropK_iff]; exact h2 K' k⟩⟩⟩
  ·exact h.elim
theorem once_indexAddr {T : List TY} {H : List HO} {t : TypeId} {x i : AV} {K : AV → Prop} (h : indexAddrK T H t x i K) : ∃ r, K r ∧ ∀ H', HUse x H H' → ∀ K' : AV → Prop, K' r → indexAddrK T H' t x i K' := by
 cases x <;> first | exact h.elim | skip
 case sl sz es =>
  simp only [indexAddrK] at h
  replace h := (lkK_iff _ _ _).1 h; obtain ⟨y, hy, h⟩ := h
  split at h
  ·rename_i hk
   split at h
   ·rename_i hb
    cases i <;> first | exact h.elim | skip
    obtain ⟨h0, v, hv, h⟩ := h
    rw [cellsK_iff] at h
    exact ⟨_, h, fun H' _ K' k => by
     simp only [indexAddrK]
     exact (lkK_iff _ _ _).2 ⟨y, hy, by simp only [hk, hb]; exact ⟨h0, v, hv, by rw [cellsK_iff]; exact k⟩⟩⟩
   ·exact h.elim
  ·exact h.elim
 case own l sz lo m =>
  simp only [indexAddrK] at h
  replace h := (lkK_iff _ _ _).1 h; obtain ⟨y, hy, h⟩ := h
  split at h
  ·rename_i hk
   replace h := (lkK_iff _ _ _).1 h; obtain ⟨ob, hob, h⟩ := h
   cases ob <;> first | exact h.elim | skip
   simp only at h
   split at h
   ·rename_i hb
    cases i <;> first | exact h.elim | skip
    obtain ⟨h0, h⟩ := h
    exact ⟨_, h, fun H' hl K' k => by
     simp only [indexAddrK]
     exact (lkK_iff _ _ _).2 ⟨y, hy, by simp only [hk]; exact (lkK_iff _ _ _).2 ⟨_, hl _ _ (by simp [refA]) hob, by simp only [hb]; exact ⟨h0, k⟩⟩⟩⟩
   ·exact h.elim
  ·exact h.elim
 case ptr l o =>
  simp only [indexAddrK] at h
  replace h := (lkK_iff _ _ _).1 h; obtain ⟨y, hy, h⟩ := h
  split at h
  ·rename_i hk
   split at h
   ·rename_i hb
    cases i <;> first | exact h.elim | skip
    obtain ⟨h0, h⟩ := h
    exact ⟨_, h, fun H' hl K' k => by
     simp only [indexAddrK]
     exact (lkK_iff _ _ _).2 ⟨y, hy, by simp only [hk, hb]; exact ⟨h0, k⟩⟩⟩
   ·exact h.elim
  ·exact h.elim
theorem once_index {T : List TY} {t : TypeId} {x i : AV} {K : AV → Prop} (h : indexK T t x i K) : Once (indexK T t x i) K := by
 cases x <;> first | exact h.elim | skip
 ·simp only [indexK] at h
  replace h := (lkK_iff _ _ _).1 h; obtain ⟨y, hy, h⟩ := h
  split at h
  ·rename_i hk
   cases i <;> first | exact h.elim | skip
   exact ⟨_, h.2, fun K' k => by simp only [indexK]; exact (lkK_iff _ _ _).2 ⟨y, hy, by simp only [hk]; exact ⟨h.1, k⟩⟩⟩
  ·exact h.elim
 ·simp only [indexK] at h
  replace h := (lkK_iff _ _ _).1 h; obtain ⟨y, hy, h⟩ := h
  split at h
  ·rename_i n sz ag hk
   split at h
   ·rename_i hb
    cases i <;> first | exact h.elim | skip
    obtain ⟨h1, v, hv, h2⟩ := h
    exact ⟨v, h2, fun K' k => by simp only [indexK]; exact (lkK_iff _ _ _).2 ⟨y, hy, by simp only [hk, hb]; exact ⟨h1, v, hv, k⟩⟩⟩
   ·rename_i hb
    split at h
    ·rename_i hb2
     cases i <;> first | exact h.elim | skip
     exact ⟨_, h.2, fun K' k => by simp only [indexK]; exact (lkK_iff _ _ _).2 ⟨y, hy, by simp only [hk, hb, hb2]; exact ⟨h.1, k⟩⟩⟩
    ·exact h.elim
  ·exact h.elim
theorem once_fieldAddr {T : List TY} {t : TypeId} {x : AV} {f : Nat} {K : AV → Prop} (h : fieldAddrK T t x f K) : Once (fieldAddrK T t x f) K := by
 unfold fieldAddrK at h
 replace h := (lkK_iff _ _ _).1 h; obtain ⟨y, hy, h⟩ := h
 split at h
 ·rename_i fs hk
  replace h := (lkK_iff _ _ _).1 h; obtain ⟨⟨off, size, ag⟩, hf, h⟩ := h
  cases size with
  | zero => exact h.elim
  | succ n =>
   have fin : ∀ K' : AV → Prop, (match (generalizing := false) x with | .at_ cs => dropK cs off fun cs => K' (.at_ cs) | .ptr l o => K' (.ptr l (o + off)) | .el l sz i o => K' (.el l sz i (o + off)) | .raw v => (match (generalizing := false) v with | .pointer p => (match (generalizing := false) p with | some ⟨b, o, none⟩ => K' (.raw (.pointer (some ⟨b, o + off, none⟩))) | _ => False) | _ => False) | _ => False) → fieldAddrK T t x f K' := fun K' k => by
    unfold fieldAddrK
    exact (lkK_iff _ _ _).2 ⟨y, hy, by simp only [hk]; exact (lkK_iff _ _ _).2 ⟨_, hf, by simp only; exact k⟩⟩
   cases x with
   | at_ cs =>
    simp only at h
    rw [dropK_iff] at h
    exact ⟨_, h, fun K' k => fin K' (by simp only; rw [dropK_iff]; exact k)⟩
   | ptr l o => exact ⟨_, h, fun K' k => fin K' k⟩
   | el l sz i o => exact ⟨_, h, fun K' k => fin K' k⟩
   | raw v =>
    simp only at h
    split at h
    case h_2 => exact h.elim
    split at h
    case h_2 => exact h.elim
    exact ⟨_, h, fun K' k => fin K' k⟩
   | _ => exact h.elim
 ·exact h.elim
theorem once_field {T : List TY} {t : TypeId} {x : AV} {f : Nat} {K : AV → Prop} (h : fieldK T t x f K) : Once (fieldK T t x f) K := by
 unfold fieldK at h
 replace h := (lkK_iff _ _ _).1 h; obtain ⟨y, hy, h⟩ := h
 split at h
 ·rename_i fs hk
  replace h := (lkK_iff _ _ _).1 h; obtain ⟨⟨off, size, ag⟩, hf, h⟩ := h
  cases x <;> first | exact h.elim | skip
  rename_i cs
  simp only at h
  rw [dropK_iff] at h
  have fin : ∀ K' : AV → Prop, (match (generalizing := false) ag with | true => takeK (cs.drop off) size fun cs => K' (.agg cs) | false => match (generalizing := false) size with | 0 => False | _ + 1 => match (generalizing := false) cs.drop off with | c :: _ => c.force K' | [] => False) → fieldK T t (.agg cs) f K' := fun K' k => by
   unfold fieldK
   exact (lkK_iff _ _ _).2 ⟨y, hy, by simp only [hk]; exact (lkK_iff _ _ _).2 ⟨_, hf, by simp only; rw [dropK_iff]; exact k⟩⟩
  cases ag with
  | true =>
   simp only at h
   obtain ⟨hn, h⟩ := (takeK_iff _ _ _).1 h
   exact ⟨_, h, fun K' k => fin K' ((takeK_iff _ _ _).2 ⟨hn, k⟩)⟩
  | false =>
   simp only at h
   cases size with
   | zero => exact h.elim
   | succ n =>
    simp only at h fin
    cases hd : cs.drop off with
    | nil => rw [hd] at h; exact h.elim
    | cons c r =>
     rw [hd] at h
     simp only [AV.force_iff] at h
     exact ⟨c, h, fun K' k => fin K' (by rw [hd]; simpa only [AV.force_iff] using k)⟩
 ·exact h.elim
theorem once_len {T : List TY} {t : TypeId} {x : AV} {K : AV → Prop} (h : lenK T t x K) : Once (lenK T t x) K := by
 unfold lenK at h
 replace h := (lkK_iff _ _ _).1 h; obtain ⟨y, hy, h⟩ := h
 split at h
 ·rename_i hk
  split at h
  ·exact ⟨_, h, fun K' k => by unfold lenK; exact (lkK_iff _ _ _).2 ⟨y, hy, by simp only [hk]; exact k⟩⟩
  ·exact ⟨_, h, fun K' k => by unfold lenK; exact (lkK_iff _ _ _).2 ⟨y, hy, by simp only [hk]; exact k⟩⟩
  ·exact ⟨_, h, fun K' k => by unfold lenK; exact (lkK_iff _ _ _).2 ⟨y, hy, by simp only [hk]; exact k⟩⟩
  ·exact h.elim
 ·rename_i hk
  split at h
  ·exact ⟨_, h, fun K' k => by unfold lenK; exact (lkK_iff _ _ _).2 ⟨y, hy, by simp only [hk]; exact k⟩⟩
  ·exact h.elim
 ·exact h.elim
theorem once_conv {T : List TY} {s d : TypeId} {x : AV} {K : AV → Prop} (h : convK T s d x K) : Once (convK T s d x) K := by
 cases x <;> first | exact h.elim | skip
 all_goals
  simp only [convK] at h
  replace h := (lkK_iff _ _ _).1 h; obtain ⟨y0, hy0, h⟩ := h
  replace h := (lkK_iff _ _ _).1 h; obtain ⟨y, hy, h⟩ := h
  split at h
  ·rename_i hk
   exact ⟨_, h, fun K' k => by simp only [convK]; exact (lkK_iff _ _ _).2 ⟨y0, hy0, (lkK_iff _ _ _).2 ⟨y, hy, by simp only [hk]; exact k⟩⟩⟩
  ·first
    | exact h.elim
    | (rename_i hk
       exact ⟨_, h.2, fun K' k => by simp only [convK]; exact (lkK_iff _ _ _).2 ⟨y0, hy0, (lkK_iff _ _ _).2 ⟨y, hy, by simp only [hk]; exact ⟨h.1, k⟩⟩⟩⟩)
  all_goals exact h.elim
theorem once_min {a b : AV} {K : AV → Prop} (h : minK a b K) : Once (minK a b) K := by
 unfold minK at h
 split at h
 ·split at h
  ·split at h
   ·rename_i hk
    exact ⟨_, h, fun K' k => by simp only [minK, hk]; exact k⟩
   ·exact h.elim
  ·exact h.elim
 ·exact h.elim
theorem once_opt {o : Option AV} {d : Int} {K : Int → Prop} (h : optK o d K) : Once (optK o d) K := by
 cases o with
 | none => exact ⟨d, h, fun K' k => k⟩
 | some v => cases v <;> first | (simp [optK] at h; done) | exact ⟨_, h, fun K' k => k⟩
theorem once_slice {T : List TY} {t : TypeId} {x : AV} {lo hi : Option AV} {K : AV → Prop} (h : sliceK T t x lo hi K) : Once (sliceK T t x lo hi) K := by
 cases x <;> first | exact h.elim | skip
 case str l =>
  simp only [sliceK] at h
  replace h := (lkK_iff _ _ _).1 h; obtain ⟨y, hy, h⟩ := h
  split at h
  ·rename_i hk
   obtain ⟨a, h, ha⟩ := once_opt h
   obtain ⟨b, h, hb⟩ := once_opt h
   exact ⟨_, h.2, fun K' k => by simp only [sliceK]; exact (lkK_iff _ _ _).2 ⟨y, hy, by simp only [hk]; exact ha _ (hb _ ⟨h.1, k⟩)⟩⟩
  ·exact h.elim
 case sl sz es =>
  simp only [sliceK] at h
  replace h := (lkK_iff _ _ _).1 h; obtain ⟨y, hy, h⟩ := h
  split at h
  ·rename_i hk
   split at h
   ·rename_i hz
    obtain ⟨a, h, ha⟩ := once_opt h
    obtain ⟨b, h, hb⟩ := once_opt h
    exact ⟨_, h.2, fun K' k => by simp only [sliceK]; exact (lkK_iff _ _ _).2 ⟨y, hy, by simp only [hk, hz]; exact ha _ (hb _ ⟨h.1, k⟩)⟩⟩
   ·exact h.elim
  ·exact h.elim
 case own l sz p n =>
  simp only [sliceK] at h
  replace h := (lkK_iff _ _ _).1 h; obtain ⟨y, hy, h⟩ := h
  split at h
  ·rename_i hk
   split at h
   ·rename_i hz
    obtain ⟨a, h, ha⟩ := once_opt h
    obtain ⟨b, h, hb⟩ := once_opt h
    exact ⟨_, h.2, fun K' k => by simp only [sliceK]; exact (lkK_iff _ _ _).2 ⟨y, hy, by simp only [hk, hz]; exact ha _ (hb _ ⟨h.1, k⟩)⟩⟩
   ·exact h.elim
  ·exact h.elim
def Agree (E E' : List AV) (o : Op) : Prop := ∀ x ∈ o.operands, evD E' x = evD E x
theorem once_zeroV {T : List TY} {e : TypeId} {K : AV → Prop} (h : zeroVK T e K) : ∃ z, K z ∧ ∀ K' : AV → Prop, K' z → zeroVK T e K' := by
 unfold zeroVK at h
 replace h := (lkK_iff _ _ _).1 h; obtain ⟨y, hy, h⟩ := h
 split at h
 ·rename_i ha
  split at h
  ·exact h.elim
  ·rename_i z zs hz
   exact ⟨_, h, fun K' k => by unfold zeroVK; exact (lkK_iff _ _ _).2 ⟨y, hy, by simp only [ha, hz]; exact k⟩⟩
 ·rename_i ha
  split at h
  ·rename_i z hz
   rw [AV.force_iff] at h
   exact ⟨_, h, fun K' k => by unfold zeroVK; exact (lkK_iff _ _ _).2 ⟨y, hy, by simp only [ha, hz]; rw [AV.force_iff]; exact k⟩⟩
  ·exact h.elim
theorem once_mapOf {H : List HO} {x : AV} {K : List AV → List AV → Prop} (h : mapOfK H x K) : ∃ ks vs, K ks vs ∧ ∀ H', HUse x H H' → ∀ K' : List AV → List AV → Prop, K' ks vs → mapOfK H' x K' := by
 unfold mapOfK at h
 split at h
 ·exact ⟨_, _, h, fun H' _ K' k => k⟩
 ·replace h := (lkK_iff _ _ _).1 h; obtain ⟨ob, hob, h⟩ := h
  cases ob <;> first | exact h.elim | skip
  exact ⟨_, _, h, fun H' hu K' k => (lkK_iff _ _ _).2 ⟨_, hu _ _ (by simp [refA]) hob, k⟩⟩
 ·exact h.elim
theorem once_lookup {T : List TY} {H : List HO} {t : TypeId} {x k : AV} {ok : Bool} {K : AV → Prop} (h : lookupK T H t x k ok K) : ∃ r, K r ∧ ∀ H', HUse x H H' → ∀ K' : AV → Prop, K' r → lookupK T H' t x k ok K' := by
 unfold lookupK at h
 replace h := (lkK_iff _ _ _).1 h; obtain ⟨y, hy, h⟩ := h
 split at h
 ·rename_i kt vt hk
  replace h := (lkK_iff _ _ _).1 h; obtain ⟨yk, hyk, h⟩ := h
  split at h
  ·rename_i ho
   obtain ⟨ks, vs, ⟨hl, hn, hs⟩, hm⟩ := once_mapOf h
   have up : ∀ (r : AV) (H' : List HO), HUse x H H' → ∀ K' : AV → Prop, ((mget k ks vs = none → zeroVK T vt fun z => (match (generalizing := false) ok with | true => K' (.tuple [z, .lit false]) | false => z.force K')) ∧
      ∀ v, mget k ks vs = some v → (match (generalizing := false) ok with | true => K' (.tuple [v, .lit true]) | false => K' v)) → lookupK T H' t x k ok K' := fun r H' hu K' q => by
    unfold lookupK
    exact (lkK_iff _ _ _).2 ⟨y, hy, by simp only [hk]; exact (lkK_iff _ _ _).2 ⟨yk, hyk, by simp only [ho]; exact hm H' hu _ ⟨hl, q⟩⟩⟩
   cases hg : mget k ks vs with
   | none =>
    obtain ⟨z, hz, hz2⟩ := once_zeroV (hn hg)
    cases ok with
    | true => exact ⟨_, hz, fun H' hu K' q => up .any H' hu K' ⟨fun _ => hz2 _ q, fun v e => (by rw [hg] at e; cases e)⟩⟩
    | false =>
     simp only [AV.force_iff] at hz
     exact ⟨_, hz, fun H' hu K' q => up .any H' hu K' ⟨fun _ => hz2 _ (by simp only [AV.force_iff]; exact q), fun v e => (by rw [hg] at e; cases e)⟩⟩
   | some v =>
    have hv := hs v hg
    cases ok with
    | true => exact ⟨_, hv, fun H' hu K' q => up .any H' hu K' ⟨fun e => (by rw [hg] at e; cases e), fun u e => (by rw [hg] at e; cases e; exact q)⟩⟩
    | false => exact ⟨_, hv, fun H' hu K' q => up .any H' hu K' ⟨fun e => (by rw [hg] at e; cases e), fun u e => (by rw [hg] at e; cases e; exact q)⟩⟩
  ·exact h.elim
 ·exact h.elim
theorem once_pure {T : List TY} {E : List AV} {H : List HO} {o : Op} {K : AV → Prop} (h : pureK T E H o K) : ∃ r, K r ∧ ∀ E' H', Agree E E' o → HUses E o H H' → ∀ K' : AV → Prop, K' r → pureK T E' H' o K' := by
 unfold pureK at h
 split at h
 case h_1 x => rw [evK_iff] at h; exact ⟨_, h, fun E' H' ha _ K' k => by unfold pureK; simp only; rw [evK_iff, ha x (by simp [Op.operands])]; exact k⟩
 case h_2 x => rw [evK_iff] at h; exact ⟨_, h, fun E' H' ha _ K' k => by unfold pureK; simp only; rw [evK_iff, ha x (by simp [Op.operands])]; exact k⟩
 case h_3 c x y =>
  rw [evK_iff] at h
  split at h
  ·rename_i t hb
   cases t with
   | true => simp only at h; rw [evK_iff] at h; exact ⟨_, h, fun E' H' ha _ K' k => by unfold pureK; simp only; rw [evK_iff, ha c (by simp [Op.operands]), hb]; simp only; rw [evK_iff, ha x (by simp [Op.operands])]; exact k⟩
   | false => simp only at h; rw [evK_iff] at h; exact ⟨_, h, fun E' H' ha _ K' k => by unfold pureK; simp only; rw [evK_iff, ha c (by simp [Op.operands]), hb]; simp only; rw [evK_iff, ha y (by simp [Op.operands])]; exact k⟩
  ·exact h.elim
 case h_4 op t x y ty =>
  rw [evK_iff, evK_iff] at h
  obtain ⟨r, h1, h2⟩ := once_nil h
  exact ⟨r, h1, fun E' H' ha _ K' k => by unfold pureK; simp only; rw [evK_iff, evK_iff, ha x (by simp [Op.operands]), ha y (by simp [Op.operands])]; exact h2 K' k⟩
 case h_5 op t x =>
  rw [evK_iff] at h
  obtain ⟨r, h1, h2⟩ := once_un h
  exact ⟨r, h1, fun E' H' ha _ K' k => by unfold pureK; simp only; rw [evK_iff, ha x (by simp [Op.operands])]; exact h2 K' k⟩
 case h_6 t x =>
  rw [evK_iff] at h
  obtain ⟨r, h1, h2⟩ := once_load h
  exact ⟨r, h1, fun E' H' ha hl K' k => by unfold pureK; simp only; rw [evK_iff, ha x (by simp [Op.operands])]; exact h2 H' (hl x (by simp [Op.operands])) K' k⟩
 case h_7 t x f =>
  rw [evK_iff] at h
  obtain ⟨r, h1, h2⟩ := once_fieldAddr h
  exact ⟨r, h1, fun E' H' ha hl K' k => by unfold pureK; simp only; rw [evK_iff, ha x (by simp [Op.operands])]; exact h2 K' k⟩
 case h_8 t x f =>
  rw [evK_iff] at h
  obtain ⟨r, h1, h2⟩ := once_field h
  exact ⟨r, h1, fun E' H' ha hl K' k => by unfold pureK; simp only; rw [evK_iff, ha x (by simp [Op.operands])]; exact h2 K' k⟩
 case h_9 t x i =>
  rw [evK_iff, evK_iff] at h
  obtain ⟨r, h1, h2⟩ := once_indexAddr h
  exact ⟨r, h1, fun E' H' ha hl K' k => by unfold pureK; simp only; rw [evK_iff, evK_iff, ha x (by simp [Op.operands]), ha i (by simp [Op.operands])]; exact h2 H' (hl x (by simp [Op.operands])) K' k⟩
 case h_10 t x i =>
  rw [evK_iff, evK_iff] at h
  obtain ⟨r, h1, h2⟩ := once_index h
  exact ⟨r, h1, fun E' H' ha hl K' k => by unfold pureK; simp only; rw [evK_iff, evK_iff, ha x (by simp [Op.operands]), ha i (by simp [Op.operands])]; exact h2 K' k⟩
 case h_11 s d x =>
  rw [evK_iff] at h
  obtain ⟨r, h1, h2⟩ := once_conv h
  exact ⟨r, h1, fun E' H' ha hl K' k => by unfold pureK; simp only; rw [evK_iff, ha x (by simp [Op.operands])]; exact h2 K' k⟩
 case h_12 x i =>
  rw [evK_iff] at h
  split at h
  ·rename_i vs hb
   replace h := (lkK_iff _ _ _).1 h; obtain ⟨v, hv, h⟩ := h
   rw [AV.force_iff] at h
   exact ⟨v, h, fun E' H' ha hl K' k => by unfold pureK; simp only; rw [evK_iff, ha x (by simp [Op.operands]), hb]; exact (lkK_iff _ _ _).2 ⟨v, hv, by rw [AV.force_iff]; exact k⟩⟩
  ·exact h.elim
 case h_13 x =>
  rw [evK_iff] at h
  have fin : ∀ E' H', Agree E E' (.nilCheck x) → ∀ K' : AV → Prop, (match (generalizing := false) evD E x with | .at_ cs => K' (.at_ cs) | .ptr l o => K' (.ptr l o) | .el l sz i o => K' (.el l sz i o) | .fn f cap => K' (.fn f cap) | .mv f cap => K' (.mv f cap) | .raw v => (match (generalizing := false) v with | .pointer p => (match (generalizing := false) p with | some a => K' (.raw (.pointer (some a))) | _ => False) | _ => False) | _ => False) → pureK T E' H' (.nilCheck x) K' := fun E' H' ha K' k => by
   unfold pureK; simp only; rw [evK_iff, ha x (by simp [Op.operands])]; exact k
  generalize hev : evD E x = ex at h fin
  cases ex with
  | raw v =>
   simp only at h
   split at h
   case h_2 => exact h.elim
   split at h
   case h_2 => exact h.elim
   exact ⟨_, h, fun E' H' ha hl K' k => fin E' H' ha K' k⟩
  | _ => first | exact h.elim | exact ⟨_, h, fun E' H' ha hl K' k => fin E' H' ha K' k⟩
 case h_14 fn first cap =>
  split at h
  ·rename_i f
   split at h
   ·rename_i hf
    rw [mapK_iff (evK E) (evD E) (evK_iff E)] at h
    refine ⟨_, h, fun E' H' ha hl K' k => ?_⟩
    unfold pureK
    simp only [hf]
    rw [mapK_iff (evK E') (evD E') (evK_iff E')]
    have : cap.toList.map (evD E') = cap.toList.map (evD E) := List.map_congr_left fun x hx => ha x (by simp [Op.operands]; exact .inr (by simpa using hx))
    rw [this]; exact k
   ·rename_i hf
    split at h
    ·rename_i hc
     rw [mapK_iff (evK E) (evD E) (evK_iff E)] at h
     refine ⟨_, h, fun E' H' ha hl K' k => ?_⟩
     unfold pureK
     simp only [hf, hc]
     rw [← hf, mapK_iff (evK E') (evD E') (evK_iff E')]
     have : first.toList.map (evD E') = first.toList.map (evD E) := List.map_congr_left fun x hx => ha x (by simp [Op.operands]; exact .inl (by simpa using hx))
     rw [this]; exact k
    ·exact h.elim
  ·exact h.elim
 case h_15 t x =>
  rw [evK_iff] at h
  replace h := (lkK_iff _ _ _).1 h; obtain ⟨y, hy, h⟩ := h
  have hK : K (.iface t (evD E x)) ∧ y.k ≠ .iface := by
   split at h
   ·exact h.elim
   ·rename_i hne; exact ⟨h, hne⟩
  exact ⟨_, hK.1, fun E' H' ha hl K' k => by
   unfold pureK; simp only
   rw [evK_iff, ha x (by simp [Op.operands])]
   refine (lkK_iff _ _ _).2 ⟨y, hy, ?_⟩
   split
   ·rename_i hk; exact absurd hk hK.2
   ·exact k⟩
 case h_16 t x lo hi mx =>
  split at h
  ·rw [evK_iff] at h
   have fin : ∀ E' H', Agree E E' (.slice t x lo hi none) → ∀ K' : AV → Prop, sliceK T t (evD E x) (lo.map (evD E)) (hi.map (evD E)) K' → pureK T E' H' (.slice t x lo hi none) K' := fun E' H' ha K' k => by
    unfold pureK; simp only
    rw [evK_iff, ha x (by simp [Op.operands])]
    cases lo with
    | none =>
     cases hi with
     | none => exact k
     | some q => simp only; rw [evK_iff, ha q (by simp [Op.operands])]; exact k
    | some p =>
     cases hi with
     | none => simp only; rw [evK_iff, ha p (by simp [Op.operands])]; exact k
     | some q => simp only; rw [evK_iff, evK_iff, ha q (by simp [Op.operands]), ha p (by simp [Op.operands])]; exact k
   have h' : sliceK T t (evD E x) (lo.map (evD E)) (hi.map (evD E)) K := by
    cases lo with
    | none =>
     cases hi with
     | none => exact h
     | some q => simp only at h; rw [evK_iff] at h; exact h
    | some p =>
     cases hi with
     | none => simp only at h; rw [evK_iff] at h; exact h
     | some q => simp only at h; rw [evK_iff, evK_iff] at h; exact h
   obtain ⟨r, h1, h2⟩ := once_slice h'
   exact ⟨r, h1, fun E' H' ha hl K' k => fin E' H' ha K' (h2 K' k)⟩
  ·exact h.elim
 case h_17 c =>
  split at h
  ·rename_i hc
   split at h
   ·rename_i x hx
    split at h
    ·rename_i t ht
     rw [evK_iff] at h
     obtain ⟨r, h1, h2⟩ := once_len h
     refine ⟨r, h1, fun E' H' ha hl K' k => ?_⟩
     unfold pureK
     simp only [hc, hx, ht]
     have : c.args = #[x] := by cases hca : c.args; simp_all
     rw [evK_iff, ha x (by simp [Op.operands, Call.operands, hc, this])]; exact h2 K' k
    ·exact h.elim
   ·exact h.elim
  ·rename_i hc
   split at h
   ·rename_i x y hx
    rw [evK_iff, evK_iff] at h
    obtain ⟨r, h1, h2⟩ := once_min h
    refine ⟨r, h1, fun E' H' ha hl K' k => ?_⟩
    unfold pureK
    simp only [hc, hx]
    have : c.args = #[x, y] := by cases hca : c.args; simp_all
    rw [evK_iff, evK_iff, ha x (by simp [Op.operands, Call.operands, hc, this]), ha y (by simp [Op.operands, Call.operands, hc, this])]; exact h2 K' k
   ·exact h.elim
  ·exact h.elim
 case h_18 t x i ok =>
  rw [evK_iff, evK_iff] at h
  obtain ⟨r, h1, h2⟩ := once_lookup h
  exact ⟨r, h1, fun E' H' ha hl K' k => by unfold pureK; simp only; rw [evK_iff, evK_iff, ha x (by simp [Op.operands]), ha i (by simp [Op.operands])]; exact h2 H' (hl x (by simp [Op.operands])) K' k⟩
 case h_19 => exact h.elim
end Go.Av
set_option linter.unusedSimpArgs false
set_option linter.unusedVariables false
namespace Go.Av
open Go.RowKit (Below)
def wideC (w : World) : CellSet := fun b _ => b < w.heap.size
section
variable {G : Cx} {C : CellSet} {w w' : World} {mu : Mu} {H : List HO} {E : List AV} {a : Act} {T : List TY} {P : Program}
theorem view_ok (h : StC G C mu E H a w) {x : AV} {u : Value} (hx : Rep C w x mu u) {R : AV → Prop} (hk : closeK H x R) : ∃ r, R r ∧ Rep (wideC w) w r Mu.none u :=
 close_gen h ⟨fun b o hc => h.lt b o hc, fun _ _ _ => rfl⟩ (fun l g b o hm hb => (h.heap.fresh l g b hm hb).2.1) hx hk
theorem wide_cok (h : StC G C mu E H a w) : COK (wideC w) w := h.cok.mono ⟨fun b o hc => h.lt b o hc, fun _ _ _ => rfl⟩ fun _ _ h => h
theorem views_ok (h : StC G C mu E H a w) : ∀ {xs : List AV} {us : List Value}, Reps C w xs mu us → ∀ {R : List AV → Prop}, closesK H xs R → ∃ rs, R rs ∧ Reps (wideC w) w rs Mu.none us
 | [], us, hx, R, hk => ⟨[], hk, by unfold Reps at *; exact hx⟩
 | x :: xs, us, hx, R, hk => by
  unfold closesK at hk
  unfold Reps at hx
  obtain ⟨v, vs', rfl, h2, h3⟩ := hx
  obtain ⟨r, hk, hr⟩ := view_ok h h2 hk
  obtain ⟨rs, hk, hrs⟩ := views_ok h h3 hk
  exact ⟨r :: rs, hk, by unfold Reps; exact ⟨v, vs', rfl, hr, hrs⟩⟩
theorem closesK_closed : ∀ {xs : List AV} {R : List AV → Prop}, closeds xs = true → closesK H xs R → ∃ rs, R rs ∧ ∀ {C : CellSet} {w : World} {mu : Mu} {us : List Value}, Reps C w xs mu us → Reps C w rs Mu.none us
 | [], R, _, hk => ⟨[], hk, fun h => by unfold Reps at *; exact h⟩
 | x :: xs, R, hc, hk => by
  unfold closesK at hk
  unfold closeds at hc
  simp only [Bool.and_eq_true] at hc
  have one : ∀ {Q : AV → Prop}, closeK H x Q → ∃ r, Q r ∧ ∀ {C : CellSet} {w : World} {mu : Mu} {u : Value}, Rep C w x mu u → Rep C w r Mu.none u := by
   intro Q hk
   unfold closeK at hk
   split at hk
   ·simp [closed] at hc
   ·obtain ⟨sz, hk⟩ := hk
    exact ⟨_, hk, fun h => by unfold Rep at *; exact .inl ⟨⟨_, h⟩, rfl⟩⟩
   ·exact ⟨_, hk, fun h => by unfold Rep at *; exact h⟩
   ·simp [closed] at hc
   ·split at hk
    ·rename_i hcc
     rw [AV.force_iff] at hk
     exact ⟨_, hk, fun h => closed_rep _ hcc h⟩
    ·exact hk.elim
  obtain ⟨r, hk, hr⟩ := one hk
  obtain ⟨rs, hk, hrs⟩ := closesK_closed hc.2 hk
  exact ⟨r :: rs, hk, fun h => by
   unfold Reps at h ⊢
   obtain ⟨v, vs', h1, h2, h3⟩ := h
   exact ⟨v, vs', h1, hr h2, hrs h3⟩⟩
def vcallK (P : Program) (f : FuncId) (H : List HO) (as : List AV) (K : AV → Prop) : Prop :=
 closesK H as fun as' => ∃ v, (Ctr P f as' (fun r => r = v) ∧ (closeds as || memfree v) = true) ∧ K v
theorem vcall_ok {f : FuncId} {as : List AV} {K : AV → Prop} (hP : G.P = P) (hst : StC G C mu E H a w) (hk : vcallK P f H as K) {us : List Value} (hu : Reps C w as mu us) :
  goodF P f = true ∧ ∃ r, K r ∧ Calls P f us.toArray w fun e w' => ∃ v C', e = .returned v ∧ StC G C' mu E H a w' ∧ Rep C' w' r mu v := by
 unfold vcallK at hk
 by_cases hc : closeds as = true
 ·obtain ⟨as', ⟨v, ⟨hctr, _⟩, hk⟩, hr⟩ := closesK_closed hc hk
  refine ⟨hctr.good, v, hk, (hctr.out C w us hst.cok (hr hu)).mono fun e w' ⟨r, u, h1, h2, h3, h4⟩ => ?_⟩
  subst h2
  exact ⟨u, _, h1, hst.below h3, Rep.mono (Ext.refl _ _) _ (MuLe.none mu) h4⟩
 ·obtain ⟨as', ⟨v, ⟨hctr, hm⟩, hk⟩, hr⟩ := views_ok hst hu hk
  refine ⟨hctr.good, v, hk, (hctr.out (wideC w) w us (wide_cok hst) hr).mono fun e w' ⟨r, u, h1, h2, h3, h4⟩ => ?_⟩
  subst h2
  have hm : memfree r = true := by simpa [hc] using hm
  exact ⟨u, _, h1, hst.below h3, memfree_rep _ hm h4⟩
theorem ACall.of_vcall {f : FuncId} {as : List AV} {K : AV → KK} {X : XX} (hk : vcallK P f H as fun v => K v E H) (hg : goodF P f = true) : ACall P f as E H K X := by
 refine ⟨hg, fun G C mu a w vs hP hst hr => ?_⟩
 obtain ⟨_, r, h1, h2⟩ := vcall_ok hP hst hk hr
 exact h2.mono fun e w' ⟨v, C', h3, h4, h5⟩ => .inl ⟨r, v, E, H, C', mu, h3, h1, h4, h5⟩
theorem once_close {x : AV} {K : AV → Prop} (h : closeK H x K) : ∃ r, K r ∧ ∀ H', HUse x H H' → ∀ K' : AV → Prop, K' r → closeK H' x K' := by
 unfold closeK at h
 split at h
 ·rename_i l sz lo n
  replace h := (lkK_iff _ _ _).1 h; obtain ⟨ob, hob, h⟩ := h
  cases ob <;> first | exact h.elim | skip
  simp only at h
  split at h
  ·rename_i hb
   exact ⟨_, h.2, fun H' hu K' k => by unfold closeK; exact (lkK_iff _ _ _).2 ⟨_, hu _ _ (by simp [refA]) hob, by simp only [hb]; exact ⟨h.1, k⟩⟩⟩
  ·exact h.elim
 ·obtain ⟨sz, h⟩ := h
  exact ⟨_, h, fun H' hu K' k => by unfold closeK; exact ⟨sz, k⟩⟩
 ·exact ⟨_, h, fun H' hu K' k => by unfold closeK; exact k⟩
 ·replace h := (lkK_iff _ _ _).1 h; obtain ⟨ob, hob, h⟩ := h
  cases ob <;> first | exact h.elim | skip
  exact ⟨_, h, fun H' hu K' k => by unfold closeK; exact (lkK_iff _ _ _).2 ⟨_, hu _ _ (by simp [refA]) hob, k⟩⟩
 ·rename_i h1 h2 h3 h4
  split at h
  ·rename_i hc
   rw [AV.force_iff] at h
   refine ⟨_, h, fun H' hu K' k => ?_⟩
   unfold closeK
   split
   ·rename_i l sz lo n; exact absurd rfl (h1 l sz lo n)
   ·exact absurd rfl h2
   ·rename_i b; exact absurd rfl (h3 b)
   ·rename_i l; exact absurd rfl (h4 l)
   ·rw [hc]; simpa only [AV.force_iff] using k
  ·exact h.elim
theorem once_closes : ∀ {xs : List AV} {K : List AV → Prop}, closesK H xs K → ∃ r, K r ∧ ∀ H', (∀ x ∈ xs, HUse x H H') → ∀ K' : List AV → Prop, K' r → closesK H' xs K'
 | [], K, h => ⟨[], h, fun H' _ K' k => k⟩
 | x :: xs, K, h => by
  unfold closesK at h
  obtain ⟨r, h, hr⟩ := once_close h
  obtain ⟨rs, h, hrs⟩ := once_closes h
  exact ⟨_, h, fun H' hu K' k => by unfold closesK; exact hr H' (hu x (by simp)) _ (hrs H' (fun y hy => hu y (by simp [hy])) _ k)⟩
theorem once_vcall {f : FuncId} {as : List AV} {K : AV → Prop} (h : vcallK P f H as K) : ∃ r, K r ∧ ∀ H', (∀ x ∈ as, HUse x H H') → ∀ K' : AV → Prop, K' r → vcallK P f H' as K' := by
 unfold vcallK at h
 obtain ⟨as', ⟨v, h1, h⟩, h2⟩ := once_closes h
 exact ⟨v, h, fun H' hu K' k => h2 H' hu _ ⟨v, h1, k⟩⟩
end
def imK (ob : HO) (K : AV → Prop) : Prop :=
 match ob with
 | .arr _ sz es => (match closeds es with | true => K (.sl sz es) | false => False)
 | _ => False
theorem once_im {ob : HO} {K : AV → Prop} (h : imK ob K) : Once (imK ob) K := by
 unfold imK at h
 split at h
 ·split at h
  ·rename_i hc
   exact ⟨_, h, fun K' k => by unfold imK; simp only [hc]; exact k⟩
  ·exact h.elim
 ·exact h.elim
def rK (P : Program) (T : List TY) (s : Nat) (E : List AV) (H : List HO) (o : Op) (K : AV → Option HO → Prop) : Prop :=
 match o with
 | .box _ x => boxC E x fun ob f => K (f s) (some ob)
 | .alloc t => allocC T t fun ob f => K (f s) (some ob)
 | .build t parts => buildK T E t parts.toList fun v => K v none
 | .buildSlice t n parts => lkK H s fun pl => (match pl with
  | .dead => buildSliceC T E t n parts.toList fun ob f => K (f s) (some ob)
  | .ghost _ _ _ => buildSliceC T E t n parts.toList fun ob _ => imK ob fun v => K v none
  | _ => False)
 | .makeSlice t l c => makeSliceC T E t l c fun ob f => K (f s) (some ob)
 | .call c => match c.callee with
  | .builtin .len => pureK T E H (.call c) fun v => K v none
  | .builtin .min => pureK T E H (.call c) fun v => K v none
  | .value f => evK E f fun fv => (match fv with
   | .fn f cap => mapK (evK E) c.args.toList fun as => appK as cap fun as => vcallK P f H as fun v => K v none
   | _ => False)
  | _ => False
 | o => pureK T E H o fun v => K v none
section
variable {P : Program} {T : List TY} {E : List AV} {H : List HO}
theorem once_boxC {x : Operand} {K : HO → (Nat → AV) → Prop} (h : boxC E x K) : ∃ ob f, K ob f ∧ ∀ E', evD E' x = evD E x → ∀ K' : HO → (Nat → AV) → Prop, K' ob f → boxC E' x K' := by
 unfold boxC at h
 rw [evK_iff, cellsK_iff] at h
 split at h
 ·rename_i hb
  exact ⟨_, _, h, fun E' he K' k => by unfold boxC; rw [evK_iff, cellsK_iff, he, hb]; exact k⟩
 ·exact h.elim
theorem once_allocC {t : TypeId} {K : HO → (Nat → AV) → Prop} (h : allocC T t K) : ∃ ob f, K ob f ∧ ∀ K' : HO → (Nat → AV) → Prop, K' ob f → allocC T t K' := by
 unfold allocC at h
 replace h := (lkK_iff _ _ _).1 h; obtain ⟨y, hy, h⟩ := h
 split at h
 ·rename_i hb
  exact ⟨_, _, h, fun K' k => by unfold allocC; exact (lkK_iff _ _ _).2 ⟨y, hy, by simp only [hb]; exact k⟩⟩
 ·exact h.elim
theorem once_fill {fs : List (Nat × Nat × Bool)} : ∀ {parts : List (Nat × Operand)} {cells : List AV} {K : List AV → Prop}, fillK E fs parts cells K →
  ∃ r, K r ∧ ∀ E', (∀ p ∈ parts, evD E' p.2 = evD E p.2) → ∀ K' : List AV → Prop, K' r → fillK E' fs parts cells K'
 | [], cells, K, h => ⟨_, h, fun E' _ K' k => k⟩
 | (i, x) :: r, cells, K, h => by
  unfold fillK at h
  replace h := (lkK_iff _ _ _).1 h; obtain ⟨⟨off, size, ag⟩, hf, h⟩ := h
  simp only at h
  rw [evK_iff, cellsK_iff] at h
  split at h
  ·rename_i hb
   rw [putsK_iff] at h
   obtain ⟨rr, h, hr⟩ := once_fill h
   refine ⟨rr, h, fun E' he K' k => ?_⟩
   unfold fillK
   refine (lkK_iff _ _ _).2 ⟨_, hf, ?_⟩
   simp only
   rw [evK_iff, cellsK_iff, he (i, x) (by simp), hb]
   simp only
   rw [putsK_iff]
   exact hr E' (fun p hp => he p (by simp [hp])) K' k
  ·exact h.elim
theorem once_build {t : TypeId} {parts : List (Nat × Operand)} {K : AV → Prop} (h : buildK T E t parts K) : ∃ r, K r ∧ ∀ E', (∀ p ∈ parts, evD E' p.2 = evD E p.2) → ∀ K' : AV → Prop, K' r → buildK T E' t parts K' := by
 unfold buildK at h
 replace h := (lkK_iff _ _ _).1 h; obtain ⟨y, hy, h⟩ := h
 split at h
 ·rename_i fs hk
  split at h
  ·rename_i hb
   obtain ⟨r, h, hr⟩ := once_fill h
   exact ⟨_, h, fun E' he K' k => by unfold buildK; exact (lkK_iff _ _ _).2 ⟨y, hy, by simp only [hk, hb]; exact hr E' he _ k⟩⟩
  ·exact h.elim
 ·rename_i n sz ag hk
  split at h
  ·rename_i hb
   obtain ⟨r, h, hr⟩ := once_fill h
   exact ⟨_, h, fun E' he K' k => by unfold buildK; exact (lkK_iff _ _ _).2 ⟨y, hy, by simp only [hk, hb]; exact hr E' he _ k⟩⟩
  ·exact h.elim
 ·exact h.elim
theorem once_zero {e : TypeId} {K : AV → Prop} (h : zeroK T e K) : Once (zeroK T e) K := by
 unfold zeroK at h
 replace h := (lkK_iff _ _ _).1 h; obtain ⟨y, hy, h⟩ := h
 split at h
 ·rename_i ha
  exact ⟨_, h, fun K' k => by unfold zeroK; exact (lkK_iff _ _ _).2 ⟨y, hy, by simp only [ha]; exact k⟩⟩
 ·rename_i ha
  split at h
  ·rename_i z hz
   rw [AV.force_iff] at h
   exact ⟨_, h, fun K' k => by unfold zeroK; exact (lkK_iff _ _ _).2 ⟨y, hy, by simp only [ha, hz]; rw [AV.force_iff]; exact k⟩⟩
  ·exact h.elim
theorem once_fillEs {sz : Nat} : ∀ {parts : List (Nat × Operand)} {es : List AV} {K : List AV → Prop}, fillEsK E sz parts es K →
  ∃ r, K r ∧ ∀ E', (∀ p ∈ parts, evD E' p.2 = evD E p.2) → ∀ K' : List AV → Prop, K' r → fillEsK E' sz parts es K'
 | [], es, K, h => ⟨_, h, fun E' _ K' k => k⟩
 | (i, x) :: r, es, K, h => by
  unfold fillEsK at h
  rw [evK_iff, cellsK_iff] at h
  split at h
  ·rename_i hb
   rw [updK_iff] at h
   obtain ⟨rr, h, hr⟩ := once_fillEs h
   refine ⟨rr, h, fun E' he K' k => ?_⟩
   unfold fillEsK
   rw [evK_iff, cellsK_iff, he (i, x) (by simp), hb]
   simp only
   rw [updK_iff]
   exact hr E' (fun p hp => he p (by simp [hp])) K' k
  ·exact h.elim
theorem once_buildSlice {t : TypeId} {n : Nat} {parts : List (Nat × Operand)} {K : HO → (Nat → AV) → Prop} (h : buildSliceC T E t n parts K) :
  ∃ ob f, K ob f ∧ ∀ E', (∀ p ∈ parts, evD E' p.2 = evD E p.2) → ∀ K' : HO → (Nat → AV) → Prop, K' ob f → buildSliceC T E' t n parts K' := by
 unfold buildSliceC at h
 replace h := (lkK_iff _ _ _).1 h; obtain ⟨y, hy, h⟩ := h
 split at h
 ·rename_i e esz by' ag hk
  obtain ⟨z, h, hz⟩ := once_zero h
  rw [cellsK_iff] at h
  split at h
  ·rename_i hb
   rw [repK_iff] at h
   obtain ⟨r, h, hr⟩ := once_fillEs h
   exact ⟨_, _, h, fun E' he K' k => by unfold buildSliceC; exact (lkK_iff _ _ _).2 ⟨y, hy, by simp only [hk]; exact hz _ (by rw [cellsK_iff, hb]; simp only; rw [repK_iff]; exact hr E' he _ k)⟩⟩
  ·exact h.elim
 ·exact h.elim
theorem once_makeSlice {t : TypeId} {ln cp : Operand} {K : HO → (Nat → AV) → Prop} (h : makeSliceC T E t ln cp K) :
  ∃ ob f, K ob f ∧ ∀ E', evD E' ln = evD E ln → evD E' cp = evD E cp → ∀ K' : HO → (Nat → AV) → Prop, K' ob f → makeSliceC T E' t ln cp K' := by
 unfold makeSliceC at h
 replace h := (lkK_iff _ _ _).1 h; obtain ⟨y, hy, h⟩ := h
 split at h
 ·rename_i e esz by' ag hk
  obtain ⟨z, h, hz⟩ := once_zero h
  rw [cellsK_iff] at h
  split at h
  ·rename_i hb
   rw [evK_iff, evK_iff] at h
   split at h
   ·rename_i n c e1 e2
    exact ⟨_, _, h.2, fun E' h1 h2 K' k => by
     unfold makeSliceC
     exact (lkK_iff _ _ _).2 ⟨y, hy, by
      simp only [hk]
      refine hz _ ?_
      rw [cellsK_iff, hb]
      simp only
      rw [evK_iff, evK_iff, h1, h2, e1, e2]
      exact ⟨h.1, k⟩⟩⟩
   ·exact h.elim
  ·exact h.elim
 ·exact h.elim
theorem once_r {s : Nat} {o : Op} {K : AV → Option HO → Prop} (h : rK P T s E H o K) : ∃ r ob, K r ob ∧ ∀ E' H', Agree E E' o → HUses E o H H' → H'[s]? = H[s]? → ∀ K' : AV → Option HO → Prop, K' r ob → rK P T s E' H' o K' := by
 unfold rK at h
 split at h
 case h_1 t x =>
  obtain ⟨ob, f, h, hf⟩ := once_boxC h
  exact ⟨_, _, h, fun E' H' ha _ _ K' k => by unfold rK; exact hf E' (ha x (by simp [Op.operands])) _ k⟩
 case h_2 t =>
  obtain ⟨ob, f, h, hf⟩ := once_allocC h
  exact ⟨_, _, h, fun E' H' ha _ _ K' k => by unfold rK; exact hf _ k⟩
 case h_3 t parts =>
  obtain ⟨r, h, hr⟩ := once_build h
  exact ⟨_, _, h, fun E' H' ha _ _ K' k => by unfold rK; exact hr E' (fun p hp => ha p.2 (by simp only [Op.operands]; simp; exact ⟨p.1, by simpa using hp⟩)) _ k⟩
 case h_4 t n parts =>
  replace h := (lkK_iff _ _ _).1 h; obtain ⟨pl, hpl, h⟩ := h
  split at h
  ·obtain ⟨ob, f, h, hr⟩ := once_buildSlice h
   exact ⟨_, _, h, fun E' H' ha _ hs K' k => by unfold rK; exact (lkK_iff _ _ _).2 ⟨.dead, by rw [hs]; exact hpl, hr E' (fun p hp => ha p.2 (by simp only [Op.operands]; simp; exact ⟨p.1, by simpa using hp⟩)) _ k⟩⟩
  ·rename_i cs vs ms
   obtain ⟨ob, f, h, hr⟩ := once_buildSlice h
   obtain ⟨v, h, hv⟩ := once_im h
   exact ⟨_, _, h, fun E' H' ha _ hs K' k => by unfold rK; exact (lkK_iff _ _ _).2 ⟨.ghost cs vs ms, by rw [hs]; exact hpl, hr E' (fun p hp => ha p.2 (by simp only [Op.operands]; simp; exact ⟨p.1, by simpa using hp⟩)) _ (hv _ k)⟩⟩
  ·exact h.elim
 case h_5 t l c =>
  obtain ⟨ob, f, h, hr⟩ := once_makeSlice h
  exact ⟨_, _, h, fun E' H' ha _ _ K' k => by unfold rK; exact hr E' (ha l (by simp [Op.operands])) (ha c (by simp [Op.operands])) _ k⟩
 case h_6 c =>
  split at h
  ·rename_i hc
   obtain ⟨r, h1, h2⟩ := once_pure h
   exact ⟨_, _, h1, fun E' H' ha hu _ K' k => by unfold rK; simp only [hc]; exact h2 E' H' ha hu _ k⟩
  ·rename_i hc
   obtain ⟨r, h1, h2⟩ := once_pure h
   exact ⟨_, _, h1, fun E' H' ha hu _ K' k => by unfold rK; simp only [hc]; exact h2 E' H' ha hu _ k⟩
  ·rename_i f hc
   rw [evK_iff] at h
   split at h
   ·rename_i fi cap hfe
    rw [mapK_iff (evK E) (evD E) (evK_iff E), appK_iff] at h
    obtain ⟨r, h1, h2⟩ := once_vcall h
    refine ⟨_, _, h1, fun E' H' ha hu _ K' k => ?_⟩
    have hops : f ∈ (Op.call c).operands := by simp [Op.operands, Call.operands, hc]
    have hopa : ∀ x ∈ c.args.toList, x ∈ (Op.call c).operands := fun x hx => by simp [Op.operands, Call.operands, hc]; exact .inr (by simpa using hx)
    unfold rK
    simp only [hc]
    rw [evK_iff, ha f hops, hfe]
    simp only
    rw [mapK_iff (evK E') (evD E') (evK_iff E'), appK_iff]
    have hm : c.args.toList.map (evD E') = c.args.toList.map (evD E) := List.map_congr_left fun x hx => ha x (hopa x hx)
    rw [hm]
    refine h2 H' (fun x hx => ?_) _ k
    rcases List.mem_append.1 hx with hx | hx
    ·obtain ⟨y, hy, rfl⟩ := List.mem_map.1 hx
     exact hu y (hopa y hy)
    ·intro l ob hr hl
     refine hu f hops l ob ?_ hl
     rw [hfe]
     unfold refA
     have key : ∀ (xs : List AV), x ∈ xs → refAs l xs = true := by
      intro xs
      induction xs with
      | nil => intro h; cases h
      | cons y ys ih =>
       intro h
       unfold refAs
       rcases List.mem_cons.1 h with rfl | h
       ·rw [hr]; rfl
       ·rw [ih h]; simp
     exact key cap hx
   ·exact h.elim
  ·exact h.elim
 case h_7 h1 h2 h3 h4 h5 h6 =>
  obtain ⟨r, k1, k2⟩ := once_pure h
  refine ⟨_, _, k1, fun E' H' ha hu _ K' k => ?_⟩
  unfold rK
  split
  ·exact absurd rfl (h1 _ _)
  ·exact absurd rfl (h2 _)
  ·exact absurd rfl (h3 _ _)
  ·exact absurd rfl (h4 _ _ _)
  ·exact absurd rfl (h5 _ _ _)
  ·exact absurd rfl (h6 _)
  ·exact k2 E' H' ha hu _ k
end
end Go.Av
set_option linter.unusedSimpArgs false
set_option linter.unusedVariables false
namespace Go.Av
open Go.RowKit (Below)
def nbK (v : AV) (K : AV → Prop) : Prop :=
 match v with
 | .bool b => (b = true → K (.lit true)) ∧ (b = false → K (.lit false))
 | w => K w
def gd2 (ops : List Oper) (E : List AV) (g : Option (Nat × Bool)) (Ky Kn : Prop) : Prop :=
 match g with
 | none => Ky
 | some (j, want) => lkK ops j fun oj => match oj.dst with
  | some d => lkK E d fun v => (match v with
   | .lit b => (match b, want with
    | true, true => Ky
    | false, false => Ky
    | true, false => Kn
    | false, true => Kn)
   | .raw (.tuple ⟨[]⟩) => Kn
   | _ => False)
  | none => False
def setOK (H : List HO) (s : Nat) (ob : Option HO) (K : List HO → Prop) : Prop :=
 match ob with
 | none => K H
 | some ob => lkK H s fun o => (match o with | .dead => updK H s ob K | _ => False)
def setO (H : List HO) (s : Nat) (ob : Option HO) : List HO := match ob with | none => H | some ob => H.set s ob
theorem setOK_iff (H : List HO) (s : Nat) (ob : Option HO) (K : List HO → Prop) : setOK H s ob K ↔ (∀ x, ob = some x → H[s]? = some .dead) ∧ K (setO H s ob) := by
 cases ob with
 | none => simp [setOK, setO]
 | some ob =>
  simp only [setOK, setO]
  rw [lkK_iff]
  constructor
  ·rintro ⟨o, ho, h⟩
   cases o <;> first | exact h.elim | skip
   simp only at h
   rw [updK_iff] at h
   exact ⟨fun _ _ => ho, h⟩
  ·rintro ⟨h1, h2⟩
   exact ⟨.dead, h1 ob rfl, by simp only; rw [updK_iff]; exact h2⟩
def stK (P : Program) (T : List TY) (ops : List Oper) (n0 i : Nat) (o : Oper) (E : List AV) (H : List HO) (K : KK) : Prop :=
 gd2 ops E o.guard (rK P T (n0 + i) E H o.op fun v ob => nbK v fun v => updOK E o.dst v fun E' => setOK H (n0 + i) ob fun H' => K E' H')
  (updOK E o.dst (.raw undef) fun E' => K E' H)
def memB : List Nat → Nat → Bool
 | [], _ => false
 | x :: l, n => match Nat.beq x n with | true => true | false => memB l n
def rdK (P : Program) (T : List TY) (ops : List Oper) (n0 : Nat) (we : List Nat) : Nat → List Oper → List AV → List HO → KK → XX → Prop
 | _, [], E, H, K, _ => K E H
 | i, o :: r, E, H, K, X => match memB we i with
  | false => stK P T ops n0 i o E H fun E H => rdK P T ops n0 we (i + 1) r E H K X
  | true => gd2 ops E o.guard (opK none P T E H o.op (fun v E' H' => nbK v fun v => updOK E' o.dst v fun E'' => rdK P T ops n0 we (i + 1) r E'' H' K X) X)
    (updOK E o.dst (.raw undef) fun E' => rdK P T ops n0 we (i + 1) r E' H K X)
def AgreeG (ops : List Oper) (E E' : List AV) (o : Oper) : Prop := Agree E E' o.op ∧ ∀ j want oj d, o.guard = some (j, want) → ops[j]? = some oj → oj.dst = some d → E'[d]? = E[d]?
section
variable {P : Program} {T : List TY} {E : List AV} {H : List HO} {ops : List Oper} {n0 i : Nat} {o : Oper}
theorem once_nb {v : AV} {K : AV → Prop} (h : nbK v K) : ∃ u, K u ∧ (∀ K' : AV → Prop, K' u → nbK v K') ∧ (∀ (C : CellSet) (w : World) (mu : Mu) (z : Value), Rep C w v mu z → Rep C w u mu z) ∧ (∀ b, u ≠ .bool b) := by
 unfold nbK at h
 split at h
 ·rename_i b
  cases b with
  | true => exact ⟨.lit true, h.1 rfl, fun K' k => by unfold nbK; exact ⟨fun _ => k, fun h => by cases h⟩, fun _ _ _ _ h => by unfold Rep at *; exact h, fun _ h => by cases h⟩
  | false => exact ⟨.lit false, h.2 rfl, fun K' k => by unfold nbK; exact ⟨fun h => (by cases h), fun _ => k⟩, fun _ _ _ _ h => by unfold Rep at *; exact h, fun _ h => by cases h⟩
 ·rename_i hne
  refine ⟨v, h, fun K' k => ?_, ?_, fun b hb => hne b hb⟩
  ·unfold nbK
   split
   ·rename_i b; exact absurd rfl (hne b)
   ·exact k
  ·exact fun _ _ _ _ h => h
theorem gd2_cases {g : Option (Nat × Bool)} {Ky Kn : Prop} (h : gd2 ops E g Ky Kn) :
  (Ky ∧ ∀ E' Ky' Kn', (∀ j want oj d, g = some (j, want) → ops[j]? = some oj → oj.dst = some d → E'[d]? = E[d]?) → Ky' → gd2 ops E' g Ky' Kn') ∨
  (Kn ∧ ∀ E' Ky' Kn', (∀ j want oj d, g = some (j, want) → ops[j]? = some oj → oj.dst = some d → E'[d]? = E[d]?) → Kn' → gd2 ops E' g Ky' Kn') := by
 cases g with
 | none => exact .inl ⟨h, fun _ _ _ _ k => k⟩
 | some jw =>
  obtain ⟨j, want⟩ := jw
  simp only [gd2] at h
  replace h := (lkK_iff _ _ _).1 h; obtain ⟨oj, hoj, h⟩ := h
  cases hd : oj.dst with
  | none => rw [hd] at h; exact h.elim
  | some d =>
   rw [hd] at h
   simp only at h
   replace h := (lkK_iff _ _ _).1 h; obtain ⟨v, hv, h⟩ := h
   have fin : ∀ E' Ky' Kn', (∀ j' want' oj' d', some (j, want) = some (j', want') → ops[j']? = some oj' → oj'.dst = some d' → E'[d']? = E[d']?) →
     (match (generalizing := false) v with | .lit b => (match (generalizing := false) b, want with | true, true => Ky' | false, false => Ky' | true, false => Kn' | false, true => Kn') | .raw (.tuple ⟨[]⟩) => Kn' | _ => False) → gd2 ops E' (some (j, want)) Ky' Kn' := fun E' Ky' Kn' he k => by
    simp only [gd2]
    refine (lkK_iff _ _ _).2 ⟨oj, hoj, ?_⟩
    rw [hd]
    exact (lkK_iff _ _ _).2 ⟨v, by rw [he j want oj d rfl hoj hd]; exact hv, k⟩
   split at h
   ·rename_i b
    cases b <;> cases want
    ·exact .inl ⟨h, fun E' Ky' Kn' he k => fin E' Ky' Kn' he k⟩
    ·exact .inr ⟨h, fun E' Ky' Kn' he k => fin E' Ky' Kn' he k⟩
    ·exact .inr ⟨h, fun E' Ky' Kn' he k => fin E' Ky' Kn' he k⟩
    ·exact .inl ⟨h, fun E' Ky' Kn' he k => fin E' Ky' Kn' he k⟩
   ·exact .inr ⟨h, fun E' Ky' Kn' he k => fin E' Ky' Kn' he k⟩
   ·exact h.elim
theorem once_st {K : KK} (h : stK P T ops n0 i o E H K) : ∃ v ob, (∀ x, ob = some x → H[n0 + i]? = some .dead) ∧ K (updO E o.dst v) (setO H (n0 + i) ob) ∧
  ∀ E' H', AgreeG ops E E' o → HUses E o.op H H' → H'[n0 + i]? = H[n0 + i]? → ∀ K' : KK, K' (updO E' o.dst v) (setO H' (n0 + i) ob) → stK P T ops n0 i o E' H' K' := by
 unfold stK at h
 rcases gd2_cases h with ⟨h, hg⟩ | ⟨h, hg⟩
 ·obtain ⟨r, ob, h, hr⟩ := once_r h
  obtain ⟨v, h, hv, _, _⟩ := once_nb h
  rw [updOK_iff, setOK_iff] at h
  refine ⟨v, ob, h.1, h.2, fun E' H' ha hu hd K' k => ?_⟩
  unfold stK
  refine hg E' _ _ ha.2 (hr E' H' ha.1 hu hd _ (hv _ ?_))
  rw [updOK_iff, setOK_iff]
  exact ⟨fun x hx => by rw [hd]; exact h.1 x hx, k⟩
 ·rw [updOK_iff] at h
  refine ⟨.raw undef, none, (fun _ h => by cases h), h, fun E' H' ha hu hd K' k => ?_⟩
  unfold stK
  refine hg E' _ _ ha.2 ?_
  rw [updOK_iff]; exact k
theorem stK_mono {K K' : KK} (h : stK P T ops n0 i o E H K) (hk : ∀ E H, K E H → K' E H) : stK P T ops n0 i o E H K' := by
 obtain ⟨v, ob, h1, h2, h3⟩ := once_st h
 exact h3 E H ⟨fun _ _ => rfl, fun _ _ _ _ _ _ _ => rfl⟩ (fun _ _ _ _ _ h => h) rfl K' (hk _ _ h2)
theorem rK_opK {s : Nat} {r : AV} {ob : Option HO} {X : XX} {op : Op} (h : rK P T s E H op fun v ob' => v = r ∧ ob' = ob) (hd : ∀ x, ob = some x → H[s]? = some .dead) (hbs : ∀ t n parts, op = .buildSlice t n parts → H[s]? = some .dead) :
  opK (some s) P T E H op (fun v E' H' => v = r ∧ E' = E ∧ H' = setO H s ob) X := by
 have al : ∀ {x : HO} {f : Nat → AV}, f s = r ∧ some x = ob → alK (some s) H x fun H' l => f l = r ∧ E = E ∧ H' = setO H s ob := fun {x f} k => by
  obtain ⟨k1, rfl⟩ := k
  unfold alK
  exact (lkK_iff _ _ _).2 ⟨.dead, hd x rfl, by dsimp only; rw [updK_iff]; exact ⟨k1, rfl, rfl⟩⟩
 have pu : ∀ {op : Op}, pureK T E H op (fun v => v = r ∧ none = ob) → pureK T E H op (fun v => v = r ∧ E = E ∧ H = setO H s ob) := fun h => by
  obtain ⟨v, k, hv⟩ := once_pure h
  exact hv E H (fun _ _ => rfl) (fun _ _ _ _ _ h => h) _ ⟨k.1, rfl, by rw [← k.2]; rfl⟩
 cases op
 case box t x =>
  change boxC E x (fun o f => f s = r ∧ some o = ob) at h
  show boxC E x (fun o f => alK (some s) H o fun H' l => f l = r ∧ E = E ∧ H' = setO H s ob)
  obtain ⟨ob', f, k, hf⟩ := once_boxC h
  exact hf E rfl _ (al k)
 case alloc t =>
  change allocC T t (fun o f => f s = r ∧ some o = ob) at h
  show allocC T t (fun o f => alK (some s) H o fun H' l => f l = r ∧ E = E ∧ H' = setO H s ob)
  obtain ⟨ob', f, k, hf⟩ := once_allocC h
  exact hf _ (al k)
 case build t parts =>
  change buildK T E t parts.toList (fun v => v = r ∧ none = ob) at h
  show buildK T E t parts.toList (fun v => v = r ∧ E = E ∧ H = setO H s ob)
  obtain ⟨v, k, hv⟩ := once_build h
  exact hv E (fun _ _ => rfl) _ ⟨k.1, rfl, by rw [← k.2]; rfl⟩
 case buildSlice t n parts =>
  have h0 := hbs t n parts rfl
  unfold rK at h
  replace h := (lkK_iff _ _ _).1 h; obtain ⟨pl, hpl, h⟩ := h
  rw [h0] at hpl
  obtain rfl := Option.some.inj hpl
  change buildSliceC T E t n parts.toList (fun o f => f s = r ∧ some o = ob) at h
  show buildSliceC T E t n parts.toList (fun o f => alK (some s) H o fun H' l => f l = r ∧ E = E ∧ H' = setO H s ob)
  obtain ⟨ob', f, k, hf⟩ := once_buildSlice h
  exact hf E (fun _ _ => rfl) _ (al k)
 case makeSlice t l c =>
  change makeSliceC T E t l c (fun o f => f s = r ∧ some o = ob) at h
  show makeSliceC T E t l c (fun o f => alK (some s) H o fun H' l => f l = r ∧ E = E ∧ H' = setO H s ob)
  obtain ⟨ob', f, k, hf⟩ := once_makeSlice h
  exact hf E rfl rfl _ (al k)
 case call c =>
  unfold rK at h
  unfold opK
  dsimp only at h ⊢
  split at h
  ·rename_i hc
   rw [hc]
   exact pu h
  ·rename_i hc
   rw [hc]
   exact pu h
  ·rename_i f hc
   rw [hc]
   dsimp only
   rw [evK_iff] at h ⊢
   split at h
   ·rename_i fi cap hfe
    rw [hfe]
    dsimp only
    rw [mapK_iff (evK E) (evD E) (evK_iff E), appK_iff] at h ⊢
    have hgood : goodF P fi = true := by
     unfold vcallK at h
     obtain ⟨as', ⟨v, hv, _⟩, _⟩ := once_closes h
     exact hv.1.good
    obtain ⟨v, k, hv⟩ := once_vcall h
    exact ACall.of_vcall (hv H (fun _ _ _ _ _ h => h) _ ⟨k.1, rfl, by rw [← k.2]; rfl⟩) hgood
   ·exact h.elim
  ·exact h.elim
 case convert s' d x =>
  have h' := pu (show pureK T E H (.convert s' d x) (fun v => v = r ∧ none = ob) from h)
  unfold pureK at h'
  unfold opK
  dsimp only at h' ⊢
  rw [evK_iff] at h' ⊢
  generalize evD E x = ex at h'
  cases ex <;> first | exact h'.elim | skip
  ·exact h'
  ·rename_i l
   unfold convK at h'
   dsimp only at h' ⊢
   replace h' := (lkK_iff _ _ _).1 h'; obtain ⟨ys, hys, h'⟩ := h'
   replace h' := (lkK_iff _ _ _).1 h'; obtain ⟨yd, hyd, h'⟩ := h'
   refine (lkK_iff _ _ _).2 ⟨yd, hyd, ?_⟩
   cases hk : yd.k <;> rw [hk] at h' <;> first | exact h'.elim | skip
   dsimp only
   unfold convK
   exact (lkK_iff _ _ _).2 ⟨ys, hys, (lkK_iff _ _ _).2 ⟨yd, hyd, by rw [hk]; exact h'⟩⟩
 case load t ad =>
  unfold rK at h
  dsimp only at h
  cases ad with
  | global g => exact (show False from h).elim
  | _ => exact pu h
 all_goals
  unfold rK at h
  dsimp only at h
  first | exact pu h | (unfold pureK at h; exact h.elim)
end
end Go.Av
set_option linter.unusedSimpArgs false
set_option linter.unusedVariables false
namespace Go.Av
open Go.RowKit (Below)
section
variable {G : Cx} {C : CellSet} {w w' : World} {mu : Mu} {H : List HO} {E : List AV} {a : Act} {T : List TY} {P : Program} {ops : Array Oper} {n0 i : Nat} {o : Oper}
theorem gd2_sound {Ky Kn : Prop} (hst : StC G C mu E H a w) (h : gd2 ops.toList E o.guard Ky Kn) :
  (Region.wanted o (yielded ops a.tmps) = true ∧ Ky) ∨ (Region.wanted o (yielded ops a.tmps) = false ∧ Kn) := by
 cases hg : o.guard with
 | none => rw [hg] at h; exact .inl ⟨by simp [Region.wanted, hg], h⟩
 | some jw =>
  obtain ⟨j, want⟩ := jw
  rw [hg] at h
  simp only [gd2] at h
  replace h := (lkK_iff _ _ _).1 h; obtain ⟨oj, hoj, h⟩ := h
  split at h
  ·rename_i d hd
   replace h := (lkK_iff _ _ _).1 h; obtain ⟨v, hv, h⟩ := h
   obtain ⟨u, hu, hr⟩ := getD_of_rep hst.env hv
   have hoj' : ops[j]? = some oj := by simpa using hoj
   have hw : ∀ b, u = .bool b → Region.wanted o (yielded ops a.tmps) = (b == want) := fun b hb => by
    simp [Region.wanted, hg, yielded, hoj', hd, hu, hb]
   split at h
   ·rename_i b
    have hb := rep_lit_inv hr
    cases b <;> cases want
    ·exact .inl ⟨by rw [hw _ hb]; rfl, h⟩
    ·exact .inr ⟨by rw [hw _ hb]; rfl, h⟩
    ·exact .inr ⟨by rw [hw _ hb]; rfl, h⟩
    ·exact .inl ⟨by rw [hw _ hb]; rfl, h⟩
   ·have hb : u = .tuple ⟨[]⟩ := by unfold Rep at hr; exact hr
    refine .inr ⟨?_, h⟩
    simp [Region.wanted, hg, yielded, hoj', hd, hu, hb]
   ·exact h.elim
  ·exact h.elim
theorem al_snoc0 (H : List HO) (ob : HO) : Al H H.length (H ++ [ob]) ob := ⟨by simp, by simp, by simp, fun i hi => by
 rcases Nat.lt_or_ge i H.length with h | h
 ·rw [List.getElem?_append_left h]
 ·rw [List.getElem?_append_right h, List.getElem?_eq_none (by simp; omega), List.getElem?_eq_none h], .inl (by simp)⟩
theorem closeds_all : ∀ {es : List AV}, closeds es = true → ∀ e ∈ es, closed e = true
 | [], _, _, h => by cases h
 | a :: r, hc, e, he => by
  unfold closeds at hc
  simp only [Bool.and_eq_true] at hc
  rcases List.mem_cons.1 he with rfl | he
  ·exact hc.1
  ·exact closeds_all hc.2 e he
theorem buildSlice_im (hT : TOk G.P T) (h : StC G C mu E H a w) {t : TypeId} {n : Nat} {parts : Array (Nat × Operand)} {K : AV → Prop} (hk : buildSliceC T E t n parts.toList fun ob _ => imK ob K) :
  ∃ r v C' w', K r ∧ (Instr.buildSlice t n (parts.map fun p => (p.1, a.eval p.2))).run G.P w = .ok v w' ∧ StC G C' mu E H a w' ∧ Rep C' w' r mu v := by
 obtain ⟨e, esz, es, us, k1, k2, k3, k4, k5, k6, k7, k8⟩ := buildSlice_run hT h hk
 unfold imK at k1
 dsimp only at k1
 split at k1
 ·rename_i hc
  have hb : Below w.heap.size w (w.alloc (.cells us.toArray e)) := (Below.refl _ _).alloc (Nat.le_refl _) _
  have hsz : (w.alloc (.cells us.toArray e)).heap.size = w.heap.size + 1 := by simp
  obtain ⟨mu', m1, m2⟩ := new_arr (cap := n) h (al_snoc0 H (.arr e esz es)) k3 (e := e) (vs := us) (by rw [k2, ← k6, List.take_length]; exact k4) k5 (by omega) (by omega) k6
  refine ⟨_, _, newC C w.heap.size (w.alloc (.cells us.toArray e)).heap.size, _, k1, k8, h.below hb, ?_⟩
  have hx : Ext C (newC C w.heap.size (w.alloc (.cells us.toArray e)).heap.size) (w.alloc (.cells us.toArray e)) (w.alloc (.cells us.toArray e)) := ⟨fun _ _ h => .inl h, fun _ _ _ => rfl⟩
  have m3 := m2
  unfold Rep at m3
  obtain ⟨x, hm, hle, hmx, hv⟩ := m3
  have hB : ∀ g b o, mu' H.length = some g → g.block? = some b → newC C w.heap.size (w.alloc (.cells us.toArray e)).heap.size b o := by
   intro g b o hg hb'
   rw [hm] at hg
   obtain rfl := Option.some.inj hg
   unfold subSl at hv
   split at hv
   ·rename_i ad _ cap
    simp only [Value.slice.injEq, Option.some.injEq, Addr.mk.injEq] at hv
    simp only [GO.block?, Option.some.injEq] at hb'
    right
    rw [hsz]
    omega
   ·simp at hv
  have := rows_own (l := H.length) (e := e) (sz := esz) (es := es) m1.heap hx hB (by simp) (closeds_all hc) m2
  rw [k2] at this
  exact Rep.mono (Ext.refl _ _) _ (MuLe.none mu) this
 ·exact k1.elim
theorem st_sound (hT : TOk G.P T) {r : Option Nat} {n : Nat} (hi : ops[i]? = some o) {K Kn : KK} {X : XX} (h : stK G.P T ops.toList n0 i o E H K) (hst : StC G C mu E H a w) :
  (Region.wanted o (yielded ops a.tmps) = true ∧ o.wpIn (fw r) n G.P a w (fun a w => ∃ E' H', K E' H' ∧ St G E' H' a w) (QOf G Kn X)) ∨
  (Region.wanted o (yielded ops a.tmps) = false ∧ ∃ E' H', K E' H' ∧ St G E' H' (a.put o.dst undef) w) := by
 unfold stK at h
 rcases gd2_sound hst h with ⟨hw, h⟩ | ⟨hw, h⟩
 ·refine .inl ⟨hw, ?_⟩
  obtain ⟨r, ob, h, hr⟩ := once_r h
  obtain ⟨v, hk, _, hv, _⟩ := once_nb h
  rw [updOK_iff, setOK_iff] at hk
  have hrk := hr E H (fun _ _ => rfl) (fun _ _ _ _ _ h => h) rfl (fun v ob' => v = r ∧ ob' = ob) ⟨rfl, rfl⟩
  have fin : ∀ a' w', OpPost G o (fun v E' H' => v = r ∧ E' = E ∧ H' = setO H (n0 + i) ob) a' w' → ∃ E' H', K E' H' ∧ St G E' H' a' w' := by
   intro a' w' hp
   obtain ⟨r', E', H', ⟨rfl, rfl, rfl⟩, C', mu', hs⟩ := hp
   refine ⟨_, _, hk.2, C', mu', hs.frame ?_ rfl⟩
   have he := hs.env
   cases hd : o.dst with
   | none => rw [hd] at he; exact he
   | some d =>
    rw [hd] at he
    rw [reps_iff] at he ⊢
    refine ⟨by simpa [updO] using he.1, fun k hk hk' => ?_⟩
    have hk0 : k < (updO E' (some d) r').length := by simpa [updO] using hk
    have := he.2 k hk0 hk'
    by_cases hkd : d = k
    ·subst hkd
     simp only [updO, List.getElem_set_self] at this ⊢
     exact hv _ _ _ _ this
    ·simp only [updO] at this ⊢
     rw [List.getElem_set_ne hkd] at this ⊢
     exact this
  by_cases hbs : ∀ t n parts, o.op = .buildSlice t n parts → H[n0 + i]? = some .dead
  ·have h1 := rK_opK (X := X) hrk hk.1 hbs
   exact op_sound hT h1 hst fin
  ·have hbs : ∃ t n parts, o.op = .buildSlice t n parts ∧ H[n0 + i]? ≠ some .dead := by
    apply Classical.byContradiction
    intro hne
    exact hbs fun t n parts ho => Classical.byContradiction fun hd => hne ⟨t, n, parts, ho, hd⟩
   obtain ⟨t, m, parts, ho, hnd⟩ := hbs
   rw [ho] at hrk
   unfold rK at hrk
   replace hrk := (lkK_iff _ _ _).1 hrk; obtain ⟨pl, hpl, hrk⟩ := hrk
   split at hrk
   ·exact absurd hpl hnd
   ·obtain ⟨r', v', C', w', ⟨e1, e2⟩, e3, e4, e5⟩ := buildSlice_im hT hst hrk
    have h1 : r' = r ∧ E = E ∧ H = setO H (n0 + i) ob := ⟨e1, rfl, by rw [← e2]; rfl⟩
    have h2 : (execOp a.eval o).run G.P w = .ok (.value v') w' := execOp_value (by simp [execOp, ho]) e3
    exact wpIn_of_wp (fun c hc => by rw [ho] at hc; cases hc) (op_of_value (X := X) (Q := Kn) (K := fun v E' H' => v = r ∧ E' = E ∧ H' = setO H (n0 + i) ob) fin h1 h2 e4 e5)
   ·exact hrk.elim
 ·rw [updOK_iff] at h
  refine .inr ⟨hw, _, _, h, C, mu, hst.frame (reps_put hst.env o.dst (by unfold Rep; rfl)) (put_defers _ _ _)⟩
theorem wp_some {next : Act → World → Prop} {Q : Exit → Act → World → Prop} (h : o.wpIn (fw none) 0 P a w next Q) : (∃ a w, next a w) ∨ ∃ e a w, Q e a w := by
 have h := h.2
 generalize (o.semAt (fw none).round a.eval).run P w = r at h
 cases r with
 | ok n w' =>
  cases n <;> simp only [Oper.uponIn] at h <;> first | exact h.elim | exact .inl ⟨_, _, h⟩ | skip
  ·obtain ⟨e, w'', fr, h, _⟩ := h.2.2 [] (room_wide _)
   cases e with
   | returned v => exact .inl ⟨_, _, h⟩
   | panicked c => exact .inr ⟨_, _, _, h⟩
   | outgrown => obtain ⟨a, w, h⟩ := h; exact .inr ⟨_, _, _, h⟩
  ·obtain ⟨e, w'', h, _⟩ := h.2.2 (Frame.ofRow P "" #[] .normal) [] (room_wide _)
   cases e with
   | returned v => exact .inl ⟨_, _, h⟩
   | panicked c => exact .inr ⟨_, _, _, h⟩
   | outgrown => obtain ⟨a, w, h⟩ := h; exact .inr ⟨_, _, _, h⟩
  ·obtain ⟨v, w'', h, _⟩ := h.2 (Frame.ofRow P "" #[] .normal) [] (room_wide _)
   exact .inl ⟨_, _, h⟩
 | halt x w' => cases x <;> simp only [Oper.uponIn] at h <;> first | exact h.elim | exact .inr ⟨_, _, _, h⟩
def Sat (P : Program) (E : List AV) (H : List HO) : Prop := ∃ G a w, G.P = P ∧ St G E H a w
theorem st_sat (hT : TOk P T) (hi : ops[i]? = some o) {E' : List AV} {H' : List HO} (h : stK P T ops.toList n0 i o E H fun E1 H1 => E1 = E' ∧ H1 = H') (hs : Sat P E H) : Sat P E' H' := by
 obtain ⟨G, a, w, rfl, C, mu, hst⟩ := hs
 rcases st_sound (r := none) (n := 0) hT hi (Kn := fun _ _ => False) (X := fun _ _ _ => False) h hst with ⟨_, h1⟩ | ⟨_, E1, H1, ⟨e1, e2⟩, h1⟩
 ·rcases wp_some h1 with ⟨a', w', E1, H1, ⟨e1, e2⟩, h2⟩ | ⟨e, a', w', h2⟩
  ·subst e1 e2; exact ⟨G, a', w', rfl, h2⟩
  ·cases e <;> simp [QOf] at h2
 ·subst e1 e2; exact ⟨G, _, w, rfl, h1⟩
theorem sat_noref (hs : Sat P E H) {l : Nat} (hl : H[l]? = some .dead) (x : Operand) : refA l (evD E x) = false := by
 obtain ⟨G, a, w, rfl, C, mu, hst⟩ := hs
 exact ref_rep (hst.heap.dead l hl) _ (rep_ev hst.env x)
end
end Go.Av
set_option linter.unusedSimpArgs false
set_option linter.unusedVariables false
namespace Go.Av
section
variable {H : List HO} {E : List AV} {T : List TY} {P : Program}
structure Nat1 (f : AV → AV) : Prop where
 any : f .any = .any
 bool : ∀ b, f (.bool b) = .bool b
 lit : ∀ b, f (.lit b) = .lit b
 nbool : ∀ x b, f x = .bool b → x = .bool b
theorem nat_id : Nat1 id := ⟨rfl, fun _ => rfl, fun _ => rfl, fun _ _ h => h⟩
theorem nat_scrub (l : Nat) : Nat1 (scrub l) := by
 refine ⟨by unfold scrub; rfl, fun b => by unfold scrub; rfl, fun b => by unfold scrub; rfl, fun x b h => ?_⟩
 cases x <;> unfold scrub at h <;> first | exact h | (split at h <;> cases h) | cases h
theorem scrubs_map (l : Nat) : ∀ E : List AV, scrubs l E = E.map (scrub l)
 | [] => by simp [scrubs]
 | x :: E => by simp [scrubs, scrubs_map l E]
theorem once_elems {x : AV} {K : Nat → List AV → Prop} (h : elemsK H x K) : ∃ sz es, K sz es ∧ ∀ K' : Nat → List AV → Prop, K' sz es → elemsK H x K' := by
 unfold elemsK at h
 split at h
 ·exact ⟨_, _, h, fun K' k => k⟩
 ·replace h := (lkK_iff _ _ _).1 h; obtain ⟨ob, hob, h⟩ := h
  split at h
  ·split at h
   ·rename_i hb
    exact ⟨_, _, h.2, fun K' k => by unfold elemsK; exact (lkK_iff _ _ _).2 ⟨_, hob, by simp only [hb]; exact ⟨h.1, k⟩⟩⟩
   ·exact h.elim
  ·exact h.elim
 ·exact h.elim
theorem once_append {t t' : TypeId} {s x : Operand} {K : AV → KK} (h : appendK none T E H t t' s x K) :
  ∃ r f H', Nat1 f ∧ K r (E.map f) H' ∧ ∀ (E2 : List AV), evD E2 s = evD E s → evD E2 x = evD E x → ∀ K' : AV → KK, K' r (E2.map f) H' → appendK none T E2 H t t' s x K' := by
 unfold appendK at h
 split at h
 case h_2 => exact h.elim
 rename_i ht
 replace h := (lkK_iff _ _ _).1 h; obtain ⟨y, hy, h⟩ := h
 split at h
 case h_2 => exact h.elim
 rename_i e esz by' ag hk
 split at h
 case h_2 => exact h.elim
 rename_i hb
 rw [evK_iff, evK_iff] at h
 have fin : ∀ (E2 : List AV), evD E2 s = evD E s → evD E2 x = evD E x → ∀ K' : AV → KK, (match (generalizing := false) evD E x with
    | .raw (.slice none 0 0) => (match evD E s with
     | .own l sz lo n => lkK H l fun ob => (match ob with | .arr _ _ _ => K' (.own l sz lo n) E2 H | _ => False)
     | .raw (.slice none 0 0) => K' (.raw (.slice none 0 0)) E2 H
     | _ => False)
    | _ => elemsK H (evD E x) fun sz xs => (match Nat.beq sz esz with
     | true => (match evD E s with
      | .raw (.slice none 0 0) => (xs.length * by' ≤ 140737488355328) ∧ zeroK T e fun z => cellsK z fun zc => (match Nat.beq zc.length esz && zc.all scalB with
       | true => alK none H (.arr e esz xs) fun H' l => K' (.own l esz 0 xs.length) E2 H'
       | false => False)
      | .own l sz' lo n => lkK H l fun ob => (match ob with
       | .arr e' sz'' es => (match Nat.beq sz' esz && Nat.beq sz'' esz && Nat.beq lo 0 && Nat.beq e' e with
        | true => (n = es.length ∧ (es ++ xs).length * by' ≤ 140737488355328) ∧ zeroK T e fun z => cellsK z fun zc => (match Nat.beq zc.length esz && zc.all scalB with
         | true => scrubK l E2 fun E' => scrubHK l H fun H => updK H l (.arr e esz (es ++ xs)) fun H' => K' (.own l esz 0 (es ++ xs).length) E' H'
         | false => False)
        | false => False)
       | _ => False)
      | _ => False)
     | false => False)) → appendK none T E2 H t t' s x K' := fun E2 h1 h2 K' k => by
  unfold appendK
  simp only [ht]
  refine (lkK_iff _ _ _).2 ⟨y, hy, ?_⟩
  simp only [hk, hb]
  rw [evK_iff, evK_iff, h1, h2]
  exact k
 generalize evD E s = sv at h fin
 generalize evD E x = xv at h fin
 split at h
 ·split at h
  ·rename_i l sz lo n
   replace h := (lkK_iff _ _ _).1 h; obtain ⟨ob, hob, h⟩ := h
   split at h
   ·exact ⟨_, id, H, nat_id, by simpa using h, fun E2 h1 h2 K' k => fin E2 h1 h2 K' ((lkK_iff _ _ _).2 ⟨_, hob, by simpa using k⟩)⟩
   ·exact h.elim
  ·exact ⟨_, id, H, nat_id, by simpa using h, fun E2 h1 h2 K' k => fin E2 h1 h2 K' (by simpa using k)⟩
  ·exact h.elim
 ·rename_i hne
  obtain ⟨sz, xs, h, he⟩ := once_elems h
  have fin2 : ∀ (E2 : List AV), evD E2 s = sv → evD E2 x = xv → ∀ K' : AV → KK, elemsK H xv (fun sz xs => (match Nat.beq sz esz with
     | true => (match (generalizing := false) sv with
      | .raw (.slice none 0 0) => (xs.length * by' ≤ 140737488355328) ∧ zeroK T e fun z => cellsK z fun zc => (match Nat.beq zc.length esz && zc.all scalB with
       | true => alK none H (.arr e esz xs) fun H' l => K' (.own l esz 0 xs.length) E2 H'
       | false => False)
      | .own l sz' lo n => lkK H l fun ob => (match ob with
       | .arr e' sz'' es => (match Nat.beq sz' esz && Nat.beq sz'' esz && Nat.beq lo 0 && Nat.beq e' e with
        | true => (n = es.length ∧ (es ++ xs).length * by' ≤ 140737488355328) ∧ zeroK T e fun z => cellsK z fun zc => (match Nat.beq zc.length esz && zc.all scalB with
         | true => scrubK l E2 fun E' => scrubHK l H fun H => updK H l (.arr e esz (es ++ xs)) fun H' => K' (.own l esz 0 (es ++ xs).length) E' H'
         | false => False)
        | false => False)
       | _ => False)
      | _ => False)
     | false => False)) → appendK none T E2 H t t' s x K' := fun E2 h1 h2 K' k => fin E2 h1 h2 K' (by
   split
   ·exact absurd rfl hne
   ·exact k)
  split at h
  case h_2 => exact h.elim
  rename_i hsz
  split at h
  ·obtain ⟨hl, h⟩ := h
   obtain ⟨z, h, hz⟩ := once_zero h
   rw [cellsK_iff] at h
   split at h
   ·rename_i hc
    unfold alK at h
    simp only at h
    rw [snocK_iff] at h
    refine ⟨_, id, _, nat_id, by simpa using h, fun E2 h1 h2 K' k => fin2 E2 h1 h2 K' (he _ ?_)⟩
    simp only [hsz]
    refine ⟨hl, hz _ ?_⟩
    rw [cellsK_iff]
    simp only [hc]
    unfold alK
    simp only
    rw [snocK_iff]
    simpa using k
   ·exact h.elim
  ·rename_i l sz' lo n
   replace h := (lkK_iff _ _ _).1 h; obtain ⟨ob, hob, h⟩ := h
   split at h
   case h_2 => exact h.elim
   rename_i e' sz'' es
   split at h
   case h_2 => exact h.elim
   rename_i hq
   obtain ⟨hl, h⟩ := h
   obtain ⟨z, h, hz⟩ := once_zero h
   rw [cellsK_iff] at h
   split at h
   ·rename_i hc
    rw [scrubK_iff, scrubHK_iff, updK_iff] at h
    rw [scrubs_map] at h
    refine ⟨_, scrub _, _, nat_scrub _, h, fun E2 h1 h2 K' k => fin2 E2 h1 h2 K' (he _ ?_)⟩
    simp only [hsz]
    refine (lkK_iff _ _ _).2 ⟨_, hob, ?_⟩
    simp only [hq]
    refine ⟨hl, hz _ ?_⟩
    rw [cellsK_iff]
    simp only [hc]
    rw [scrubK_iff, scrubHK_iff, updK_iff, scrubs_map]
    exact k
   ·exact h.elim
  ·exact h.elim
end
end Go.Av
set_option linter.unusedSimpArgs false
set_option linter.unusedVariables false
namespace Go.Av
open Go.RowKit (Below)
section
variable {G : Cx} {C : CellSet} {w w' : World} {mu : Mu} {H : List HO} {E : List AV} {a : Act} {T : List TY} {P : Program} {ops : Array Oper} {n0 i j : Nat} {o oi oj : Oper} {we : List Nat} {K : KK} {X : XX}
theorem updO_comm {d e : Option Tmp} {x y : AV} (h : ∀ t, d = some t → e ≠ some t) : updO (updO E d x) e y = updO (updO E e y) d x := by
 cases d with
 | none => rfl
 | some d =>
  cases e with
  | none => rfl
  | some e =>
   have hne : d ≠ e := fun he => h d rfl (he ▸ rfl)
   simp only [updO]
   exact List.set_comm _ _ hne
theorem setO_comm {s t : Nat} {x y : Option HO} (h : s ≠ t) : setO (setO H s x) t y = setO (setO H t y) s x := by
 cases x <;> cases y <;> simp only [setO]
 exact List.set_comm _ _ h
theorem evD_upd {d : Option Tmp} {x : AV} {y : Operand} (h : ∀ t, d = some t → y ≠ .tmp t) : evD (updO E d x) y = evD E y := by
 cases d with
 | none => rfl
 | some d =>
  cases y with
  | tmp t =>
   have hne : d ≠ t := fun he => h d rfl (he ▸ rfl)
   simp only [updO, evD, List.getD_eq_getElem?_getD]
   rw [List.getElem?_set_ne hne]
  | _ => rfl
theorem agree_upd {d : Option Tmp} {x : AV} (h : ∀ t, d = some t → t ∉ o.looksAt ops) : AgreeG ops.toList E (updO E d x) o := by
 refine ⟨fun y hy => evD_upd fun t ht he => h t ht ?_, fun g want og t hg hog ht => ?_⟩
 ·subst he
  unfold Oper.looksAt
  refine List.mem_append_left _ (List.mem_filterMap.2 ⟨.tmp t, by simpa using hy, rfl⟩)
 ·cases d with
  | none => rfl
  | some d =>
   have hne : d ≠ t := fun he => h d rfl (by
    subst he
    unfold Oper.looksAt
    refine List.mem_append_right _ ?_
    have : ops[g]? = some og := by simpa using hog
    simp [hg, this, ht])
   simp only [updO]
   rw [List.getElem?_set_ne hne]
theorem AgreeG.symm {E' : List AV} (h : AgreeG ops.toList E E' o) : AgreeG ops.toList E' E o :=
 ⟨fun x hx => (h.1 x hx).symm, fun g want og t hg hog ht => (h.2 g want og t hg hog ht).symm⟩
theorem huses_to (hs : Sat P E H) {op : Op} {s : Nat} {x : Option HO} (hd : ∀ y, x = some y → H[s]? = some .dead) : HUses E op H (setO H s x) := by
 intro y _ l ob hr hl
 cases x with
 | none => exact hl
 | some x =>
  by_cases hls : s = l
  ·subst hls
   rw [sat_noref hs (hd x rfl) y] at hr; cases hr
  ·simp only [setO]
   rw [List.getElem?_set_ne hls]; exact hl
theorem huses_from (hs : Sat P E H) {E' : List AV} {op : Op} {s : Nat} {x : Option HO} (he : ∀ y ∈ op.operands, evD E' y = evD E y) (hd : ∀ y, x = some y → H[s]? = some .dead) : HUses E' op (setO H s x) H := by
 intro y hy l ob hr hl
 cases x with
 | none => exact hl
 | some x =>
  by_cases hls : s = l
  ·subst hls
   rw [he y hy, sat_noref hs (hd x rfl) y] at hr; cases hr
  ·simp only [setO] at hl
   rw [List.getElem?_set_ne hls] at hl; exact hl
theorem st_comm (hT : TOk P T) (hs : Sat P E H) (hi : ops[i]? = some oi) (hj : ops[j]? = some oj) (hij : i ≠ j) (hap : oi.apart ops oj = true) {Ki Kj : KK}
  (h : stK P T ops.toList n0 i oi E H Ki) (hk : ∀ E' H', Sat P E' H' → Ki E' H' → stK P T ops.toList n0 j oj E' H' Kj) :
  stK P T ops.toList n0 j oj E H fun E1 H1 => stK P T ops.toList n0 i oi E1 H1 Kj := by
 obtain ⟨p1, p2, p3⟩ := Oper.apart_spec hap
 obtain ⟨vi, obi, di, ki, ti⟩ := once_st h
 have refl : ∀ o : Oper, AgreeG ops.toList E E o := fun o => ⟨fun _ _ => rfl, fun _ _ _ _ _ _ _ => rfl⟩
 have hs' : Sat P (updO E oi.dst vi) (setO H (n0 + i) obi) := st_sat hT hi (ti E H (refl oi) (fun _ _ _ _ _ h => h) rfl _ ⟨rfl, rfl⟩) hs
 have h2 := hk _ _ hs' ki
 obtain ⟨vj, obj, dj, kj, tj⟩ := once_st h2
 have ag := agree_upd (x := vi) (E := E) p1
 have dj' : ∀ x, obj = some x → H[n0 + j]? = some .dead := fun x hx => by
  have := dj x hx
  cases obi with
  | none => exact this
  | some y => simp only [setO] at this; rwa [List.getElem?_set_ne (by omega)] at this
 have sne : ∀ (x : Option HO) (s t : Nat), s ≠ t → (setO H s x)[t]? = H[t]? := fun x s t hst => by
  cases x with
  | none => rfl
  | some y => simp only [setO]; rw [List.getElem?_set_ne hst]
 refine tj E H ag.symm (huses_from hs ag.1 di) (sne _ _ _ (by omega)).symm _ ?_
 refine ti _ _ (agree_upd p3) (huses_to hs dj') (sne _ _ _ (by omega)) _ ?_
 ·rw [updO_comm p2, setO_comm (show n0 + i ≠ n0 + j by omega)] at kj
  exact kj
def wstK (P : Program) (T : List TY) (ops : List Oper) (o : Oper) (E : List AV) (H : List HO) (K : KK) (X : XX) : Prop :=
 gd2 ops E o.guard (opK none P T E H o.op (fun v E' H' => nbK v fun v => updOK E' o.dst v fun E'' => K E'' H') X) (updOK E o.dst (.raw undef) fun E' => K E' H)
def mvB (o : Oper) : Bool := match o.op with | .move (.tmp _) => o.guard.isNone && o.dst.isSome | _ => false
def apB (o : Oper) : Bool := match o.op with
 | .call c => (match c.callee with | .builtin .append => o.guard.isNone && Nat.beq c.args.size 2 && Nat.beq c.argTypes.size 2 | _ => false)
 | _ => false
theorem mv_over (hmi : mvB oi = true) (hmj : apB oj = true) (p1 : ∀ t, oi.dst = some t → t ∉ oj.looksAt ops) (p2 : ∀ t, oi.dst = some t → oj.dst ≠ some t) (p3 : ∀ t, oj.dst = some t → t ∉ oi.looksAt ops) {Kw : KK}
  (h : stK P T ops.toList n0 i oi E H fun E' H' => wstK P T ops.toList oj E' H' Kw X) : wstK P T ops.toList oj E H (fun E1 H1 => stK P T ops.toList n0 i oi E1 H1 Kw) X := by
 obtain ⟨idst, iop, ity, ipos, iaft, igd⟩ := oi
 obtain ⟨jdst, jop, jty, jpos, jaft, jgd⟩ := oj
 unfold mvB at hmi
 unfold apB at hmj
 simp only at hmi hmj
 cases iop <;> first | cases hmi | skip
 rename_i x
 cases x <;> first | cases hmi | skip
 rename_i s
 cases igd <;> simp at hmi
 cases idst <;> simp at hmi
 rename_i d
 cases jop <;> first | cases hmj | skip
 rename_i c
 obtain ⟨cal, args, tys⟩ := c
 simp only at hmj
 cases cal <;> first | cases hmj | skip
 rename_i bi
 cases bi <;> first | cases hmj | skip
 cases jgd <;> simp at hmj
 obtain ⟨ha, ht⟩ := hmj
 obtain ⟨sx, xx, rfl⟩ : ∃ sx xx, args = #[sx, xx] := by
  match args, ha with
  | ⟨[a, b]⟩, _ => exact ⟨a, b, rfl⟩
 obtain ⟨t1, t2, rfl⟩ : ∃ t1 t2, tys = #[t1, t2] := by
  match tys, ht with
  | ⟨[a, b]⟩, _ => exact ⟨a, b, rfl⟩
 have hd := p1 d rfl
 have q1 : sx ≠ .tmp d := fun e => hd (by subst e; simp [Oper.looksAt, Op.operands, Call.operands])
 have q2 : xx ≠ .tmp d := fun e => hd (by subst e; simp [Oper.looksAt, Op.operands, Call.operands])
 have q3 : ∀ t, jdst = some t → t ≠ s := fun t e he => p3 t e (by subst he; simp [Oper.looksAt, Op.operands])
 have q4 : jdst ≠ some d := p2 d rfl
 have ev1 : ∀ {v : AV} {x : Operand}, x ≠ .tmp d → evD (E.set d v) x = evD E x := fun {v x} hx => by
  have := evD_upd (E := E) (d := some d) (x := v) (y := x) (fun t ht he => hx (by cases ht; exact he))
  simpa [updO] using this
 -- the move, at any frame
 have mv : ∀ {E : List AV} {H : List HO} {K : KK}, stK P T ops.toList n0 i { dst := some d, op := .move (.tmp s), type := ity, pos := ipos, after := iaft, guard := none } E H K ↔ nbK (evD E (.tmp s)) fun v => K (E.set d v) H := fun {E H K} => by
  unfold stK gd2 rK pureK
  simp only [evK_iff, setOK, updOK_iff, updO]
 have ap : ∀ {E : List AV} {H : List HO} {K : KK}, wstK P T ops.toList { dst := jdst, op := .call ⟨.builtin .append, #[sx, xx], #[t1, t2]⟩, type := jty, pos := jpos, after := jaft, guard := none } E H K X ↔
   appendK none T E H t1 t2 sx xx (fun v E' H' => nbK v fun v => updOK E' jdst v fun E'' => K E'' H') := fun {E H K} => by
  unfold wstK gd2 opK
  exact Iff.rfl
 rw [mv] at h
 rw [ap]
 obtain ⟨v, hv, hback⟩ : ∃ v, wstK P T ops.toList { dst := jdst, op := .call ⟨.builtin .append, #[sx, xx], #[t1, t2]⟩, type := jty, pos := jpos, after := jaft, guard := none } (E.set d v) H Kw X ∧
   ∀ f, Nat1 f → ∀ K' : AV → Prop, K' (f v) → nbK (f (evD E (.tmp s))) K' := by
  generalize evD E (.tmp s) = z at h ⊢
  by_cases hz : ∃ b, z = .bool b
  ·obtain ⟨b, rfl⟩ := hz
   refine ⟨.lit b, ?_, fun f hf K' k => ?_⟩
   ·unfold nbK at h
    cases b with
    | true => exact h.1 rfl
    | false => exact h.2 rfl
   ·rw [hf.bool]
    rw [hf.lit] at k
    unfold nbK
    exact ⟨fun e => by subst e; exact k, fun e => by subst e; exact k⟩
  ·have nb : ∀ {z : AV} {K : AV → Prop}, (∀ b, z ≠ .bool b) → (nbK z K ↔ K z) := fun {z K} hz => by
    cases z <;> first | exact Iff.rfl | exact absurd rfl (hz _)
   refine ⟨z, ?_, fun f hf K' k => ?_⟩
   ·exact (nb fun b e => hz ⟨b, e⟩).1 h
   ·exact (nb fun b e => hz ⟨b, hf.nbool z b e⟩).2 k
 rw [ap] at hv
 obtain ⟨r, f, H', hf, hk, hto⟩ := once_append hv
 refine hto E (ev1 q1).symm (ev1 q2).symm _ ?_
 obtain ⟨u, hu, hu2, _, _⟩ := once_nb hk
 refine hu2 _ ?_
 rw [updOK_iff] at hu ⊢
 rw [mv]
 have e1 : evD (updO (E.map f) jdst u) (.tmp s) = f (evD E (.tmp s)) := by
  rw [evD_upd fun t ht he => q3 t ht (by cases he; rfl)]
  simp only [evD, List.getD_eq_getElem?_getD, List.getElem?_map]
  cases E[s]? with
  | none => exact hf.any.symm
  | some x => rfl
 rw [e1]
 refine hback f hf _ ?_
 have e2 : (updO (E.map f) jdst u).set d (f v) = updO ((E.set d v).map f) jdst u := by
  rw [List.map_set]
  cases jdst with
  | none => rfl
  | some j =>
   have hne : j ≠ d := fun e => q4 (by rw [e])
   simp only [updO]
   exact List.set_comm _ _ hne
 rw [e2]
 exact hu
def dOp (P : Program) (T : List TY) (ops : Array Oper) (n0 : Nat) (we : List Nat) (K : KK) (X : XX) (j : Nat) (Kn : KK) (E : List AV) (H : List HO) : Prop :=
 match ops[j]? with
 | none => Kn E H
 | some o => match memB we j with
  | false => stK P T ops.toList n0 j o E H Kn
  | true => ∃ Kw : KK, wstK P T ops.toList o E H Kw X ∧ ∀ E H, Kw E H → Kn E H
def anyD (P : Program) (T : List TY) (ops : Array Oper) (n0 : Nat) (we : List Nat) (K : KK) (X : XX) : Nat → Array Bool → List AV → List HO → Prop
 | 0, listed, E, H => Sat P E H → Region.ready .any ops listed = [] ∧ K E H
 | fuel + 1, listed, E, H => Sat P E H → (Region.ready .any ops listed = [] → K E H) ∧
  ∀ i ∈ Region.ready .any ops listed, dOp P T ops n0 we K X i (anyD P T ops n0 we K X fuel (listed.setIfInBounds i true)) E H
theorem nb_sound {r : AV} {d : Option Tmp} {Kn : KK} {E' : List AV} {H' : List HO} {C' : CellSet} {mu' : Mu} (h : nbK r fun v => updOK E' d v fun E'' => Kn E'' H') (hst : StC G C' mu' (updO E' d r) H' a w) :
  ∃ E H, Kn E H ∧ St G E H a w := by
 obtain ⟨v, hk, _, hv, _⟩ := once_nb h
 rw [updOK_iff] at hk
 refine ⟨_, _, hk, C', mu', hst.frame ?_ rfl⟩
 have he := hst.env
 cases hd : d with
 | none => rw [hd] at he; exact he
 | some d =>
  rw [hd] at he
  rw [reps_iff] at he ⊢
  refine ⟨by simpa [updO] using he.1, fun k hk hk' => ?_⟩
  have hk0 : k < (updO E' (some d) r).length := by simpa [updO] using hk
  have := he.2 k hk0 hk'
  by_cases hkd : d = k
  ·subst hkd
   simp only [updO, List.getElem_set_self] at this ⊢
   exact hv _ _ _ _ this
  ·simp only [updO] at this ⊢
   rw [List.getElem_set_ne hkd] at this ⊢
   exact this
theorem dOp_sound (hT : TOk G.P T) {r : Option Nat} {n : Nat} {Kn K : KK} (h : dOp G.P T ops n0 we K X i Kn E H) (hst : StC G C mu E H a w) :
  wpOpIn (fw r) n G.P ops (QOf G K X) i (fun a w => ∃ E' H', Kn E' H' ∧ St G E' H' a w) a w := by
 unfold dOp at h
 by_cases hwr : (∃ o, ops[i]? = some o) ∧ memB we i = true
 ·obtain ⟨⟨o, ho⟩, hm⟩ := hwr
  rw [ho] at h; simp only at h; rw [hm] at h
  obtain ⟨Kw, h, hKw⟩ := h
  unfold wstK at h
  unfold wpOpIn
  rw [ho]; simp only
  rcases gd2_sound hst h with ⟨hw, h⟩ | ⟨hw, h⟩
  ·rw [if_pos hw]
   refine op_sound hT h hst fun a' w' hp => ?_
   obtain ⟨r, E', H', hk, C', mu', hst'⟩ := hp
   obtain ⟨E1, H1, k1, k2⟩ := nb_sound (Kn := fun E H => Kw E H) hk hst'
   exact ⟨E1, H1, hKw _ _ k1, k2⟩
  ·rw [if_neg (by simp [hw])]
   rw [updOK_iff] at h
   exact ⟨fun _ _ => trivial, updO E o.dst (.raw undef), H, hKw _ _ h, C, mu, hst.frame (reps_put hst.env o.dst (by unfold Rep; rfl)) (put_defers _ _ _)⟩
 unfold wpOpIn
 split
 ·rename_i ho; rw [ho] at h; exact ⟨E, H, h, C, mu, hst⟩
 ·rename_i o ho
  rw [ho] at h
  simp only at h
  split at h
  ·rcases st_sound hT ho h hst with ⟨hw, h⟩ | ⟨hw, h⟩
   ·rw [if_pos hw]; exact h
   ·rw [if_neg (by simp [hw])]; exact ⟨fun _ _ => trivial, h⟩
  ·rename_i hm
   exact absurd ⟨⟨o, ho⟩, hm⟩ hwr
theorem anyD_sound (hT : TOk G.P T) {r : Option Nat} {n : Nat} : ∀ (fuel : Nat) (listed : Array Bool) (E : List AV) (H : List HO) (a : Act) (w : World), anyD G.P T ops n0 we K X fuel listed E H → St G E H a w → wpAnyIn (fw r) n G.P .any ops (QOf G K X) fuel listed a w
 | 0, listed, E, H, a, w, h, hst => by
  unfold anyD at h
  obtain ⟨h1, h2⟩ := h ⟨G, a, w, rfl, hst⟩
  exact ⟨h1, E, H, h2, hst⟩
 | fuel + 1, listed, E, H, a, w, h, hst => by
  unfold anyD at h
  obtain ⟨h1, h2⟩ := h ⟨G, a, w, rfl, hst⟩
  refine ⟨fun h0 => ⟨E, H, h1 h0, hst⟩, fun i hi => ?_⟩
  obtain ⟨C, mu, hst⟩ := hst
  exact wpOpIn_mono (fun a' w' ⟨E', H', k1, k2⟩ => anyD_sound hT fuel _ E' H' a' w' k1 k2) (dOp_sound hT (h2 i hi) hst)
theorem anyD_first (hT : TOk P T) (hi : ops[i]? = some oi) (hwi : memB we i = false) {U : Nat → Bool} (hUi : U i = true)
  (hUp : ∀ j oj, U j = true → j ≠ i → ops[j]? = some oj → ∃ e ∈ oj.after, Region.binds .any e = true ∧ U e.on = true) :
  ∀ (fuel : Nat) (listed : Array Bool) (E : List AV) (H : List HO), (∀ j, U j = true → listed.getD j false = false) →
   (∀ j oj, ops[j]? = some oj → U j = false → listed.getD j true = false → (memB we j = false ∨ (mvB oi && apB oj) = true) ∧ oi.apart ops oj = true) →
   i ∈ Region.ready .any ops listed → stK P T ops.toList n0 i oi E H (anyD P T ops n0 we K X fuel (listed.setIfInBounds i true)) → anyD P T ops n0 we K X (fuel + 1) listed E H := by
 intro fuel
 induction fuel with
 | zero =>
  intro listed E H hU hap hr h
  unfold anyD
  intro hs
  refine ⟨fun h0 => (by rw [h0] at hr; cases hr), fun j hj => ?_⟩
  by_cases hji : j = i
  ·subst hji; unfold dOp; rw [hi]; simp only; rw [hwi]; exact h
  ·obtain ⟨hjun, oj, hoj, hall⟩ := mem_ready.1 hj
   have hUj : U j = false := by
    cases hu : U j with
    | false => rfl
    | true =>
     obtain ⟨e, he, hb, hue⟩ := hUp j oj hu hji hoj
     have := hall e he hb
     rw [hU _ hue] at this; cases this
   obtain ⟨hwj, hapj⟩ := hap j oj hoj hUj hjun
   exfalso
   obtain ⟨vi, obi, di, ki, ti⟩ := once_st h
   have hs' : Sat P (updO E oi.dst vi) (setO H (n0 + i) obi) := st_sat hT hi (ti E H ⟨fun _ _ => rfl, fun _ _ _ _ _ _ _ => rfl⟩ (fun _ _ _ _ _ h => h) rfl _ ⟨rfl, rfl⟩) hs
   unfold anyD at ki
   have := ready_mono hj hji
   rw [(ki hs').1] at this; cases this
 | succ fuel ih =>
  intro listed E H hU hap hr h
  unfold anyD
  intro hs
  refine ⟨fun h0 => (by rw [h0] at hr; cases hr), fun j hj => ?_⟩
  by_cases hji : j = i
  ·subst hji; unfold dOp; rw [hi]; simp only; rw [hwi]; exact h
  ·obtain ⟨hjun, oj, hoj, hall⟩ := mem_ready.1 hj
   have hUj : U j = false := by
    cases hu : U j with
    | false => rfl
    | true =>
     obtain ⟨e, he, hb, hue⟩ := hUp j oj hu hji hoj
     have := hall e he hb
     rw [hU _ hue] at this; cases this
   obtain ⟨hwj, hapj⟩ := hap j oj hoj hUj hjun
   have rest : ∀ E1 H1, stK P T ops.toList n0 i oi E1 H1 (anyD P T ops n0 we K X fuel ((listed.setIfInBounds j true).setIfInBounds i true)) → anyD P T ops n0 we K X (fuel + 1) (listed.setIfInBounds j true) E1 H1 := fun E1 H1 k => by
    refine ih (listed.setIfInBounds j true) E1 H1 (fun k hk => ?_) (fun k ok hk hu hun => ?_) (ready_mono hr (Ne.symm hji)) k
    ·have hne : j ≠ k := fun he => by subst he; rw [hUj] at hk; cases hk
     rw [getD_set_ne false hne]; exact hU k hk
    ·refine hap k ok hk hu ?_
     by_cases hjk : j = k
     ·subst hjk; exact hjun
     ·rw [getD_set_ne true hjk] at hun; exact hun
   unfold dOp
   rw [hoj]; simp only
   cases hmw : memB we j with
   | false =>
    simp only
    have hc := st_comm (Kj := anyD P T ops n0 we K X fuel ((listed.setIfInBounds i true).setIfInBounds j true)) hT hs hi hoj (Ne.symm hji) hapj h fun E' H' hs' k => by
     unfold anyD at k
     have := (k hs').2 j (ready_mono hj hji)
     unfold dOp at this
     rw [hoj] at this; simp only at this; rw [hmw] at this; exact this
    refine stK_mono hc fun E1 H1 k => rest E1 H1 ?_
    rw [Array.setIfInBounds_comm _ _ hji]; exact k
   | true =>
    simp only
    have hmv : mvB oi = true ∧ apB oj = true := by
     rcases hwj with k | k
     ·rw [hmw] at k; cases k
     ·simpa using k
    obtain ⟨p1, p2, p3⟩ := Oper.apart_spec hapj
    obtain ⟨vi, obi, di, ki, ti⟩ := once_st h
    have refl : AgreeG ops.toList E E oi := ⟨fun _ _ => rfl, fun _ _ _ _ _ _ _ => rfl⟩
    have hs' : Sat P (updO E oi.dst vi) (setO H (n0 + i) obi) := st_sat hT hi (ti E H refl (fun _ _ _ _ _ h => h) rfl _ ⟨rfl, rfl⟩) hs
    unfold anyD at ki
    have hd := (ki hs').2 j (ready_mono hj hji)
    unfold dOp at hd
    rw [hoj] at hd; simp only at hd; rw [hmw] at hd
    obtain ⟨Kw, hw1, hw2⟩ := hd
    have h3 := ti E H refl (fun _ _ _ _ _ h => h) rfl (fun E' H' => wstK P T ops.toList oj E' H' Kw X) hw1
    refine ⟨_, mv_over hmv.1 hmv.2 p1 p2 p3 h3, fun E1 H1 k => rest E1 H1 (stK_mono k fun E2 H2 k2 => ?_)⟩
    rw [Array.setIfInBounds_comm _ _ hji]
    exact hw2 _ _ k2
def upSet (ops : Array Oper) (k : Nat) : List Nat :=
 (List.range ops.size).foldl (fun U j => match ops[j]? with
  | some oj => (match Nat.beq j k || oj.after.any (fun e => Region.binds .any e && memB U e.on) with | true => j :: U | false => U)
  | none => U) []
def firstB (ops : Array Oper) (we : List Nat) (listed : Array Bool) (k : Nat) (U : List Nat) : Bool :=
 match ops[k]? with
 | none => false
 | some ok => memB U k && (List.range ops.size).all (fun j => (!memB U j || (!listed.getD j false)) && match ops[j]? with
   | none => true
   | some oj => (match memB U j with
    | true => Nat.beq j k || oj.after.any (fun e => Region.binds .any e && memB U e.on)
    | false => listed.getD j true || ((!memB we j || (mvB ok && apB oj)) && ok.apart ops oj))) && U.all fun j => decide (j < ops.size)
def lexD (ops : Array Oper) (we : List Nat) : Nat → Nat → Array Bool → Bool
 | 0, _, listed => (Region.ready .any ops listed).isEmpty
 | fuel + 1, k, listed => (match memB we k with
  | true => (Region.ready .any ops listed == [k])
  | false => (Region.ready .any ops listed).contains k && firstB ops we listed k (upSet ops k)) && lexD ops we fuel (k + 1) (listed.setIfInBounds k true)
def drawB (ops : Array Oper) (we : List Nat) : Bool := lexD ops we ops.size 0 (Array.replicate ops.size false)
theorem memB_mem : ∀ {l : List Nat} {n : Nat}, memB l n = true → n ∈ l
 | [], _, h => by cases h
 | x :: l, n, h => by
  unfold memB at h
  split at h
  ·rename_i hb; rw [Nat.eq_of_beq_eq_true hb]; simp
  ·exact List.mem_cons_of_mem _ (memB_mem h)
theorem anyD_lex (hT : TOk P T) : ∀ (l : List Oper) (k : Nat) (listed : Array Bool) (E : List AV) (H : List HO), (∀ j, l[j]? = ops[k + j]?) →
  lexD ops we l.length k listed = true → rdK P T ops.toList n0 we k l E H K X → anyD P T ops n0 we K X l.length listed E H
 | [], k, listed, E, H, _, hB, h => by
  unfold anyD
  unfold rdK at h
  exact fun _ => ⟨by simpa [lexD] using hB, h⟩
 | o :: l, k, listed, E, H, hl, hB, h => by
  have h0 : ops[k]? = some o := by simpa using (hl 0).symm
  have hl' : ∀ j, l[j]? = ops[k + 1 + j]? := fun j => by have := hl (j + 1); simpa [Nat.add_assoc, Nat.add_comm 1 j] using this
  simp only [List.length_cons, lexD, Bool.and_eq_true] at hB
  obtain ⟨hB1, hB2⟩ := hB
  unfold rdK at h
  cases hw : memB we k with
  | false =>
   rw [hw] at h hB1
   simp only [Bool.and_eq_true] at hB1 h
   obtain ⟨hr, hf⟩ := hB1
   unfold firstB at hf
   rw [h0] at hf
   simp only [Bool.and_eq_true, List.all_eq_true, List.mem_range] at hf
   obtain ⟨⟨hUk, hall⟩, hlt⟩ := hf
   have lt : ∀ j, memB (upSet ops k) j = true → j < ops.size := fun j hj => by simpa using hlt j (memB_mem hj)
   refine anyD_first hT h0 hw (U := memB (upSet ops k)) hUk (fun j oj hu hjk hoj => ?_) l.length listed E H (fun j hu => ?_) (fun j oj hoj hu hun => ?_) (by simpa using hr) (stK_mono h fun E' H' h' => anyD_lex hT l (k + 1) _ E' H' hl' hB2 h')
   ·have := (hall j (lt j hu)).2
    rw [hoj] at this
    simp only [hu] at this
    simp only [Bool.or_eq_true] at this
    rcases this with h1 | h1
    ·exact absurd (Nat.eq_of_beq_eq_true h1) hjk
    ·obtain ⟨e, he, h2⟩ := Array.any_eq_true'.1 h1
     simp only [Bool.and_eq_true] at h2
     exact ⟨e, he, h2⟩
   ·have := (hall j (lt j hu)).1
    simpa [hu] using this
   ·have hjl := (Array.getElem?_eq_some_iff.1 hoj).1
    have := (hall j hjl).2
    rw [hoj] at this
    simp only [hu] at this
    simp only [hun, Bool.or_eq_true, Bool.and_eq_true, Bool.not_eq_true', Bool.false_eq_true, false_or] at this
    simpa using this
  | true =>
   rw [hw] at h hB1
   simp only at h hB1
   have hr : Region.ready .any ops listed = [k] := by simpa using hB1
   unfold anyD
   intro hs
   refine ⟨fun h0 => (by rw [hr] at h0; cases h0), fun j hj => ?_⟩
   rw [hr] at hj
   obtain rfl : j = k := by simpa using hj
   unfold dOp
   rw [h0]; simp only; rw [hw]; simp only
   exact ⟨_, h, fun E1 H1 hh => anyD_lex hT l (j + 1) _ E1 H1 hl' hB2 hh⟩
def padO (im : List Nat) (i : Nat) : HO := match memB im i with | true => .ghost [] [] [] | false => .dead
def pads (im : List Nat) (n : Nat) : List HO := (List.range n).map (padO im)
theorem pads_nil (n : Nat) : pads [] n = List.replicate n .dead := by
 unfold pads padO memB
 rw [List.map_const', List.length_range]
theorem pads_get {im : List Nat} {n l : Nat} {ob : HO} (h : (pads im n)[l]? = some ob) : ob = .dead ∨ ob = .ghost [] [] [] := by
 have := List.mem_of_getElem? h
 unfold pads at this
 obtain ⟨i, _, rfl⟩ := List.mem_map.1 this
 unfold padO
 split <;> simp
theorem StC.pad (h : StC G C mu E H a w) (im : List Nat) (n : Nat) : StC G C mu E (H ++ pads im n) a w := by
 have key : ∀ {l : Nat} {ob : HO}, (H ++ pads im n)[l]? = some ob → (ob = .dead ∨ ob = .ghost [] [] []) ∨ H[l]? = some ob := fun {l ob} hl => by
  by_cases hlt : l < H.length
  ·rw [List.getElem?_append_left hlt] at hl; exact .inr hl
  ·rw [List.getElem?_append_right (by omega)] at hl
   exact .inl (pads_get hl)
 refine ⟨h.c0, h.c1, h.lt, ⟨fun l g hm => ?_, h.heap.fresh, h.heap.sep, fun l hl => ?_, fun l cs hl => ?_, fun l e sz es hl => ?_, fun l ks vs hl => ?_⟩, h.env, ?_, h.keep, by have := h.pin.1; simp; omega, h.pin.2⟩
 rotate_right
 ·obtain ⟨ms, k1, k2⟩ := h.defers
  refine ⟨ms, k1, ⟨fun l cs vs ms' hl => ?_, fun l I hl => ?_, k2.marks, k2.nd, fun l l' cs vs ms1 cs' vs' ms2 hl hl' hne D hD => ?_⟩⟩
  ·rcases key hl with (hl | hl) | hl
   ·cases hl
   ·simp only [HO.ghost.injEq] at hl
    obtain ⟨rfl, rfl, rfl⟩ := hl
    exact ⟨by unfold Reps; rfl, List.nodup_nil, fun D hD => by cases hD⟩
   ·exact k2.ghosts l cs vs ms' hl
  ·rcases key hl with (hl | hl) | hl
   ·cases hl
   ·cases hl
   ·obtain ⟨e0, Sw, Sr, f1, f2, f3, f4⟩ := k2.invs l I hl
    refine ⟨e0, Sw, Sr, f1, f2, f3, fun l' cs vs ms' hl' D hD => ?_⟩
    rcases key hl' with (hl' | hl') | hl'
    ·cases hl'
    ·simp only [HO.ghost.injEq] at hl'
     rw [hl'.2.2] at hD; cases hD
    ·exact f4 l' cs vs ms' hl' D hD
  ·rcases key hl with (hl | hl) | hl
   ·cases hl
   ·simp only [HO.ghost.injEq] at hl
    rw [hl.2.2] at hD; cases hD
   ·rcases key hl' with (hl' | hl') | hl'
    ·cases hl'
    ·simp only [HO.ghost.injEq] at hl'
     rw [hl'.2.2]; simp
    ·exact k2.sep l l' cs vs ms1 cs' vs' ms2 hl hl' hne D hD
 ·have := h.heap.dom l g hm
  rw [List.length_append]; omega
 ·by_cases hlt : l < H.length
  ·rw [List.getElem?_append_left hlt] at hl; exact h.heap.dead l hl
  ·cases hm : mu l with
   | none => rfl
   | some g => exact absurd (h.heap.dom l g hm) hlt
 ·rcases key hl with (hl | hl) | hl
  ·cases hl
  ·cases hl
  ·exact h.heap.recs l cs hl
 ·rcases key hl with (hl | hl) | hl
  ·cases hl
  ·cases hl
  ·exact h.heap.arrs l e sz es hl
 ·rcases key hl with (hl | hl) | hl
  ·cases hl
  ·cases hl
  ·exact h.heap.maps l ks vs hl
theorem ACode.drawI {id : Nat} (im we : List Nat) (hT : TOk P T) (hm : P.follows .mixedOrders = true) (hB : drawB ops we = true)
  (h : rdK P T ops.toList H.length we 0 ops.toList E (H ++ pads im ops.size) K X) : ACode P (.region id ops true) E H K X := by
 refine ⟨fun n G a w hP hst => ?_⟩
 subst hP
 obtain ⟨C, mu, hst⟩ := hst
 have hst' : StC G C mu E H a w.drew := hst.drew
 have hs2 := hst'.pad im ops.size
 have h1 := anyD_lex (ops := ops) (n0 := H.length) (we := we) (K := K) (X := X) hT ops.toList 0 (Array.replicate ops.size false) E _ (by simp) (by simpa [drawB] using hB) h
 refine wpIn_region_any hm ?_
 have h2 := anyD_sound (r := G.rd) (n := n) hT _ _ _ _ a _ h1 ⟨C, mu, hs2⟩
 simpa using h2
theorem ACode.draw {id : Nat} (we : List Nat) (hT : TOk P T) (hm : P.follows .mixedOrders = true) (hB : drawB ops we = true)
  (h : rdK P T ops.toList H.length we 0 ops.toList E (H ++ List.replicate ops.size .dead) K X) : ACode P (.region id ops true) E H K X :=
 ACode.drawI [] we hT hm hB (by rw [pads_nil]; exact h)
end
end Go.Av
