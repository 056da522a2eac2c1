/-
  What the statements of Format share: the arguments read as formats, lines and addresses; the laid variables, as the framework reads them; a world that meets the condition.
-/
import Derived.Test.YtbodeejogdckgaaGreatDoorG1
import Derived.Test.YtbodeejogdckgaaGreatDoorRows
import Derived.LaidMore
import Derived.LaidSub
import Derived.LaidLaws
import Derived.MakeChecks
import Derived.OpenShut
import Derived.Stop.Joined
set_option linter.unusedVariables false
set_option maxRecDepth 100000
namespace Go.Proofs.YtbodeejogdckgaaGreatDoor
open Go.Av Pl
open Go.ChangeShapes Go.WideShapes Go.ChangeAt Go.RowKit
theorem own : ownKnob Tryz.prog.godebug = none := by kernel_rfl
theorem laidOut : laidOutB Tryz.prog = true := by kernel_rfl
theorem pt_cells {m : Nat} {cs : List AV} (h : Tyd Tryz.prog (m + 2) 49 cs) : ∃ p : Pt, .agg cs = p.v := by
  obtain ⟨ps, rfl, g⟩ := tyd_fields (ts := [3, 9]) Tryz.underlying49 (by kernel_rfl) h
  obtain ⟨p0, _, rfl, h0, g⟩ := tydF_cons g
  obtain ⟨p1, _, rfl, h1, g⟩ := tydF_cons g
  obtain rfl := tydF_nil g
  obtain ⟨n0, rfl, _⟩ := cell_int Tryz.underlying3 h0
  obtain ⟨s1, rfl, _⟩ := cell_str Tryz.underlying9 h1
  exact ⟨⟨n0, s1⟩, rfl⟩
theorem tyd_pt {m : Nat} {x : AV} (h : TydV Tryz.prog (m + 2) 49 x) : ∃ p : Pt, x = p.v := by
  obtain ⟨c, rfl⟩ := h.2.1 (by kernel_rfl)
  exact pt_cells h.1
theorem tyd_pts {m : Nat} {x : AV} (h : TydV Tryz.prog (m + 3) 47 x) : ∃ l : List Pt, x = ptsA l := by
  obtain ⟨es, rfl, _, h2⟩ := tyd_slice Tryz.underlying47 h
  obtain ⟨l, rfl, _⟩ := list_form (f := Pt.v) (p := fun _ => True) fun y hy => by
    obtain ⟨r, hr⟩ := tyd_pt (m := m) (h2 y hy)
    exact ⟨r, hr, trivial⟩
  exact ⟨l, by rw [show Tryz.prog.cellsOf 49 = 2 by kernel_rfl]; rfl⟩
theorem cell_lines {m : Nat} {p : List AV} (h : Tyd Tryz.prog (m + 4) 22 p) : ∃ l : List (List Pt), p = [.sl 1 (l.map ptsA)] := by
  obtain ⟨es, rfl, _, h2⟩ := cell_slice Tryz.underlying22 h
  obtain ⟨l, rfl, _⟩ := list_form (f := ptsA) (p := fun _ => True) fun y hy => by
    obtain ⟨r, hr⟩ := tyd_pts (m := m) (h2 y hy)
    exact ⟨r, hr, trivial⟩
  exact ⟨l, by rw [show Tryz.prog.cellsOf 47 = 1 by kernel_rfl]⟩
theorem tyd_fm {m : Nat} {x : AV} (h : TydV Tryz.prog (m + 5) 24 x) : ∃ f : Fm, x = f.v := by
  obtain ⟨ps, rfl, g⟩ := tyd_struct (ts := [9, 22]) Tryz.underlying24 (by kernel_rfl) h
  obtain ⟨p0, _, rfl, h0, g⟩ := tydF_cons g
  obtain ⟨p1, _, rfl, h1, g⟩ := tydF_cons g
  obtain rfl := tydF_nil g
  obtain ⟨n0, rfl, _⟩ := cell_str Tryz.underlying9 h0
  obtain ⟨l1, rfl⟩ := cell_lines (m := m) h1
  exact ⟨⟨n0, l1⟩, rfl⟩
/-- An address whose texts memory can hold. -/
def ReachA (a : Ad) : Prop := a.st.length ≤ 140737488351232 ∧ a.to.length ≤ 140737488351232 ∧ a.pe.length ≤ 140737488351232 ∧ a.co.length ≤ 140737488351232
theorem tyd_ad {m : Nat} {x : AV} (h : TydV Tryz.prog (m + 2) 27 x) : ∃ a : Ad, x = a.v ∧ ReachA a := by
  obtain ⟨ps, rfl, g⟩ := tyd_struct (ts := [9, 9, 3, 9, 9]) Tryz.underlying27 (by kernel_rfl) h
  obtain ⟨p0, _, rfl, h0, g⟩ := tydF_cons g
  obtain ⟨p1, _, rfl, h1, g⟩ := tydF_cons g
  obtain ⟨p2, _, rfl, h2, g⟩ := tydF_cons g
  obtain ⟨p3, _, rfl, h3, g⟩ := tydF_cons g
  obtain ⟨p4, _, rfl, h4, g⟩ := tydF_cons g
  obtain rfl := tydF_nil g
  obtain ⟨s0, rfl, l0⟩ := cell_str Tryz.underlying9 h0
  obtain ⟨s1, rfl, l1⟩ := cell_str Tryz.underlying9 h1
  obtain ⟨n2, rfl, _⟩ := cell_int Tryz.underlying3 h2
  obtain ⟨s3, rfl, l3⟩ := cell_str Tryz.underlying9 h3
  obtain ⟨s4, rfl, l4⟩ := cell_str Tryz.underlying9 h4
  exact ⟨⟨s0, s1, n2, s3, s4⟩, rfl, l1, l4, l0, l3⟩
theorem mapM_some {α β : Type} {f : α → Option β} : ∀ {l : List α} {xs : List β}, l.mapM f = some xs → xs.length = l.length ∧ ∀ (i : Nat) (h : i < l.length) (h' : i < xs.length), f l[i] = some xs[i]
  | [], xs, h => by simp at h; subst h; simp
  | a :: l, xs, h => by
    rw [List.mapM_cons] at h
    cases hf : f a with
    | none => rw [hf] at h; simp at h
    | some b =>
      rw [hf] at h
      cases hm : l.mapM f with
      | none => rw [hm] at h; simp at h
      | some ys =>
        rw [hm] at h
        simp at h
        subst h
        obtain ⟨h1, h2⟩ := mapM_some hm
        refine ⟨by simp [h1], fun i hi hi' => ?_⟩
        cases i with
        | zero => exact hf
        | succ i => exact h2 i (by simpa using hi) (by simpa using hi')
theorem laid_at {P : Program} {w : World} {n : String} {d : DataW Unit} : ∀ {l : List (String × DataW Unit)} {ps : List MemPlace}, DataW.LaidVars P w l ps → (n, d) ∈ l →
    ∃ g t cs fuel p, P.globalNamed n = some g ∧ (P.globals[g]?).map (·.type) = some t ∧ w.var? P n = some cs ∧ DataW.trod (fun _ => ()) P w 0 (fun _ => true) false fuel t cs.toList = some (d, p)
  | [], ps, _, hm => by simp at hm
  | (n0, d0) :: r, ps, h, hm => by
    obtain ⟨g, t, cs, fuel, p, q, h1, h2, h3, h4, h5, _⟩ := h
    rcases List.mem_cons.1 hm with e | hm
    · cases e
      exact ⟨g, t, cs, fuel, p, h1, h2, h3, h4⟩
    · exact laid_at h5 hm
theorem int_of_trod {H : Type} {enc : TypeId × Value → H} {P : Program} {W : World} {base : Nat} {sp : Nat → Bool} {fuel : Nat} {e : TypeId} {cs : List Value} {k : IntKind} {n : Int} {p : List MemPlace} (he : P.underlying e = some (.int k))
    (h : DataW.trod enc P W base sp false fuel e cs = some (.lit (.int k n), p)) : cs = [.int k n] ∧ inK k n := by
  cases fuel with
  | zero => simp [DataW.trod] at h
  | succ fuel =>
    match cs with
    | [] => simp [DataW.trod, he] at h
    | _ :: _ :: _ => simp [DataW.trod, he] at h
    | [c] =>
      cases c <;> simp [DataW.trod, he] at h
      rename_i k' n'
      obtain ⟨⟨rfl, h1⟩, rfl, _⟩ := h
      refine ⟨rfl, ?_⟩
      unfold inK
      simpa [Lit.wf] using h1
theorem ints_of_trod {H : Type} {enc : TypeId × Value → H} {P : Program} {W : World} {base : Nat} {sp : Nat → Bool} {fuel : Nat} {t e : TypeId} {n : Nat} {cs : List Value} {k : IntKind} {ss : List Int} {p : List MemPlace} (ht : P.underlying t = some (.array n e)) (he : P.underlying e = some (.int k)) (hce : P.cellsOf e = 1) (hct : P.cellsOf t = n)
    (h : DataW.trod enc P W base sp false fuel t cs = some (.agg (ss.map fun s => .lit (.int k s)), p)) : cs = ss.map (fun s => .int k s) ∧ ∀ s ∈ ss, inK k s := by
  cases fuel with
  | zero => simp [DataW.trod] at h
  | succ fuel =>
    simp only [DataW.trod, ht, hct, hce] at h
    split at h
    · rename_i hl
      simp only [Option.map_eq_some_iff, Prod.mk.injEq, DataW.agg.injEq] at h
      obtain ⟨xs, hx, h1, _⟩ := h
      obtain ⟨k1, k2⟩ := mapM_some hx
      simp only [List.length_range] at k1
      have hlen : xs.length = ss.length := by have := congrArg List.length h1; simpa using this
      have key : ∀ (i : Nat) (h : i < cs.length) (h' : i < ss.length), cs[i] = .int k ss[i] ∧ inK k ss[i] := by
        intro i hi hi'
        have hix : i < xs.length := by omega
        have q := k2 i (by simp; omega) hix
        simp only [List.getElem_range, Nat.mul_one] at q
        have q1 : (xs[i]).1 = .lit (.int k ss[i]) := by
          have e1 : (xs.map (·.1))[i]'(by simp; omega) = (ss.map fun s => DataW.lit (.int k s))[i]'(by simp; omega) := by simp only [h1]
          simpa using e1
        have q2 : DataW.trod enc P W base sp false fuel e ((cs.drop i).take 1) = some (.lit (.int k ss[i]), (xs[i]).2) := by rw [q, ← q1]
        obtain ⟨r1, r2⟩ := int_of_trod he q2
        refine ⟨?_, r2⟩
        have r3 : [cs[i]] = [Value.int k ss[i]] := by rw [← r1, List.drop_eq_getElem_cons hi]; rfl
        simpa using r3
      refine ⟨List.ext_getElem (by simp; omega) fun i hi hi' => ?_, fun s hs => ?_⟩
      · rw [List.getElem_map]; exact (key i hi (by simpa using hi')).1
      · obtain ⟨i, hi, rfl⟩ := List.mem_iff_getElem.1 hs
        exact (key i (by omega) hi).2
    · cases h
theorem iface_of_trod {H : Type} {enc : TypeId × Value → H} {P : Program} {W : World} {base : Nat} {sp : Nat → Bool} {fuel : Nat} {t : TypeId} {ms : Array (String × TypeId)} {cs : List Value} {name : String} {d : DataW H} {p : List MemPlace} (ht : P.underlying t = some (.interface ms))
    (h : DataW.trod enc P W base sp false fuel t cs = some (.iface name d, p)) : ∃ u v, cs = [.iface u v] ∧ P.typeName? 3 u = some name := by
  cases fuel with
  | zero => simp [DataW.trod] at h
  | succ fuel =>
    match cs with
    | [] => simp [DataW.trod, ht] at h
    | _ :: _ :: _ => simp [DataW.trod, ht] at h
    | [c] =>
      cases c <;> simp [DataW.trod, ht] at h
      rename_i u v
      refine ⟨u, v, rfl, ?_⟩
      split at h
      · rename_i h0; cases h0
      · rename_i nm h0 h1
        simp only [Option.map_eq_some_iff, Prod.mk.injEq, DataW.iface.injEq] at h
        obtain ⟨_, _, ⟨rfl, _⟩, _⟩ := h
        exact h1
      · cases h
/-- A laid variable's block. -/
theorem var_block {P : Program} {w : World} {n : String} {g : Nat} {cs : Array Value} (hg : P.globalNamed n = some g) (h : w.var? P n = some cs) : ∃ e fz, w.heap[g]? = some (.cells cs e fz) := by
  unfold World.var? at h
  rw [hg] at h
  simp only [Option.bind_some] at h
  split at h
  · rename_i cs' a b hb
    cases h
    exact ⟨_, _, hb⟩
  · cases h
theorem star : "*" ++ "errors.errorString" = "*errors.errorString" := by decide
theorem row140 (u : TypeId) (h : Tryz.prog.typeName? 3 u = some "*errors.errorString") : u = 168 :=
  typeName_ptr_named (nm := "errors.errorString") (by rw [star]; kernel_rfl) (by kernel_rfl) (by decide) u (by rw [star]; exact h)
def GlIs (w : World) (x : Nat × List AV) : Prop := Cells (wideC w) w x.2 x.1 0 ∧ ∃ cur e fz, w.heap[x.1]? = some (.cells cur e fz) ∧ cur.size = x.2.length
theorem gl_err {w : World} {n : String} {g t : Nat} {d : DataW Unit} {l : List (String × DataW Unit)} {ps : List MemPlace} (h : DataW.LaidVars Tryz.prog w l ps) (hm : (n, DataW.iface "*errors.errorString" d) ∈ l)
    (hg : Tryz.prog.globalNamed n = some g) (hty : (Tryz.prog.globals[g]?).map (·.type) = some t) (ht : (match Tryz.prog.underlying t with | some (.interface _) => true | _ => false) = true) : GlIs w (g, [.iface 168 .any]) := by
  obtain ⟨g', t', cs, fuel, p, h1, h2, h3, h4⟩ := laid_at h hm
  rw [hg] at h1; cases h1
  rw [hty] at h2; cases h2
  obtain ⟨ms, ht⟩ : ∃ ms, Tryz.prog.underlying t = some (.interface ms) := by
    split at ht
    · rename_i ms e; exact ⟨ms, e⟩
    · cases ht
  obtain ⟨u, v, hc, hn⟩ := iface_of_trod ht h4
  obtain rfl := row140 u hn
  obtain ⟨e, fz, hb⟩ := var_block hg h3
  have hcs : cs = #[.iface 168 v] := by
    apply Array.ext'; simpa using hc
  subst hcs
  have hlt : g < w.heap.size := (Array.getElem?_eq_some_iff.1 hb).1
  refine ⟨?_, _, e, fz, hb, rfl⟩
  unfold Cells
  refine ⟨⟨.iface 168 v, rfl, ⟨hlt, by simp [World.cell?, hb]⟩, ?_⟩, by unfold Cells; trivial⟩
  unfold Rep
  exact ⟨v, rfl, by unfold Rep; trivial⟩
theorem cells_ints {C : CellSet} {w : World} {g : Nat} {k : IntKind} : ∀ (ss : List Int) (o : Nat), (∀ (i : Nat) (h : i < ss.length), w.cell? ⟨g, o + i, none⟩ = some (.int k ss[i]) ∧ C g (o + i)) → (∀ s ∈ ss, inK k s) → Cells C w (ss.map (AV.int k)) g o
  | [], _, _, _ => by simp [Cells]
  | s :: ss, o, h, hl => by
    simp only [List.map_cons]
    unfold Cells
    obtain ⟨h1, h2⟩ := h 0 (by simp)
    refine ⟨⟨.int k s, rfl, ⟨by simpa using h2, by simpa using h1⟩, ?_⟩, cells_ints ss (o + 1) (fun i hi => ?_) fun x hx => hl x (by simp [hx])⟩
    · unfold Rep
      exact ⟨rfl, hl s (by simp)⟩
    · have := h (i + 1) (by simpa using hi)
      rw [show o + 1 + i = o + (i + 1) by omega]
      simpa using this
theorem gl_tab {w : World} {n : String} {g t e : Nat} {k : IntKind} {m : Nat} {ss : List Int} {l : List (String × DataW Unit)} {ps : List MemPlace} (h : DataW.LaidVars Tryz.prog w l ps) (hm : (n, DataW.agg (ss.map fun s => .lit (.int k s))) ∈ l)
    (hg : Tryz.prog.globalNamed n = some g) (hty : (Tryz.prog.globals[g]?).map (·.type) = some t) (ht : Tryz.prog.underlying t = some (.array m e)) (he : Tryz.prog.underlying e = some (.int k)) (hce : Tryz.prog.cellsOf e = 1) (hct : Tryz.prog.cellsOf t = m) : GlIs w (g, ss.map (AV.int k)) := by
  obtain ⟨g', t', cs, fuel, p, h1, h2, h3, h4⟩ := laid_at h hm
  rw [hg] at h1; cases h1
  rw [hty] at h2; cases h2
  obtain ⟨k1, k2⟩ := ints_of_trod ht he hce hct h4
  obtain ⟨e, fz, hb⟩ := var_block hg h3
  have hlt : g < w.heap.size := (Array.getElem?_eq_some_iff.1 hb).1
  refine ⟨cells_ints ss 0 (fun i hi => ⟨?_, hlt⟩) k2, cs, e, fz, hb, ?_⟩
  · have hc : cs[i]? = some (.int k ss[i]) := by
      rw [← Array.getElem?_toList, k1]; simp [hi]
    rw [Nat.zero_add]
    simp [World.cell?, hb, hc]
  · have := congrArg List.length k1
    simpa using this
theorem gl_all {w : World} {l : List (String × DataW Unit)} (h : laidMetH Tryz.prog l w) (hp : (l.all fun x => x.2.handleName?.isNone) = true) (m0 : ("strconv.ErrRange", Rows.laid_strconv_ErrRange) ∈ l) (m1 : ("strconv.ErrSyntax", Rows.laid_strconv_ErrSyntax) ∈ l) (m2 : ("internal/strconv.uint64pow10", Rows.laid_internal_strconv_uint64pow10) ∈ l) :
    ∀ x ∈ glTab, GlIs w x := by
  rw [Go.MakeChecks.laidMetH_plain _ _ _ hp] at h
  obtain ⟨ps, hv, _⟩ := h
  intro x hx
  unfold glTab at hx
  simp only [List.mem_cons, List.not_mem_nil, or_false] at hx
  rcases hx with rfl | rfl | rfl
  · exact gl_err hv m1 (by kernel_rfl) rfl (by kernel_rfl)
  · exact gl_err hv m0 (by kernel_rfl) rfl (by kernel_rfl)
  · exact gl_tab (m := 20) (e := 136) (ss := [1, 10, 100, 1000, 10000, 100000, 1000000, 10000000, 100000000, 1000000000, 10000000000, 100000000000, 1000000000000, 10000000000000, 100000000000000, 1000000000000000, 10000000000000000, 100000000000000000, 1000000000000000000, 10000000000000000000]) hv m2 (by kernel_rfl) rfl (by kernel_rfl) (by kernel_rfl) (by kernel_rfl) (by kernel_rfl)
end Go.Proofs.YtbodeejogdckgaaGreatDoor
