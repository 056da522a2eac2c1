/-
  What the statements of Printer share: the arguments read as networks; the laid variables, as the framework reads them; a world that meets the condition.
-/
import Derived.Test.YtbedaolpfedacaaGreatDoorWa3
import Derived.Test.YtbedaolpfedacaaGreatDoorRows
import Derived.LaidMore
import Derived.LaidSub
import Derived.LaidLaws
import Derived.MakeChecks
import Derived.OpenShut
import Derived.Stop.Joined
set_option linter.unusedVariables false
set_option maxRecDepth 100000
namespace Go.Proofs.YtbedaolpfedacaaGreatDoor
open Go.Av Go.Av.Net Pl
open Go.ChangeShapes Go.WideShapes Go.ChangeAt Go.RowKit
theorem own : ownKnob Tryz.prog.godebug = none := by kernel_rfl
theorem laidOut : laidOutB Tryz.prog = true := by kernel_rfl
theorem cell_bools {t e : TypeId} {m : Nat} {p : List AV} (hu : Tryz.prog.underlying t = some (.slice e)) (he : Tryz.prog.underlying e = some .bool) (hc : Tryz.prog.cellsOf e = 1) (h : Tyd Tryz.prog (m + 2) t p) : ∃ l : List Bool, p = [.sl 1 (l.map .bool)] := by
 obtain ⟨es, rfl, h1, h2⟩ := cell_slice hu h
 obtain ⟨l, rfl, h3⟩ := list_form (f := AV.bool) (p := fun _ => True) fun y hy => by
  obtain ⟨b, hb⟩ := tyd_bool he (h2 y hy)
  exact ⟨b, hb, trivial⟩
 exact ⟨l, by rw [hc]⟩
theorem cal_cells {m : Nat} {cs : List AV} (h : Tyd Tryz.prog (m + 3) 41 cs) : ∃ c : Cal, .agg cs = calA c := by
 obtain ⟨ps, rfl, g⟩ := tyd_fields (ts := [3, 38, 39]) Tryz.underlying41 (by kernel_rfl) h
 obtain ⟨p0, _, rfl, h0, g⟩ := tydF_cons g
 obtain ⟨p1, _, rfl, h1, g⟩ := tydF_cons g
 obtain ⟨p2, _, rfl, h2, g⟩ := tydF_cons g
 obtain rfl := tydF_nil g
 obtain ⟨n0, rfl, _⟩ := cell_int Tryz.underlying3 h0
 obtain ⟨n1, rfl⟩ := cell_bools Tryz.underlying38 Tryz.underlying4 (by kernel_rfl) h1
 obtain ⟨n2, rfl, _⟩ := cell_ints Tryz.underlying39 Tryz.underlying3 (by kernel_rfl) h2
 exact ⟨⟨n0, n1, n2⟩, rfl⟩
theorem opr_cells {m : Nat} {cs : List AV} (h : Tyd Tryz.prog (m + 3) 60 cs) : ∃ s : Bs, .agg cs = operA s := by
 obtain ⟨ps, rfl, g⟩ := tyd_fields (ts := [9]) Tryz.underlying60 (by kernel_rfl) h
 obtain ⟨p0, _, rfl, h0, g⟩ := tydF_cons g
 obtain rfl := tydF_nil g
 obtain ⟨n0, rfl, l0⟩ := cell_str Tryz.underlying9 h0
 exact ⟨n0, rfl⟩
theorem ofi_cells {m : Nat} {cs : List AV} (h : Tyd Tryz.prog (m + 3) 43 cs) : ∃ o : OffI, .agg cs = offIA o ∧ o.codes.length ≤ 9223372036854775807 := by
 obtain ⟨ps, rfl, g⟩ := tyd_fields (ts := [9, 3, 3, 3, 3, 3, 23]) Tryz.underlying43 (by kernel_rfl) h
 obtain ⟨p0, _, rfl, h0, g⟩ := tydF_cons g
 obtain ⟨p1, _, rfl, h1, g⟩ := tydF_cons g
 obtain ⟨p2, _, rfl, h2, g⟩ := tydF_cons g
 obtain ⟨p3, _, rfl, h3, g⟩ := tydF_cons g
 obtain ⟨p4, _, rfl, h4, g⟩ := tydF_cons g
 obtain ⟨p5, _, rfl, h5, g⟩ := tydF_cons g
 obtain ⟨p6, _, rfl, h6, g⟩ := tydF_cons g
 obtain rfl := tydF_nil g
 obtain ⟨n0, rfl, l0⟩ := cell_str Tryz.underlying9 h0
 obtain ⟨n1, rfl, _⟩ := cell_int Tryz.underlying3 h1
 obtain ⟨n2, rfl, _⟩ := cell_int Tryz.underlying3 h2
 obtain ⟨n3, rfl, _⟩ := cell_int Tryz.underlying3 h3
 obtain ⟨n4, rfl, _⟩ := cell_int Tryz.underlying3 h4
 obtain ⟨n5, rfl, _⟩ := cell_int Tryz.underlying3 h5
 obtain ⟨n6, rfl, l6, _⟩ := cell_strs Tryz.underlying23 Tryz.underlying9 (by kernel_rfl) h6
 exact ⟨⟨n0, n1, n2, n3, n4, n5, n6⟩, rfl, by unfold maxLen at l6; exact l6⟩
theorem lin_cells {m : Nat} {cs : List AV} (h : Tyd Tryz.prog (m + 3) 45 cs) : ∃ o : LinI, .agg cs = linIA o := by
 obtain ⟨ps, rfl, g⟩ := tyd_fields (ts := [9, 3, 3, 3, 3, 3]) Tryz.underlying45 (by kernel_rfl) h
 obtain ⟨p0, _, rfl, h0, g⟩ := tydF_cons g
 obtain ⟨p1, _, rfl, h1, g⟩ := tydF_cons g
 obtain ⟨p2, _, rfl, h2, g⟩ := tydF_cons g
 obtain ⟨p3, _, rfl, h3, g⟩ := tydF_cons g
 obtain ⟨p4, _, rfl, h4, g⟩ := tydF_cons g
 obtain ⟨p5, _, rfl, h5, g⟩ := tydF_cons g
 obtain rfl := tydF_nil g
 obtain ⟨n0, rfl, l0⟩ := cell_str Tryz.underlying9 h0
 obtain ⟨n1, rfl, _⟩ := cell_int Tryz.underlying3 h1
 obtain ⟨n2, rfl, _⟩ := cell_int Tryz.underlying3 h2
 obtain ⟨n3, rfl, _⟩ := cell_int Tryz.underlying3 h3
 obtain ⟨n4, rfl, _⟩ := cell_int Tryz.underlying3 h4
 obtain ⟨n5, rfl, _⟩ := cell_int Tryz.underlying3 h5
 exact ⟨⟨n0, n1, n2, n3, n4, n5⟩, rfl⟩
theorem cls_cells {m : Nat} {cs : List AV} (h : Tyd Tryz.prog (m + 3) 50 cs) : ∃ o : Cls, .agg cs = clsA o := by
 obtain ⟨ps, rfl, g⟩ := tyd_fields (ts := [9, 3, 3]) Tryz.underlying50 (by kernel_rfl) h
 obtain ⟨p0, _, rfl, h0, g⟩ := tydF_cons g
 obtain ⟨p1, _, rfl, h1, g⟩ := tydF_cons g
 obtain ⟨p2, _, rfl, h2, g⟩ := tydF_cons g
 obtain rfl := tydF_nil g
 obtain ⟨n0, rfl, l0⟩ := cell_str Tryz.underlying9 h0
 obtain ⟨n1, rfl, _⟩ := cell_int Tryz.underlying3 h1
 obtain ⟨n2, rfl, _⟩ := cell_int Tryz.underlying3 h2
 exact ⟨⟨n0, n1, n2⟩, rfl⟩
theorem cals_cell {m : Nat} {p : List AV} (h : Tyd Tryz.prog (m + 4) 22 p) : ∃ l : List Cal, p = [.sl 3 (l.map calA)]  := by
 obtain ⟨es, rfl, _, h2⟩ := cell_slice Tryz.underlying22 h
 obtain ⟨l, rfl, h3⟩ := list_form (f := calA) (p := fun a => True) fun y hy => by
  have h4 := h2 y hy
  obtain ⟨c, rfl⟩ := h4.2.1 (by kernel_rfl)
  obtain ⟨a, ha⟩ := cal_cells h4.1
  exact ⟨a, ha, trivial⟩
 exact ⟨l, by rw [show Tryz.prog.cellsOf 41 = 3 by kernel_rfl]⟩
theorem oprs_cell {m : Nat} {p : List AV} (h : Tyd Tryz.prog (m + 4) 24 p) : ∃ l : List Bs, p = [.sl 1 (l.map operA)]  := by
 obtain ⟨es, rfl, _, h2⟩ := cell_slice Tryz.underlying24 h
 obtain ⟨l, rfl, h3⟩ := list_form (f := operA) (p := fun a => True) fun y hy => by
  have h4 := h2 y hy
  obtain ⟨c, rfl⟩ := h4.2.1 (by kernel_rfl)
  obtain ⟨a, ha⟩ := opr_cells h4.1
  exact ⟨a, ha, trivial⟩
 exact ⟨l, by rw [show Tryz.prog.cellsOf 60 = 1 by kernel_rfl]⟩
theorem ofis_cell {m : Nat} {p : List AV} (h : Tyd Tryz.prog (m + 4) 25 p) : ∃ l : List OffI, p = [.sl 7 (l.map offIA)] ∧ ∀ a ∈ l, a.codes.length ≤ 9223372036854775807 := by
 obtain ⟨es, rfl, _, h2⟩ := cell_slice Tryz.underlying25 h
 obtain ⟨l, rfl, h3⟩ := list_form (f := offIA) (p := fun a => a.codes.length ≤ 9223372036854775807) fun y hy => by
  have h4 := h2 y hy
  obtain ⟨c, rfl⟩ := h4.2.1 (by kernel_rfl)
  exact ofi_cells h4.1
 exact ⟨l, by rw [show Tryz.prog.cellsOf 43 = 7 by kernel_rfl], h3⟩
theorem lins_cell {m : Nat} {p : List AV} (h : Tyd Tryz.prog (m + 4) 26 p) : ∃ l : List LinI, p = [.sl 6 (l.map linIA)]  := by
 obtain ⟨es, rfl, _, h2⟩ := cell_slice Tryz.underlying26 h
 obtain ⟨l, rfl, h3⟩ := list_form (f := linIA) (p := fun a => True) fun y hy => by
  have h4 := h2 y hy
  obtain ⟨c, rfl⟩ := h4.2.1 (by kernel_rfl)
  obtain ⟨a, ha⟩ := lin_cells h4.1
  exact ⟨a, ha, trivial⟩
 exact ⟨l, by rw [show Tryz.prog.cellsOf 45 = 6 by kernel_rfl]⟩
theorem clss_cell {m : Nat} {p : List AV} (h : Tyd Tryz.prog (m + 4) 27 p) : ∃ l : List Cls, p = [.sl 3 (l.map clsA)]  := by
 obtain ⟨es, rfl, _, h2⟩ := cell_slice Tryz.underlying27 h
 obtain ⟨l, rfl, h3⟩ := list_form (f := clsA) (p := fun a => True) fun y hy => by
  have h4 := h2 y hy
  obtain ⟨c, rfl⟩ := h4.2.1 (by kernel_rfl)
  obtain ⟨a, ha⟩ := cls_cells h4.1
  exact ⟨a, ha, trivial⟩
 exact ⟨l, by rw [show Tryz.prog.cellsOf 50 = 3 by kernel_rfl]⟩
theorem tyd_net {m : Nat} {x : AV} (h : TydV Tryz.prog (m + 5) 29 x) : ∃ n : NwI, x = netI n ∧ ∀ o ∈ n.offs, o.codes.length ≤ 9223372036854775807 := by
 obtain ⟨ps, rfl, g⟩ := tyd_struct (ts := [22, 23, 24, 25, 26, 27]) Tryz.underlying29 (by kernel_rfl) h
 obtain ⟨p0, _, rfl, h0, g⟩ := tydF_cons g
 obtain ⟨p1, _, rfl, h1, g⟩ := tydF_cons g
 obtain ⟨p2, _, rfl, h2, g⟩ := tydF_cons g
 obtain ⟨p3, _, rfl, h3, g⟩ := tydF_cons g
 obtain ⟨p4, _, rfl, h4, g⟩ := tydF_cons g
 obtain ⟨p5, _, rfl, h5, g⟩ := tydF_cons g
 obtain rfl := tydF_nil g
 obtain ⟨c, rfl⟩ := cals_cell h0
 obtain ⟨n, rfl, _⟩ := cell_strs Tryz.underlying23 Tryz.underlying9 (by kernel_rfl) h1
 obtain ⟨o, rfl⟩ := oprs_cell h2
 obtain ⟨f, rfl, hf⟩ := ofis_cell h3
 obtain ⟨l, rfl⟩ := lins_cell h4
 obtain ⟨k, rfl⟩ := clss_cell h5
 exact ⟨⟨c, n, o, f, l, k⟩, rfl, hf⟩
theorem mapM_some {α β : Type} {f : α → Option β} : ∀ {l : List α} {xs : List β}, l.mapM f = some xs → xs.length = l.length ∧ ∀ (i : Nat) (h : i < l.length) (h' : i < xs.length), f l[i] = some xs[i]
 | [], xs, h => by simp at h; subst h; simp
 | a :: l, xs, h => by
  rw [List.mapM_cons] at h
  cases hf : f a with
  | none => rw [hf] at h; simp at h
  | some b =>
   rw [hf] at h
   cases hm : l.mapM f with
   | none => rw [hm] at h; simp at h
   | some ys =>
    rw [hm] at h
    simp at h
    subst h
    obtain ⟨h1, h2⟩ := mapM_some hm
    refine ⟨by simp [h1], fun i hi hi' => ?_⟩
    cases i with
    | zero => exact hf
    | succ i => exact h2 i (by simpa using hi) (by simpa using hi')
theorem str_of_trod {H : Type} {enc : TypeId × Value → H} {P : Program} {W : World} {base : Nat} {sp : Nat → Bool} {fuel : Nat} {e : TypeId} {cs : List Value} {s : List UInt8} {p : List MemPlace} (he : P.underlying e = some .string)
  (h : DataW.trod enc P W base sp false fuel e cs = some (.lit (.string s), p)) : cs = [.string ⟨s.toArray⟩] ∧ s.length ≤ maxLen := by
 cases fuel with
 | zero => simp [DataW.trod] at h
 | succ fuel =>
  match cs with
  | [] => simp [DataW.trod, he] at h
  | _ :: _ :: _ => simp [DataW.trod, he] at h
  | [c] =>
   cases c <;> simp [DataW.trod, he] at h
   rename_i x
   obtain ⟨h1, h2, _⟩ := h
   subst h2
   exact ⟨by simp, by simpa using h1⟩
theorem arr_of_trod {H : Type} {enc : TypeId × Value → H} {P : Program} {W : World} {base : Nat} {sp : Nat → Bool} {fuel : Nat} {t e : TypeId} {n : Nat} {cs : List Value} {ss : List (List UInt8)} {p : List MemPlace} (ht : P.underlying t = some (.array n e)) (he : P.underlying e = some .string) (hce : P.cellsOf e = 1) (hct : P.cellsOf t = n)
  (h : DataW.trod enc P W base sp false fuel t cs = some (.agg (ss.map fun s => .lit (.string s)), p)) : cs = ss.map (fun s => .string ⟨s.toArray⟩) ∧ ∀ s ∈ ss, s.length ≤ maxLen := by
 cases fuel with
 | zero => simp [DataW.trod] at h
 | succ fuel =>
  simp only [DataW.trod, ht, hct, hce] at h
  split at h
  ·rename_i hl
   simp only [Option.map_eq_some_iff, Prod.mk.injEq, DataW.agg.injEq] at h
   obtain ⟨xs, hx, h1, _⟩ := h
   obtain ⟨k1, k2⟩ := mapM_some hx
   simp only [List.length_range] at k1
   have hlen : xs.length = ss.length := by have := congrArg List.length h1; simpa using this
   have key : ∀ (i : Nat) (h : i < cs.length) (h' : i < ss.length), cs[i] = .string ⟨(ss[i]).toArray⟩ ∧ ss[i].length ≤ maxLen := by
    intro i hi hi'
    have hix : i < xs.length := by omega
    have q := k2 i (by simp; omega) hix
    simp only [List.getElem_range, Nat.mul_one] at q
    have q1 : (xs[i]).1 = .lit (.string ss[i]) := by
     have e1 : (xs.map (·.1))[i]'(by simp; omega) = (ss.map fun s => DataW.lit (.string s))[i]'(by simp; omega) := by simp only [h1]
     simpa using e1
    have q2 : DataW.trod enc P W base sp false fuel e ((cs.drop i).take 1) = some (.lit (.string ss[i]), (xs[i]).2) := by rw [q, ← q1]
    obtain ⟨r1, r2⟩ := str_of_trod he q2
    refine ⟨?_, r2⟩
    have r3 : [cs[i]] = [Value.string ⟨(ss[i]).toArray⟩] := by rw [← r1, List.drop_eq_getElem_cons hi]; rfl
    simpa using r3
   refine ⟨List.ext_getElem (by simp; omega) fun i hi hi' => ?_, fun s hs => ?_⟩
   ·rw [List.getElem_map]; exact (key i hi (by simpa using hi')).1
   ·obtain ⟨i, hi, rfl⟩ := List.mem_iff_getElem.1 hs
    exact (key i (by omega) hi).2
  ·cases h
theorem laid_at {P : Program} {w : World} {n : String} {d : DataW Unit} : ∀ {l : List (String × DataW Unit)} {ps : List MemPlace}, DataW.LaidVars P w l ps → (n, d) ∈ l →
  ∃ g t cs fuel p, P.globalNamed n = some g ∧ (P.globals[g]?).map (·.type) = some t ∧ w.var? P n = some cs ∧ DataW.trod (fun _ => ()) P w 0 (fun _ => true) false fuel t cs.toList = some (d, p)
 | [], ps, _, hm => by simp at hm
 | (n0, d0) :: r, ps, h, hm => by
  obtain ⟨g, t, cs, fuel, p, q, h1, h2, h3, h4, h5, _⟩ := h
  rcases List.mem_cons.1 hm with e | hm
  ·cases e
   exact ⟨g, t, cs, fuel, p, h1, h2, h3, h4⟩
  ·exact laid_at h5 hm
theorem int_of_trod {H : Type} {enc : TypeId × Value → H} {P : Program} {W : World} {base : Nat} {sp : Nat → Bool} {fuel : Nat} {e : TypeId} {cs : List Value} {k : IntKind} {n : Int} {p : List MemPlace} (he : P.underlying e = some (.int k))
  (h : DataW.trod enc P W base sp false fuel e cs = some (.lit (.int k n), p)) : cs = [.int k n] ∧ inK k n := by
 cases fuel with
 | zero => simp [DataW.trod] at h
 | succ fuel =>
  match cs with
  | [] => simp [DataW.trod, he] at h
  | _ :: _ :: _ => simp [DataW.trod, he] at h
  | [c] =>
   cases c <;> simp [DataW.trod, he] at h
   rename_i k' n'
   obtain ⟨⟨rfl, h1⟩, rfl, _⟩ := h
   refine ⟨rfl, ?_⟩
   unfold inK
   simpa [Lit.wf] using h1
theorem ints_of_trod {H : Type} {enc : TypeId × Value → H} {P : Program} {W : World} {base : Nat} {sp : Nat → Bool} {fuel : Nat} {t e : TypeId} {n : Nat} {cs : List Value} {k : IntKind} {ss : List Int} {p : List MemPlace} (ht : P.underlying t = some (.array n e)) (he : P.underlying e = some (.int k)) (hce : P.cellsOf e = 1) (hct : P.cellsOf t = n)
  (h : DataW.trod enc P W base sp false fuel t cs = some (.agg (ss.map fun s => .lit (.int k s)), p)) : cs = ss.map (fun s => .int k s) ∧ ∀ s ∈ ss, inK k s := by
 cases fuel with
 | zero => simp [DataW.trod] at h
 | succ fuel =>
  simp only [DataW.trod, ht, hct, hce] at h
  split at h
  ·rename_i hl
   simp only [Option.map_eq_some_iff, Prod.mk.injEq, DataW.agg.injEq] at h
   obtain ⟨xs, hx, h1, _⟩ := h
   obtain ⟨k1, k2⟩ := mapM_some hx
   simp only [List.length_range] at k1
   have hlen : xs.length = ss.length := by have := congrArg List.length h1; simpa using this
   have key : ∀ (i : Nat) (h : i < cs.length) (h' : i < ss.length), cs[i] = .int k ss[i] ∧ inK k ss[i] := by
    intro i hi hi'
    have hix : i < xs.length := by omega
    have q := k2 i (by simp; omega) hix
    simp only [List.getElem_range, Nat.mul_one] at q
    have q1 : (xs[i]).1 = .lit (.int k ss[i]) := by
     have e1 : (xs.map (·.1))[i]'(by simp; omega) = (ss.map fun s => DataW.lit (.int k s))[i]'(by simp; omega) := by simp only [h1]
     simpa using e1
    have q2 : DataW.trod enc P W base sp false fuel e ((cs.drop i).take 1) = some (.lit (.int k ss[i]), (xs[i]).2) := by rw [q, ← q1]
    obtain ⟨r1, r2⟩ := int_of_trod he q2
    refine ⟨?_, r2⟩
    have r3 : [cs[i]] = [Value.int k ss[i]] := by rw [← r1, List.drop_eq_getElem_cons hi]; rfl
    simpa using r3
   refine ⟨List.ext_getElem (by simp; omega) fun i hi hi' => ?_, fun s hs => ?_⟩
   ·rw [List.getElem_map]; exact (key i hi (by simpa using hi')).1
   ·obtain ⟨i, hi, rfl⟩ := List.mem_iff_getElem.1 hs
    exact (key i (by omega) hi).2
  ·cases h
theorem iface_of_trod {H : Type} {enc : TypeId × Value → H} {P : Program} {W : World} {base : Nat} {sp : Nat → Bool} {fuel : Nat} {t : TypeId} {ms : Array (String × TypeId)} {cs : List Value} {name : String} {d : DataW H} {p : List MemPlace} (ht : P.underlying t = some (.interface ms))
  (h : DataW.trod enc P W base sp false fuel t cs = some (.iface name d, p)) : ∃ u v, cs = [.iface u v] ∧ P.typeName? 3 u = some name := by
 cases fuel with
 | zero => simp [DataW.trod] at h
 | succ fuel =>
  match cs with
  | [] => simp [DataW.trod, ht] at h
  | _ :: _ :: _ => simp [DataW.trod, ht] at h
  | [c] =>
   cases c <;> simp [DataW.trod, ht] at h
   rename_i u v
   refine ⟨u, v, rfl, ?_⟩
   split at h
   ·rename_i h0; cases h0
   ·rename_i nm h0 h1
    simp only [Option.map_eq_some_iff, Prod.mk.injEq, DataW.iface.injEq] at h
    obtain ⟨_, _, ⟨rfl, _⟩, _⟩ := h
    exact h1
   ·cases h
theorem var_block {P : Program} {w : World} {n : String} {g : Nat} {cs : Array Value} (hg : P.globalNamed n = some g) (h : w.var? P n = some cs) : ∃ e fz, w.heap[g]? = some (.cells cs e fz) := by
 unfold World.var? at h
 rw [hg] at h
 simp only [Option.bind_some] at h
 split at h
 ·rename_i cs' a b hb
  cases h
  exact ⟨_, _, hb⟩
 ·cases h
theorem star : "*" ++ "errors.errorString" = "*errors.errorString" := by decide
theorem row140 (u : TypeId) (h : Tryz.prog.typeName? 3 u = some "*errors.errorString") : u = 167 :=
 typeName_ptr_named (nm := "errors.errorString") (by rw [star]; kernel_rfl) (by kernel_rfl) (by decide) u (by rw [star]; exact h)
def GlIs (w : World) (x : Nat × List AV) : Prop := Cells (wideC w) w x.2 x.1 0 ∧ ∃ cur e fz, w.heap[x.1]? = some (.cells cur e fz) ∧ cur.size = x.2.length
theorem gl_err {w : World} {n : String} {g t : Nat} {d : DataW Unit} {l : List (String × DataW Unit)} {ps : List MemPlace} (h : DataW.LaidVars Tryz.prog w l ps) (hm : (n, DataW.iface "*errors.errorString" d) ∈ l)
  (hg : Tryz.prog.globalNamed n = some g) (hty : (Tryz.prog.globals[g]?).map (·.type) = some t) (ht : (match Tryz.prog.underlying t with | some (.interface _) => true | _ => false) = true) : GlIs w (g, [.iface 167 .any]) := by
 obtain ⟨g', t', cs, fuel, p, h1, h2, h3, h4⟩ := laid_at h hm
 rw [hg] at h1; cases h1
 rw [hty] at h2; cases h2
 obtain ⟨ms, ht⟩ : ∃ ms, Tryz.prog.underlying t = some (.interface ms) := by
  split at ht
  ·rename_i ms e; exact ⟨ms, e⟩
  ·cases ht
 obtain ⟨u, v, hc, hn⟩ := iface_of_trod ht h4
 obtain rfl := row140 u hn
 obtain ⟨e, fz, hb⟩ := var_block hg h3
 have hcs : cs = #[.iface 167 v] := by
  apply Array.ext'; simpa using hc
 subst hcs
 have hlt : g < w.heap.size := (Array.getElem?_eq_some_iff.1 hb).1
 refine ⟨?_, _, e, fz, hb, rfl⟩
 unfold Cells
 refine ⟨⟨.iface 167 v, rfl, ⟨hlt, by simp [World.cell?, hb]⟩, ?_⟩, by unfold Cells; trivial⟩
 unfold Rep
 exact ⟨v, rfl, by unfold Rep; trivial⟩
theorem cells_ints {C : CellSet} {w : World} {g : Nat} {k : IntKind} : ∀ (ss : List Int) (o : Nat), (∀ (i : Nat) (h : i < ss.length), w.cell? ⟨g, o + i, none⟩ = some (.int k ss[i]) ∧ C g (o + i)) → (∀ s ∈ ss, inK k s) → Cells C w (ss.map (AV.int k)) g o
 | [], _, _, _ => by simp [Cells]
 | s :: ss, o, h, hl => by
  simp only [List.map_cons]
  unfold Cells
  obtain ⟨h1, h2⟩ := h 0 (by simp)
  refine ⟨⟨.int k s, rfl, ⟨by simpa using h2, by simpa using h1⟩, ?_⟩, cells_ints ss (o + 1) (fun i hi => ?_) fun x hx => hl x (by simp [hx])⟩
  ·unfold Rep
   exact ⟨rfl, hl s (by simp)⟩
  ·have := h (i + 1) (by simpa using hi)
   rw [show o + 1 + i = o + (i + 1) by omega]
   simpa using this
theorem gl_tab {w : World} {n : String} {g t e : Nat} {k : IntKind} {m : Nat} {ss : List Int} {l : List (String × DataW Unit)} {ps : List MemPlace} (h : DataW.LaidVars Tryz.prog w l ps) (hm : (n, DataW.agg (ss.map fun s => .lit (.int k s))) ∈ l)
  (hg : Tryz.prog.globalNamed n = some g) (hty : (Tryz.prog.globals[g]?).map (·.type) = some t) (ht : Tryz.prog.underlying t = some (.array m e)) (he : Tryz.prog.underlying e = some (.int k)) (hce : Tryz.prog.cellsOf e = 1) (hct : Tryz.prog.cellsOf t = m) : GlIs w (g, ss.map (AV.int k)) := by
 obtain ⟨g', t', cs, fuel, p, h1, h2, h3, h4⟩ := laid_at h hm
 rw [hg] at h1; cases h1
 rw [hty] at h2; cases h2
 obtain ⟨k1, k2⟩ := ints_of_trod ht he hce hct h4
 obtain ⟨e, fz, hb⟩ := var_block hg h3
 have hlt : g < w.heap.size := (Array.getElem?_eq_some_iff.1 hb).1
 refine ⟨cells_ints ss 0 (fun i hi => ⟨?_, hlt⟩) k2, cs, e, fz, hb, ?_⟩
 ·have hc : cs[i]? = some (.int k ss[i]) := by
   rw [← Array.getElem?_toList, k1]; simp [hi]
  rw [Nat.zero_add]
  simp [World.cell?, hb, hc]
 ·have := congrArg List.length k1
  simpa using this
theorem cells_strs {C : CellSet} {w : World} {g : Nat} : ∀ (ss : List (List UInt8)) (o : Nat), (∀ (i : Nat) (h : i < ss.length), w.cell? ⟨g, o + i, none⟩ = some (.string ⟨(ss[i]).toArray⟩) ∧ C g (o + i)) → (∀ s ∈ ss, s.length ≤ maxLen) → Cells C w (ss.map AV.str) g o
 | [], _, _, _ => by simp [Cells]
 | s :: ss, o, h, hl => by
  simp only [List.map_cons]
  unfold Cells
  obtain ⟨h1, h2⟩ := h 0 (by simp)
  refine ⟨⟨.string ⟨s.toArray⟩, rfl, ⟨by simpa using h2, by simpa using h1⟩, ?_⟩, cells_strs ss (o + 1) (fun i hi => ?_) fun x hx => hl x (by simp [hx])⟩
  ·unfold Rep
   have := hl s (by simp)
   unfold maxLen at this
   exact ⟨rfl, by omega⟩
  ·have := h (i + 1) (by simpa using hi)
   rw [show o + 1 + i = o + (i + 1) by omega]
   simpa using this
theorem gl_strs {w : World} {n : String} {g t e : Nat} {k : Nat} {ss : List (List UInt8)} {l : List (String × DataW Unit)} {ps : List MemPlace} (h : DataW.LaidVars Tryz.prog w l ps) (hm : (n, DataW.agg (ss.map fun s => .lit (.string s))) ∈ l)
  (hg : Tryz.prog.globalNamed n = some g) (hty : (Tryz.prog.globals[g]?).map (·.type) = some t) (ht : Tryz.prog.underlying t = some (.array k e)) (he : Tryz.prog.underlying e = some .string) (hce : Tryz.prog.cellsOf e = 1) (hct : Tryz.prog.cellsOf t = k) : GlIs w (g, ss.map AV.str) := by
 obtain ⟨g', t', cs, fuel, p, h1, h2, h3, h4⟩ := laid_at h hm
 rw [hg] at h1; cases h1
 rw [hty] at h2; cases h2
 obtain ⟨k1, k2⟩ := arr_of_trod ht he hce hct h4
 obtain ⟨e, fz, hb⟩ := var_block hg h3
 have hlt : g < w.heap.size := (Array.getElem?_eq_some_iff.1 hb).1
 refine ⟨cells_strs ss 0 (fun i hi => ⟨?_, hlt⟩) k2, cs, e, fz, hb, ?_⟩
 ·have hc : cs[i]? = some (.string ⟨(ss[i]).toArray⟩) := by
   rw [← Array.getElem?_toList, k1]; simp [hi]
  rw [Nat.zero_add]
  simp [World.cell?, hb, hc]
 ·have := congrArg List.length k1
  simpa using this
def gl0 : List (List UInt8) := [[45, 62], [123], [125], [40], [41], [91], [93], [44], [59], [58], [61], [46], [45]]
def gl1 : List (List UInt8) := [[99, 97, 108, 101, 110, 100, 97, 114], [111, 112, 101, 114, 97, 116, 111, 114], [111, 102, 102, 105, 99, 101], [108, 105, 110, 101], [99, 108, 97, 115, 115], [122, 111, 110, 101], [119, 101, 101, 107], [104, 111, 108, 105, 100, 97, 121], [112, 111, 99, 107, 101, 116, 115], [112, 97, 115, 115, 101, 115], [109, 105, 110, 117, 116, 101, 115], [99, 111, 100, 101, 115], [97, 116], [116, 114, 97, 118, 101, 108], [108, 111, 97, 100], [99, 117, 116], [100, 101, 108, 105, 118, 101, 114]]
theorem gl_all {w : World} {l : List (String × DataW Unit)} (h : laidMetH Tryz.prog l w) (hp : (l.all fun x => x.2.handleName?.isNone) = true) (m0 : ("strconv.ErrRange", Rows.laid_strconv_ErrRange) ∈ l) (m1 : ("strconv.ErrSyntax", Rows.laid_strconv_ErrSyntax) ∈ l) (m2 : ("internal/strconv.uint64pow10", Rows.laid_internal_strconv_uint64pow10) ∈ l)
  (m3 : ("postilion/lexer.symbols", Rows.laid_postilion_lexer_symbols) ∈ l) (m4 : ("postilion/network.keyWords", Rows.laid_postilion_network_keyWords) ∈ l) (m5 : ("postilion/printer.keyWords", Rows.laid_postilion_printer_keyWords) ∈ l) :
  ∀ x ∈ glTab, GlIs w x := by
 rw [Go.MakeChecks.laidMetH_plain _ _ _ hp] at h
 obtain ⟨ps, hv, _⟩ := h
 intro x hx
 unfold glTab at hx
 simp only [List.mem_cons, List.not_mem_nil, or_false] at hx
 rcases hx with rfl | rfl | rfl | rfl | rfl | rfl
 ·exact gl_strs (n := "postilion/printer.keyWords") (t := 98) (e := 9) (k := 17) (ss := gl1) hv m5 (by kernel_rfl) (by kernel_rfl) (by kernel_rfl) Tryz.underlying9 (by kernel_rfl) (by kernel_rfl)
 ·exact gl_strs (n := "postilion/lexer.symbols") (t := 130) (e := 9) (k := 13) (ss := gl0) hv m3 (by kernel_rfl) (by kernel_rfl) (by kernel_rfl) Tryz.underlying9 (by kernel_rfl) (by kernel_rfl)
 ·exact gl_strs (n := "postilion/network.keyWords") (t := 98) (e := 9) (k := 17) (ss := gl1) hv m4 (by kernel_rfl) (by kernel_rfl) (by kernel_rfl) Tryz.underlying9 (by kernel_rfl) (by kernel_rfl)
 ·exact gl_tab (m := 20) (e := 138) (ss := [1, 10, 100, 1000, 10000, 100000, 1000000, 10000000, 100000000, 1000000000, 10000000000, 100000000000, 1000000000000, 10000000000000, 100000000000000, 1000000000000000, 10000000000000000, 100000000000000000, 1000000000000000000, 10000000000000000000]) hv m2 (by kernel_rfl) rfl (by kernel_rfl) (by kernel_rfl) (by kernel_rfl) (by kernel_rfl)
 ·first | exact gl_err hv m1 (by kernel_rfl) rfl (by kernel_rfl) | exact gl_err hv m0 (by kernel_rfl) rfl (by kernel_rfl)
 ·first | exact gl_err hv m0 (by kernel_rfl) rfl (by kernel_rfl) | exact gl_err hv m1 (by kernel_rfl) rfl (by kernel_rfl)
end Go.Proofs.YtbedaolpfedacaaGreatDoor
