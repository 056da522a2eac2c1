/-
  AV: a text turned into bytes that are an array of the call's own.
-/
import Derived.Test.YtkmhjamdgncpoaaDoorAv61
set_option linter.unusedSimpArgs false
set_option linter.unusedVariables false
set_option linter.unusedSectionVars false
namespace Go.Av
section
variable {G : Cx} {C : CellSet} {w : World} {mu : Mu} {H : List HO} {E : List AV} {a : Act} {P : Program} {T : List TY} {K : KK} {X : XX}
theorem alloc_freeze (w : World) (cur : Array Value) (e : TypeId) : (w.alloc (.cells cur e)).freeze ⟨w.heap.size, cur.size, none⟩ 1 = w.alloc (.cells cur e (cur.size, cur.size + 1)) := by
  have h1 : ∀ o : Obj, (w.alloc o).heap = w.heap.push o := fun o => rfl
  unfold World.freeze
  simp only [Nat.one_ne_zero, if_false]
  have h2 : (w.alloc (.cells cur e)).heap.modify w.heap.size (fun
      | .cells c elem (lo, hi) => .cells c elem (if lo == hi then (cur.size, cur.size + 1) else (min lo cur.size, max hi (cur.size + 1)))
      | o => o) = w.heap.push (.cells cur e (cur.size, cur.size + 1)) := by
    rw [h1]
    apply Array.ext_getElem?
    intro i
    rw [Array.getElem?_modify]
    by_cases hi : w.heap.size = i
    · subst hi
      simp
    · rw [if_neg hi, Array.getElem?_push, Array.getElem?_push]
      simp [Ne.symm hi]
  exact congrArg (fun h => { w.alloc (.cells cur e) with heap := h }) h2
/-- What a text turned into bytes is, as an array of the call's own. -/
def obK (T : List TY) (E : List AV) (H : List HO) (s d : TypeId) (x : Operand) (K : AV → KK) : Prop :=
  lkK T s fun ys => lkK T d fun yd => evK E x fun v => match ys.k, yd.k with
    | .string, .slice e esz _ _ => (match v with
      | .str l => (match Nat.beq esz 1 with
        | true => lkK T e fun ye => (match ye.k with
          | .int .u8 => K (.own H.length 1 0 l.length) E (H ++ [.arr e 1 (l.map fun b => .int .u8 b.toNat)])
          | _ => False)
        | false => False)
      | _ => False)
    | _, _ => False
theorem ob_ok (hT : TOk G.P T) (h : StC G C mu E H a w) {s d : TypeId} {x : Operand} {K : AV → KK} (hk : obK T E H s d x K) : EffOk G a w K (convert s d (a.eval x)) := by
  unfold obK at hk
  replace hk := (lkK_iff _ _ _).1 hk; obtain ⟨ys, hys, hk⟩ := hk
  replace hk := (lkK_iff _ _ _).1 hk; obtain ⟨yd, hyd, hk⟩ := hk
  rw [evK_iff] at hk
  have hxr := rep_ev h.env x
  split at hk
  case h_2 => exact hk.elim
  rename_i e esz by' ag h1 h2
  have hus := hT.string hys h1
  obtain ⟨hud, hsz, hby, _⟩ := hT.slice hyd h2
  split at hk
  case h_2 => exact hk.elim
  rename_i l hxe
  rw [hxe] at hxr
  obtain ⟨hxv, hll⟩ := rep_str_inv hxr
  split at hk
  case h_2 => exact hk.elim
  rename_i hb
  obtain rfl := Nat.eq_of_beq_eq_true hb
  replace hk := (lkK_iff _ _ _).1 hk; obtain ⟨ye, hye, hk⟩ := hk
  split at hk
  case h_2 => exact hk.elim
  rename_i hke
  have hue := hT.int hye hke
  rw [hxv]
  obtain ⟨w1, cap, hch, hst, hcap, hcm⟩ : ∃ w1 cap, (choose (.appendCap l.length 0 e)).run G.P w = .ok cap w1 ∧ StC G C mu E H a w1 ∧ (l.length ≤ cap ∨ l.length = 0) ∧ cap ≤ 9223372036854775807 := by
    rw [run_choose]
    split
    · rename_i hf
      refine ⟨w, 0, rfl, h, ?_, by omega⟩
      simp [Question.forced] at hf
    · refine ⟨w.drew, _, rfl, h.drew, .inl ?_, ?_⟩
      · exact grownCap_ge w l.length 0 e
      · exact Nat.le_trans (grownCap_le_maxLen w l.length 0 e (by simp only [maxLen]; omega)) (by simp [maxLen])
  have hcap' : l.length ≤ cap := by omega
  obtain ⟨cur, hcd⟩ : ∃ c : Array Value, (l.toArray.map fun b => Value.int .u8 b.toNat) ++ Array.replicate (cap - l.length) (.int .u8 0) = c := ⟨_, rfl⟩
  have hcur : cur.size = cap := by rw [← hcd]; simp; omega
  have hal : (w1.alloc (.cells cur e)).heap[w1.heap.size]? = some (.cells cur e (0, 0)) := heap_alloc_new _ _
  have hshape : (w1.alloc (.cells cur e)).shape? w1.heap.size = some (e, cur.size) := by unfold World.shape?; rw [hal]
  have hcl : cur.toList = (l.map fun b => Value.int .u8 b.toNat) ++ List.replicate (cap - l.length) (.int .u8 0) := by rw [← hcd]; simp
  have hone : ∀ v ∈ cur.toList, v.oneCell' = true := fun v hv => by
    rw [hcl] at hv
    rcases List.mem_append.1 hv with hv | hv
    · obtain ⟨b, _, rfl⟩ := List.mem_map.1 hv
      rfl
    · rw [List.eq_of_mem_replicate hv]
      rfl
  have hreps : ∀ l : List UInt8, Reps C w1 (l.map fun b => AV.int .u8 b.toNat) (blkMu mu) (l.map fun b => Value.int .u8 b.toNat) := fun l => by
    induction l with
    | nil => unfold Reps; rfl
    | cons b l ih =>
      simp only [List.map_cons]
      unfold Reps
      refine ⟨_, _, rfl, ?_, ih⟩
      unfold Rep
      exact ⟨rfl, inKu8.2 ⟨by omega, by have := b.toNat_lt; omega⟩⟩
  have m := hst.alloc (.cells cur e (cur.size, cur.size + 1)) (.arr e 1 (l.map fun b => .int .u8 b.toNat)) (al_snoc H _) (.arr (.slice (some ⟨w1.heap.size, 0, none⟩) l.length cap)) (by simp [GO.block?]) (by simp) (by simp) (fun e' sz' es' hc' => by
    simp only [HO.arr.injEq] at hc'
    obtain ⟨rfl, rfl, rfl⟩ := hc'
    refine ⟨fun y hy => ?_, cap, cur, by simp, ⟨_, rfl, .inr rfl⟩, by simpa using hcap', hcm, by simpa using hcur, ?_, hone⟩
    · obtain ⟨b, _, rfl⟩ := List.mem_map.1 hy
      rfl
    · rw [flat_bytes, hcl]
      simp only [List.length_map, Nat.mul_one]
      rw [List.take_left' (by simp)]
      exact hreps l)
  refine ⟨_, .slice (some ⟨w1.heap.size, 0, none⟩) l.length cap, _, _, _, _, _, hk, ?_, m, ?_⟩
  · simp only [convert, Sem.run_bind, run_underlying hus, run_underlying hud, run_underlying hue, Result.andThen_ok, Conv.stringToBytes, size_of_list, hch]
    simp only [hcd, newRow, markStringish, Sem.run_bind, run_newObj, World.alloc_eq, Sem.run_pure, Result.andThen_ok, run_shape, hshape, run_freeze, alloc_freeze]
  · unfold Rep
    exact ⟨_, Mu.set_same _ _ _, by simp [lenSl], by simp only [lenSl, capSl]; exact ⟨hcap', hcm⟩, by simp [subSl]⟩
/-- The operations of a region, those of 'own' as above. -/
def regO (P : Program) (T : List TY) (ops : List Oper) (own : List Nat) : Nat → List Oper → List AV → List HO → KK → XX → Prop
  | _, [], E, H, K, _ => K E H
  | k, o :: r, E, H, K, X => match memB own k with
    | true => (match o.guard, o.op with
      | none, .convert s d x => obK T E H s d x fun v E' H' => updOK E' o.dst v fun E'' => regO P T ops own (k + 1) r E'' H' K X
      | _, _ => False)
    | false => gdK ops E o.guard
      (fun E => opK none P T E H o.op (fun v E' H' => updOK E' o.dst v fun E'' => regO P T ops own (k + 1) r E'' H' K X) X)
      (fun E => updOK E o.dst (.raw undef) fun E' => regO P T ops own (k + 1) r E' H K X)
theorem regO_sound (hT : TOk G.P T) {r : Option Nat} {n : Nat} {ops : Array Oper} {own : List Nat} : ∀ (l : List Oper) {k : Nat} {C : CellSet} {mu : Mu} {E : List AV} {H : List HO} {a : Act} {w : World}, regO G.P T ops.toList own k l E H K X → StC G C mu E H a w → wpListIn (fw r) n G.P ops (QOf G K X) l a w
  | [], _, _, _, _, _, _, _, h, hst => ⟨_, _, h, _, _, hst⟩
  | o :: l, k, C, mu, E, H, a, w, h, hst => by
    unfold regO at h
    unfold wpListIn
    split at h
    · split at h
      · rename_i s d x hg ho
        rw [if_pos (by simp [Region.wanted, hg])]
        obtain ⟨v, u, E', H', C', mu', w', h1, h2, h3, h4⟩ := ob_ok hT hst h
        have hwp : o.wp G.P a w (fun a' w' => wpListIn (fw r) n G.P ops (QOf G K X) l a' w') (QOf G K X) := by
          refine op_of_value (G := G) (o := o) (X := X) (Q := K) (K := fun v E' H' => updOK E' o.dst v fun E'' => regO G.P T ops.toList own (k + 1) l E'' H' K X) (fun a' w' hp => ?_) h1 (execOp_value (by simp [execOp, ho]) h2) h3 h4
          obtain ⟨y, E2, H2, k1, C2, mu2, k2⟩ := hp
          rw [updOK_iff] at k1
          exact regO_sound hT l k1 k2
        exact wpIn_of_wp (fun c hc => by rw [ho] at hc; cases hc) hwp
      · exact h.elim
    · rcases gd_sound rfl hst h with ⟨hw, E', h1, h2⟩ | ⟨hw, E', h1, h2⟩
      · rw [if_pos hw]
        refine op_sound hT h1 h2 fun a' w' hp => ?_
        obtain ⟨x, E'', H', h3, C', mu', h4⟩ := hp
        rw [updOK_iff] at h3
        exact regO_sound hT l h3 h4
      · rw [if_neg (by simp [hw])]
        rw [updOK_iff] at h1
        exact ⟨fun _ _ => trivial, regO_sound hT l h1 (h2.frame (reps_put h2.env o.dst (by unfold Rep; rfl)) (put_defers _ _ _))⟩
/-- A plain region, in which the operations of 'own' turn a text into bytes of the call's own. -/
theorem ACode.s_regO (own : List Nat) (hT : TOk P T) {id : Nat} {ops : Array Oper} (h : regO P T ops.toList own 0 ops.toList E H K X) : ACode P (.region id ops false) E H K X := by
  refine ⟨fun n G a w hP hst => ?_⟩
  obtain ⟨C, mu, hst⟩ := hst
  subst hP
  exact wpIn_region_list (regO_sound hT _ h hst)
end
end Go.Av
