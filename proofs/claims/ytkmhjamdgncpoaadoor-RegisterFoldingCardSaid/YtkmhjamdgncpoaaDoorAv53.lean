/-
  AV: a region whose order is open, run in an order that is handed over: what reads things that do not change may come before the appends that it stands beside.
-/
import Derived.Test.YtkmhjamdgncpoaaDoorKf
set_option linter.unusedSimpArgs false
set_option linter.unusedVariables false
set_option linter.unusedSectionVars false
namespace Go.Av
section
variable {G : Cx} {C : CellSet} {w w' : World} {mu : Mu} {H : List HO} {E : List AV} {a : Act} {T : List TY} {P : Program} {ops : Array Oper} {n0 i j : Nat} {o oi oj : Oper} {we pu : List Nat} {K : KK} {X : XX}
mutual
theorem scrub_closed (l : Nat) : ∀ x : AV, closed x = true → scrub l x = x
  | .own _ _ _ _, h => by unfold closed at h; cases h
  | .el _ _ _ _, h => by unfold closed at h; cases h
  | .ptr _ _, h => by unfold closed at h; cases h
  | .om _, h => by unfold closed at h; cases h
  | .fn f cap, h => by unfold closed at h; unfold scrub; rw [scrubs_closed l cap h]
  | .mv f cap, h => by unfold closed at h; unfold scrub; rw [scrubs_closed l cap h]
  | .iface t x, h => by unfold closed at h; unfold scrub; rw [scrub_closed l x h]
  | .agg cs, h => by unfold closed at h; unfold scrub; rw [scrubs_closed l cs h]
  | .tuple cs, h => by unfold closed at h; unfold scrub; rw [scrubs_closed l cs h]
  | .any, _ => by unfold scrub; rfl
  | .int _ _, _ => by unfold scrub; rfl
  | .bool _, _ => by unfold scrub; rfl
  | .lit _, _ => by unfold scrub; rfl
  | .str _, _ => by unfold scrub; rfl
  | .sl _ _, _ => by unfold scrub; rfl
  | .at_ _, _ => by unfold scrub; rfl
  | .raw _, _ => by unfold scrub; rfl
  | .mp _ _, _ => by unfold scrub; rfl
theorem scrubs_closed (l : Nat) : ∀ xs : List AV, closeds xs = true → scrubs l xs = xs
  | [], _ => by unfold scrubs; rfl
  | x :: xs, h => by
    unfold closeds at h
    simp only [Bool.and_eq_true] at h
    unfold scrubs
    rw [scrub_closed l x h.1, scrubs_closed l xs h.2]
end
mutual
theorem ref_closed (l : Nat) : ∀ x : AV, closed x = true → refA l x = false
  | .own _ _ _ _, h => by unfold closed at h; cases h
  | .el _ _ _ _, h => by unfold closed at h; cases h
  | .ptr _ _, h => by unfold closed at h; cases h
  | .om _, h => by unfold closed at h; cases h
  | .fn f cap, h => by unfold closed at h; unfold refA; exact refs_closed l cap h
  | .mv f cap, h => by unfold closed at h; unfold refA; exact refs_closed l cap h
  | .iface t x, h => by unfold closed at h; unfold refA; exact ref_closed l x h
  | .agg cs, h => by unfold closed at h; unfold refA; exact refs_closed l cs h
  | .tuple cs, h => by unfold closed at h; unfold refA; exact refs_closed l cs h
  | .any, _ => by unfold refA; rfl
  | .int _ _, _ => by unfold refA; rfl
  | .bool _, _ => by unfold refA; rfl
  | .lit _, _ => by unfold refA; rfl
  | .str _, _ => by unfold refA; rfl
  | .sl _ _, _ => by unfold refA; rfl
  | .at_ _, _ => by unfold refA; rfl
  | .raw _, _ => by unfold refA; rfl
  | .mp _ _, _ => by unfold refA; rfl
theorem refs_closed (l : Nat) : ∀ xs : List AV, closeds xs = true → refAs l xs = false
  | [], _ => by unfold refAs; rfl
  | x :: xs, h => by
    unfold closeds at h
    simp only [Bool.and_eq_true] at h
    unfold refAs
    rw [ref_closed l x h.1, refs_closed l xs h.2]; rfl
end
/-- What an append does to the rest. -/
structure GrowOK (H : List HO) (f : AV → AV) (H1 : List HO) : Prop where
  nat : Nat1 f
  cl : ∀ v, closed v = true → f v = v
  ptr : ∀ l o, f (.ptr l o) = .ptr l o
  cells : ∀ (l : Nat) cs, H[l]? = some (.cells cs) → closeds cs = true → H1[l]? = some (.cells cs)
  place : ∀ (l : Nat), H[l]? = some .dead ∨ H[l]? = some (.ghost [] [] []) → H1[l]? = H[l]?
theorem grow_id (H : List HO) : GrowOK H id H := ⟨nat_id, fun _ _ => rfl, fun _ _ => rfl, fun _ _ h _ => h, fun _ _ => rfl⟩
theorem snoc_old {x : HO} {l : Nat} {y : HO} (h : H[l]? = some y) : (H ++ [x])[l]? = some y := by
  rw [List.getElem?_append_left (List.getElem?_eq_some_iff.1 h).1]; exact h
theorem grow_snoc (H : List HO) (x : HO) : GrowOK H id (H ++ [x]) := ⟨nat_id, fun _ _ => rfl, fun _ _ => rfl, fun _ _ h _ => snoc_old h, fun l h => by
  rcases h with h | h <;> rw [snoc_old h, h]⟩
theorem grow_upd {l : Nat} {e e' : TypeId} {sz sz' : Nat} {es es' : List AV} (h : H[l]? = some (.arr e sz es)) : GrowOK H (scrub l) ((H.map (scrubH l)).set l (.arr e' sz' es')) := by
  have key : ∀ {k : Nat} {y : HO}, H[k]? = some y → (∀ e sz es, y ≠ .arr e sz es) → scrubH l y = y → ((H.map (scrubH l)).set l (.arr e' sz' es'))[k]? = some y := fun {k y} hk hne hy => by
    have hkl : l ≠ k := fun he => by subst he; rw [h] at hk; injection hk with hk; exact hne _ _ _ hk.symm
    rw [List.getElem?_set_ne hkl, List.getElem?_map, hk]
    simp [hy]
  refine ⟨nat_scrub l, fun v hv => scrub_closed l v hv, fun k o => by unfold scrub; rfl, fun k cs hk hc => key hk (by intros; simp) (by show HO.cells (scrubs l cs) = _; rw [scrubs_closed l cs hc]), fun k hk => ?_⟩
  rcases hk with hk | hk
  · rw [key hk (by intros; simp) rfl, hk]
  · rw [key hk (by intros; simp) (by unfold scrubH scrubs; rfl), hk]
theorem once_append2 {t t' : TypeId} {s x : Operand} {K : AV → KK} (h : appendK none T E H t t' s x K) :
    ∃ r f H', GrowOK H f H' ∧ K r (E.map f) H' ∧ ∀ (E2 : List AV), evD E2 s = evD E s → evD E2 x = evD E x → ∀ K' : AV → KK, K' r (E2.map f) H' → appendK none T E2 H t t' s x K' := by
  unfold appendK at h
  split at h
  case h_2 => exact h.elim
  rename_i ht
  replace h := (lkK_iff _ _ _).1 h; obtain ⟨y, hy, h⟩ := h
  split at h
  case h_2 => exact h.elim
  rename_i e esz by' ag hk
  split at h
  case h_2 => exact h.elim
  rename_i hb
  rw [evK_iff, evK_iff] at h
  have fin : ∀ (E2 : List AV), evD E2 s = evD E s → evD E2 x = evD E x → ∀ K' : AV → KK, (match (generalizing := false) evD E x with
        | .raw (.slice none 0 0) => (match evD E s with
          | .own l sz lo n => lkK H l fun ob => (match ob with | .arr _ _ _ => K' (.own l sz lo n) E2 H | _ => False)
          | .raw (.slice none 0 0) => K' (.raw (.slice none 0 0)) E2 H
          | _ => False)
        | _ => elemsK H (evD E x) fun sz xs => (match Nat.beq sz esz with
          | true => (match evD E s with
            | .raw (.slice none 0 0) => (xs.length * by' ≤ 140737488355328) ∧ zeroK T e fun z => cellsK z fun zc => (match Nat.beq zc.length esz && zc.all scalB with
              | true => alK none H (.arr e esz xs) fun H' l => K' (.own l esz 0 xs.length) E2 H'
              | false => False)
            | .own l sz' lo n => lkK H l fun ob => (match ob with
              | .arr e' sz'' es => (match Nat.beq sz' esz && Nat.beq sz'' esz && Nat.beq lo 0 && Nat.beq e' e with
                | true => (n = es.length ∧ (es ++ xs).length * by' ≤ 140737488355328) ∧ zeroK T e fun z => cellsK z fun zc => (match Nat.beq zc.length esz && zc.all scalB with
                  | true => scrubK l E2 fun E' => scrubHK l H fun H => updK H l (.arr e esz (es ++ xs)) fun H' => K' (.own l esz 0 (es ++ xs).length) E' H'
                  | false => False)
                | false => False)
              | _ => False)
            | _ => False)
          | false => False)) → appendK none T E2 H t t' s x K' := fun E2 h1 h2 K' k => by
    unfold appendK
    simp only [ht]
    refine (lkK_iff _ _ _).2 ⟨y, hy, ?_⟩
    simp only [hk, hb]
    rw [evK_iff, evK_iff, h1, h2]
    exact k
  generalize evD E s = sv at h fin
  generalize evD E x = xv at h fin
  split at h
  · split at h
    · rename_i l sz lo n
      replace h := (lkK_iff _ _ _).1 h; obtain ⟨ob, hob, h⟩ := h
      split at h
      · exact ⟨_, id, H, (grow_id H), by simpa using h, fun E2 h1 h2 K' k => fin E2 h1 h2 K' ((lkK_iff _ _ _).2 ⟨_, hob, by simpa using k⟩)⟩
      · exact h.elim
    · exact ⟨_, id, H, (grow_id H), by simpa using h, fun E2 h1 h2 K' k => fin E2 h1 h2 K' (by simpa using k)⟩
    · exact h.elim
  · rename_i hne
    obtain ⟨sz, xs, h, he⟩ := once_elems h
    have fin2 : ∀ (E2 : List AV), evD E2 s = sv → evD E2 x = xv → ∀ K' : AV → KK, elemsK H xv (fun sz xs => (match Nat.beq sz esz with
          | true => (match (generalizing := false) sv with
            | .raw (.slice none 0 0) => (xs.length * by' ≤ 140737488355328) ∧ zeroK T e fun z => cellsK z fun zc => (match Nat.beq zc.length esz && zc.all scalB with
              | true => alK none H (.arr e esz xs) fun H' l => K' (.own l esz 0 xs.length) E2 H'
              | false => False)
            | .own l sz' lo n => lkK H l fun ob => (match ob with
              | .arr e' sz'' es => (match Nat.beq sz' esz && Nat.beq sz'' esz && Nat.beq lo 0 && Nat.beq e' e with
                | true => (n = es.length ∧ (es ++ xs).length * by' ≤ 140737488355328) ∧ zeroK T e fun z => cellsK z fun zc => (match Nat.beq zc.length esz && zc.all scalB with
                  | true => scrubK l E2 fun E' => scrubHK l H fun H => updK H l (.arr e esz (es ++ xs)) fun H' => K' (.own l esz 0 (es ++ xs).length) E' H'
                  | false => False)
                | false => False)
              | _ => False)
            | _ => False)
          | false => False)) → appendK none T E2 H t t' s x K' := fun E2 h1 h2 K' k => fin E2 h1 h2 K' (by
      split
      · exact absurd rfl hne
      · exact k)
    split at h
    case h_2 => exact h.elim
    rename_i hsz
    split at h
    · obtain ⟨hl, h⟩ := h
      obtain ⟨z, h, hz⟩ := once_zero h
      rw [cellsK_iff] at h
      split at h
      · rename_i hc
        unfold alK at h
        simp only at h
        rw [snocK_iff] at h
        refine ⟨_, id, _, (grow_snoc H _), by simpa using h, fun E2 h1 h2 K' k => fin2 E2 h1 h2 K' (he _ ?_)⟩
        simp only [hsz]
        refine ⟨hl, hz _ ?_⟩
        rw [cellsK_iff]
        simp only [hc]
        unfold alK
        simp only
        rw [snocK_iff]
        simpa using k
      · exact h.elim
    · rename_i l sz' lo n
      replace h := (lkK_iff _ _ _).1 h; obtain ⟨ob, hob, h⟩ := h
      split at h
      case h_2 => exact h.elim
      rename_i e' sz'' es
      split at h
      case h_2 => exact h.elim
      rename_i hq
      obtain ⟨hl, h⟩ := h
      obtain ⟨z, h, hz⟩ := once_zero h
      rw [cellsK_iff] at h
      split at h
      · rename_i hc
        rw [scrubK_iff, scrubHK_iff, updK_iff] at h
        rw [scrubs_map] at h
        refine ⟨_, scrub _, _, grow_upd hob, h, fun E2 h1 h2 K' k => fin2 E2 h1 h2 K' (he _ ?_)⟩
        simp only [hsz]
        refine (lkK_iff _ _ _).2 ⟨_, hob, ?_⟩
        simp only [hq]
        refine ⟨hl, hz _ ?_⟩
        rw [cellsK_iff]
        simp only [hc]
        rw [scrubK_iff, scrubHK_iff, updK_iff, scrubs_map]
        exact k
      · exact h.elim
    · exact h.elim
/-! ### Operations that read what does not change -/
def hoAt : List HO → Nat → Option HO
  | [], _ => none
  | x :: _, 0 => some x
  | _ :: r, n + 1 => hoAt r n
theorem hoAt_eq : ∀ (H : List HO) (l : Nat), hoAt H l = H[l]?
  | [], l => by simp [hoAt]
  | x :: r, 0 => rfl
  | x :: r, n + 1 => by unfold hoAt; rw [hoAt_eq r n]; rfl
def stabV (H : List HO) : AV → Bool
  | .ptr l _ => match hoAt H l with | some (.cells cs) => closeds cs | _ => false
  | v => closed v
def stabs (E : List AV) (H : List HO) : List Operand → Bool
  | [] => true
  | y :: r => stabV H (evD E y) && stabs E H r
theorem stabs_mem : ∀ {l : List Operand} {y : Operand}, stabs E H l = true → y ∈ l → stabV H (evD E y) = true
  | [], y, _, h => by cases h
  | x :: l, y, hs, h => by
    unfold stabs at hs
    simp only [Bool.and_eq_true] at hs
    rcases List.mem_cons.1 h with rfl | h
    · exact hs.1
    · exact stabs_mem hs.2 h
theorem stabs_of : ∀ {l : List Operand}, (∀ y ∈ l, stabV H (evD E y) = true) → stabs E H l = true
  | [], _ => rfl
  | x :: l, h => by
    unfold stabs
    rw [h x (by simp), stabs_of fun y hy => h y (by simp [hy])]; rfl
theorem stab_cases {x : AV} (h : stabV H x = true) : closed x = true ∨ ∃ l o cs, x = .ptr l o ∧ H[l]? = some (.cells cs) ∧ closeds cs = true := by
  cases x with
  | ptr l o =>
    have h : (match hoAt H l with | some (.cells cs) => closeds cs | _ => false) = true := h
    rw [hoAt_eq] at h
    split at h
    · rename_i cs hc; exact .inr ⟨l, o, cs, rfl, hc, h⟩
    · cases h
  | _ => exact .inl h
/-- What it leads to is there in another heap. -/
def CellsIn (H H1 : List HO) : Prop := ∀ (l : Nat) cs, H[l]? = some (.cells cs) → closeds cs = true → H1[l]? = some (.cells cs)
theorem stab_in {H1 : List HO} (hc : CellsIn H H1) {x : AV} (h : stabV H x = true) : stabV H1 x = true ∧ HUse x H H1 := by
  rcases stab_cases h with k | ⟨l, o, cs, rfl, k1, k2⟩
  · refine ⟨?_, fun l ob hr _ => by rw [ref_closed l x k] at hr; cases hr⟩
    cases x <;> first | exact k | (unfold closed at k; cases k)
  · have e : stabV H1 (.ptr l o) = (match hoAt H1 l with | some (.cells cs) => closeds cs | _ => false) := rfl
    refine ⟨by rw [e, hoAt_eq, hc l cs k1 k2]; exact k2, fun l' ob hr hl => ?_⟩
    unfold refA at hr
    have : l = l' := Nat.eq_of_beq_eq_true hr
    subst this
    rw [k1] at hl
    injection hl with hl
    subst hl
    exact hc l cs k1 k2
def placeB (H : List HO) (s : Nat) : Bool := match hoAt H s with | some .dead => true | some (.ghost [] [] []) => true | _ => false
theorem place_cases {s : Nat} (h : placeB H s = true) : H[s]? = some .dead ∨ H[s]? = some (.ghost [] [] []) := by
  unfold placeB at h
  rw [hoAt_eq] at h
  split at h
  · exact .inl (by assumption)
  · exact .inr (by assumption)
  · cases h
/-- It stays as it is where an append writes: it leads nowhere, or to a variable of its own. -/
def clP : AV → Bool
  | .ptr _ _ => true
  | x => closed x
theorem clP_fix {f : AV → AV} {H1 : List HO} (hf : GrowOK H f H1) {v : AV} (h : clP v = true) : f v = v := by
  cases v <;> first | exact hf.ptr _ _ | exact hf.cl _ h
def dstC (o : Oper) (E : List AV) : Bool := match o.dst with | some d => clP (E.getD d .any) | none => false
/-- A step that reads what does not change: it makes nothing; its result leads nowhere. -/
def purK (P : Program) (T : List TY) (ops : List Oper) (n0 i : Nat) (o : Oper) (E : List AV) (H : List HO) (K : KK) : Prop :=
  (stabs E H o.op.operands.toList && placeB H (n0 + i)) = true ∧ stK P T ops n0 i o E H fun E' H' => (H' = H ∧ dstC o E' = true) ∧ K E' H'
theorem purK_mono {K K' : KK} (h : purK P T ops.toList n0 i oi E H K) (hk : ∀ E' H', K E' H' → K' E' H') : purK P T ops.toList n0 i oi E H K' :=
  ⟨h.1, stK_mono h.2 fun E' H' k => ⟨k.1, hk _ _ k.2⟩⟩
theorem dead_set {s : Nat} {x : HO} (h1 : H.set s x = H) (h2 : H[s]? = some .dead) : x = .dead := by
  have : (H.set s x)[s]? = H[s]? := by rw [h1]
  rw [List.getElem?_set_self (List.getElem?_eq_some_iff.1 h2).1, h2] at this
  injection this
/-- What the run of such a step is. -/
theorem pur_run {Ki : KK} (h : purK P T ops.toList n0 i oi E H Ki) : ∃ v, Ki (updO E oi.dst v) H ∧ dstC oi (updO E oi.dst v) = true ∧
    ∀ E' H', AgreeG ops.toList E E' oi → CellsIn H H' → H'[n0 + i]? = H[n0 + i]? → (∀ y ∈ oi.op.operands, evD E' y = evD E y) → ∀ K' : KK, dstC oi (updO E' oi.dst v) = true → K' (updO E' oi.dst v) H' → purK P T ops.toList n0 i oi E' H' K' := by
  obtain ⟨h1, h2⟩ := h
  simp only [Bool.and_eq_true] at h1
  obtain ⟨v, ob, hd, ⟨⟨hH, hv⟩, hk⟩, ht⟩ := once_st h2
  have hob : ∀ H' : List HO, H'[n0 + i]? = H[n0 + i]? → setO H' (n0 + i) ob = H' := fun H' he => by
    cases ob with
    | none => rfl
    | some x =>
      have hx := dead_set hH (hd x rfl)
      subst hx
      have : H'[n0 + i]? = some .dead := by rw [he]; exact hd _ rfl
      obtain ⟨hl, hg⟩ := List.getElem?_eq_some_iff.1 this
      exact List.ext_getElem? fun k => by
        by_cases hkk : n0 + i = k
        · subst hkk; simp only [setO]; rw [List.getElem?_set_self hl, this]
        · simp only [setO]; rw [List.getElem?_set_ne hkk]
  rw [hob H rfl] at hk
  refine ⟨v, hk, hv, fun E' H' ha hc hp hev K' hv' k' => ⟨?_, ?_⟩⟩
  · simp only [Bool.and_eq_true]
    refine ⟨stabs_of fun y hy => ?_, ?_⟩
    · have hy' : y ∈ oi.op.operands := by simpa using hy
      rw [hev y hy']
      exact (stab_in hc (stabs_mem h1.1 hy)).1
    · unfold placeB
      rw [hoAt_eq, hp, ← hoAt_eq]
      exact h1.2
  · refine ht E' H' ha (fun y hy => (stab_in hc (stabs_mem h1.1 (by simpa using hy))).2) hp _ ?_
    rw [hob H' hp]
    exact ⟨⟨rfl, hv'⟩, k'⟩
theorem dstC_upd {v x : AV} {d : Option Tmp} {E' : List AV} (hd : ∀ t, oi.dst = some t → d ≠ some t) (h : dstC oi E' = true) : dstC oi (updO E' d x) = true := by
  unfold dstC at h ⊢
  cases hi : oi.dst with
  | none => rw [hi] at h; exact h
  | some t =>
    rw [hi] at h
    simp only at h ⊢
    cases d with
    | none => exact h
    | some e =>
      have hne : e ≠ t := fun he => hd t hi (by rw [he])
      simp only [updO, List.getD_eq_getElem?_getD] at h ⊢
      rw [List.getElem?_set_ne hne]; exact h
theorem dstC_any {v : AV} {E1 : List AV} (hl : E1.length = E.length) (h : dstC oi (updO E oi.dst v) = true) (hc : ∀ d, oi.dst = some d → ¬ d < E.length → True) : dstC oi (updO E1 oi.dst v) = true := by
  unfold dstC at h ⊢
  cases hi : oi.dst with
  | none => rw [hi] at h; exact h
  | some d =>
    rw [hi] at h
    simp only [updO, List.getD_eq_getElem?_getD] at h ⊢
    by_cases hdl : d < E.length
    · rw [List.getElem?_set_self hdl] at h
      have hd1 : d < E1.length := Nat.lt_of_lt_of_eq hdl hl.symm
      rw [List.getElem?_set_self hd1]; exact h
    · have hd1 : (E1.set d v).length ≤ d := by rw [List.length_set, hl]; exact Nat.le_of_not_lt hdl
      rw [List.getElem?_eq_none hd1]; rfl
theorem updO_len (E : List AV) (d : Option Tmp) (v : AV) : (updO E d v).length = E.length := by cases d <;> simp [updO]

/-- It changes places with a step that is apart. -/
theorem pur_comm (hT : TOk P T) (hs : Sat P E H) (hi : ops[i]? = some oi) (hj : ops[j]? = some oj) (hij : i ≠ j) (hap : oi.apart ops oj = true) {Ki Kj : KK}
    (h : purK P T ops.toList n0 i oi E H Ki) (hk : ∀ E' H', Sat P E' H' → Ki E' H' → stK P T ops.toList n0 j oj E' H' Kj) :
    stK P T ops.toList n0 j oj E H fun E1 H1 => purK P T ops.toList n0 i oi E1 H1 Kj := by
  obtain ⟨p1, p2, p3⟩ := Oper.apart_spec hap
  obtain ⟨vi, ki, hvi, ti⟩ := pur_run h
  have refl : AgreeG ops.toList E E oi := ⟨fun _ _ => rfl, fun _ _ _ _ _ _ _ => rfl⟩
  have hs' : Sat P (updO E oi.dst vi) H := by
    have h0 := (ti E H refl (fun _ _ h _ => h) rfl (fun _ _ => rfl) (fun E' H' => E' = updO E oi.dst vi ∧ H' = setO H (n0 + i) none) hvi ⟨rfl, rfl⟩).2
    exact st_sat hT hi (stK_mono h0 fun _ _ k => k.2) hs
  have h2 := hk _ _ hs' ki
  obtain ⟨vj, obj, dj, kj, tj⟩ := once_st h2
  have ag := agree_upd (x := vi) (E := E) p1
  have agi : AgreeG ops.toList E (updO E oj.dst vj) oi := agree_upd p3
  refine tj E H ag.symm (fun y hy l ob _ hl => hl) rfl _ ?_
  have hcin : CellsIn H (setO H (n0 + j) obj) := fun l cs hl hc => by
    cases obj with
    | none => exact hl
    | some y =>
      have hne : n0 + j ≠ l := fun e => by have := dj y rfl; rw [e, hl] at this; cases this
      simp only [setO]; rw [List.getElem?_set_ne hne]; exact hl
  have hpl : (setO H (n0 + j) obj)[n0 + i]? = H[n0 + i]? := by
    cases obj with
    | none => rfl
    | some y => simp only [setO]; rw [List.getElem?_set_ne (by omega)]
  refine ti _ _ agi hcin hpl agi.1 _ (dstC_any (updO_len _ _ _) hvi (fun _ _ _ => trivial)) ?_
  rw [updO_comm p2] at kj
  exact kj
/-- It changes places with an append. -/
theorem pur_over (hmj : apB oj = true) (hgi : oi.guard = none) (p1 : ∀ t, oi.dst = some t → t ∉ oj.looksAt ops) (p2 : ∀ t, oi.dst = some t → oj.dst ≠ some t) (p3 : ∀ t, oj.dst = some t → t ∉ oi.looksAt ops) {Kw : KK}
    (h : purK P T ops.toList n0 i oi E H fun E' H' => wstK P T ops.toList oj E' H' Kw X) : wstK P T ops.toList oj E H (fun E1 H1 => purK P T ops.toList n0 i oi E1 H1 Kw) X := by
  obtain ⟨vi, hk, hvi, ti⟩ := pur_run h
  have ag0 := agree_upd (x := vi) (E := E) p1
  have hst := h.1
  clear h
  simp only [Bool.and_eq_true] at hst
  obtain ⟨jdst, jop, jty, jpos, jaft, jgd⟩ := oj
  unfold apB at hmj
  simp only at hmj
  cases jop <;> first | cases hmj | skip
  rename_i c
  obtain ⟨cal, args, tys⟩ := c
  simp only at hmj
  cases cal <;> first | cases hmj | skip
  rename_i bi
  cases bi <;> first | cases hmj | skip
  cases jgd <;> simp at hmj
  obtain ⟨ha, ht⟩ := hmj
  obtain ⟨sx, xx, rfl⟩ : ∃ sx xx, args = #[sx, xx] := by
    match args, ha with
    | ⟨[a, b]⟩, _ => exact ⟨a, b, rfl⟩
  obtain ⟨t1, t2, rfl⟩ : ∃ t1 t2, tys = #[t1, t2] := by
    match tys, ht with
    | ⟨[a, b]⟩, _ => exact ⟨a, b, rfl⟩
  have ev1 : evD (updO E oi.dst vi) sx = evD E sx := ag0.1 sx (by simp [Op.operands, Call.operands])
  have ev2 : evD (updO E oi.dst vi) xx = evD E xx := ag0.1 xx (by simp [Op.operands, Call.operands])
  have ap : ∀ {E : List AV} {H : List HO} {K : KK}, wstK P T ops.toList { dst := jdst, op := .call ⟨.builtin .append, #[sx, xx], #[t1, t2]⟩, type := jty, pos := jpos, after := jaft, guard := none } E H K X ↔
      appendK none T E H t1 t2 sx xx (fun v E' H' => nbK v fun v => updOK E' jdst v fun E'' => K E'' H') := fun {E H K} => by
    unfold wstK gd2 opK
    exact Iff.rfl
  rw [ap] at hk ⊢
  obtain ⟨r, f, H', hf, hk, hto⟩ := once_append2 hk
  refine hto E ev1.symm ev2.symm _ ?_
  obtain ⟨u, hu, hu2, _, _⟩ := once_nb hk
  refine hu2 _ ?_
  rw [updOK_iff] at hu ⊢
  have hev : ∀ y ∈ oi.op.operands, evD (updO (E.map f) jdst u) y = evD E y := fun y hy => by
    have hy0 : evD (updO (E.map f) jdst u) y = evD (E.map f) y := evD_upd fun t ht he => p3 t ht (by
      subst he
      unfold Oper.looksAt
      exact List.mem_append_left _ (List.mem_filterMap.2 ⟨.tmp t, by simpa using hy, rfl⟩))
    rw [hy0]
    have hst := stabs_mem hst.1 (by simpa using hy)
    cases y with
    | tmp t =>
      have e1 : evD (E.map f) (.tmp t) = f (evD E (.tmp t)) := by
        simp only [evD, List.getD_eq_getElem?_getD, List.getElem?_map]
        cases E[t]? with
        | none => exact hf.nat.any.symm
        | some x => rfl
      rw [e1]
      rcases stab_cases hst with k | ⟨l, o, cs, k, _⟩
      · exact hf.cl _ k
      · rw [k]; exact hf.ptr l o
    | _ => rfl
  refine ti _ _ ⟨hev, fun g want og t hg hog ht => by rw [hgi] at hg; cases hg⟩ (fun l cs hl hc => hf.cells l cs hl hc) (hf.place _ (place_cases hst.2)) hev _ (dstC_any (by rw [updO_len]; simp) hvi (fun _ _ _ => trivial)) ?_
  have e2 : updO (updO (E.map f) jdst u) oi.dst vi = updO ((updO E oi.dst vi).map f) jdst u := by
    cases hd : oi.dst with
    | none => rfl
    | some d =>
      have hcl : (E.set d vi).map f = (E.map f).set d vi := by
        rw [List.map_set]
        by_cases hdl : d < E.length
        · have : clP vi = true := by
            unfold dstC at hvi
            rw [hd] at hvi
            simp only [updO, List.getD_eq_getElem?_getD] at hvi
            rw [List.getElem?_set_self hdl] at hvi
            exact hvi
          rw [clP_fix hf this]
        · have h1 : (E.map f).length ≤ d := by rw [List.length_map]; exact Nat.le_of_not_lt hdl
          rw [List.set_eq_of_length_le h1, List.set_eq_of_length_le h1]
      simp only [updO]
      rw [hcl]
      cases jdst with
      | none => rfl
      | some j =>
        have hne : j ≠ d := fun e => p2 d hd (by rw [e])
        simp only
        exact List.set_comm _ _ hne
  rw [e2]
  exact hu
theorem anyD_firstP (hT : TOk P T) (hi : ops[i]? = some oi) (hwi : memB we i = false) (hgi : oi.guard = none) {U : Nat → Bool} (hUi : U i = true)
    (hUp : ∀ j oj, U j = true → j ≠ i → ops[j]? = some oj → ∃ e ∈ oj.after, Region.binds .any e = true ∧ U e.on = true) :
    ∀ (fuel : Nat) (listed : Array Bool) (E : List AV) (H : List HO), (∀ j, U j = true → listed.getD j false = false) →
      (∀ j oj, ops[j]? = some oj → U j = false → listed.getD j true = false → (memB we j = false ∨ apB oj = true) ∧ oi.apart ops oj = true) →
      i ∈ Region.ready .any ops listed → purK P T ops.toList n0 i oi E H (anyD P T ops n0 we K X fuel (listed.setIfInBounds i true)) → anyD P T ops n0 we K X (fuel + 1) listed E H := by
  intro fuel
  have sat : ∀ {E : List AV} {H : List HO} {Ki : KK}, Sat P E H → purK P T ops.toList n0 i oi E H Ki → ∃ v, Ki (updO E oi.dst v) H ∧ Sat P (updO E oi.dst v) H := fun {E H Ki} hs h => by
    obtain ⟨vi, ki, hvi, ti⟩ := pur_run h
    have h0 := (ti E H ⟨fun _ _ => rfl, fun _ _ _ _ _ _ _ => rfl⟩ (fun _ _ h _ => h) rfl (fun _ _ => rfl) (fun E' H' => E' = updO E oi.dst vi ∧ H' = setO H (n0 + i) none) hvi ⟨rfl, rfl⟩).2
    exact ⟨vi, ki, st_sat hT hi (stK_mono h0 fun _ _ k => k.2) hs⟩
  induction fuel with
  | zero =>
    intro listed E H hU hap hr h
    unfold anyD
    intro hs
    refine ⟨fun h0 => (by rw [h0] at hr; cases hr), fun j hj => ?_⟩
    by_cases hji : j = i
    · subst hji; unfold dOp; rw [hi]; simp only; rw [hwi]; exact stK_mono h.2 fun _ _ k => k.2
    · obtain ⟨hjun, oj, hoj, hall⟩ := mem_ready.1 hj
      exfalso
      obtain ⟨vi, ki, hs'⟩ := sat hs h
      unfold anyD at ki
      have := ready_mono hj hji
      rw [(ki hs').1] at this; cases this
  | succ fuel ih =>
    intro listed E H hU hap hr h
    unfold anyD
    intro hs
    refine ⟨fun h0 => (by rw [h0] at hr; cases hr), fun j hj => ?_⟩
    by_cases hji : j = i
    · subst hji; unfold dOp; rw [hi]; simp only; rw [hwi]; exact stK_mono h.2 fun _ _ k => k.2
    · obtain ⟨hjun, oj, hoj, hall⟩ := mem_ready.1 hj
      have hUj : U j = false := by
        cases hu : U j with
        | false => rfl
        | true =>
          obtain ⟨e, he, hb, hue⟩ := hUp j oj hu hji hoj
          have := hall e he hb
          rw [hU _ hue] at this; cases this
      obtain ⟨hwj, hapj⟩ := hap j oj hoj hUj hjun
      have rest : ∀ E1 H1, purK P T ops.toList n0 i oi E1 H1 (anyD P T ops n0 we K X fuel ((listed.setIfInBounds j true).setIfInBounds i true)) → anyD P T ops n0 we K X (fuel + 1) (listed.setIfInBounds j true) E1 H1 := fun E1 H1 k => by
        refine ih (listed.setIfInBounds j true) E1 H1 (fun k hk => ?_) (fun k ok hk hu hun => ?_) (ready_mono hr (Ne.symm hji)) k
        · have hne : j ≠ k := fun he => by subst he; rw [hUj] at hk; cases hk
          rw [getD_set_ne false hne]; exact hU k hk
        · refine hap k ok hk hu ?_
          by_cases hjk : j = k
          · subst hjk; exact hjun
          · rw [getD_set_ne true hjk] at hun; exact hun
      unfold dOp
      rw [hoj]; simp only
      cases hmw : memB we j with
      | false =>
        simp only
        have hc := pur_comm (Kj := anyD P T ops n0 we K X fuel ((listed.setIfInBounds i true).setIfInBounds j true)) hT hs hi hoj (Ne.symm hji) hapj h fun E' H' hs' k => by
          unfold anyD at k
          have := (k hs').2 j (ready_mono hj hji)
          unfold dOp at this
          rw [hoj] at this; simp only at this; rw [hmw] at this; exact this
        refine stK_mono hc fun E1 H1 k => rest E1 H1 ?_
        rw [Array.setIfInBounds_comm _ _ hji]; exact k
      | true =>
        simp only
        have hapB : apB oj = true := by
          rcases hwj with k | k
          · rw [hmw] at k; cases k
          · exact k
        obtain ⟨p1, p2, p3⟩ := Oper.apart_spec hapj
        obtain ⟨vi, ki, hvi, ti⟩ := pur_run h
        have h0 := (ti E H ⟨fun _ _ => rfl, fun _ _ _ _ _ _ _ => rfl⟩ (fun _ _ h _ => h) rfl (fun _ _ => rfl) (fun E' H' => E' = updO E oi.dst vi ∧ H' = setO H (n0 + i) none) hvi ⟨rfl, rfl⟩).2
        have hs' := st_sat hT hi (stK_mono h0 fun _ _ k => k.2) hs
        unfold anyD at ki
        have hd := (ki hs').2 j (ready_mono hj hji)
        unfold dOp at hd
        rw [hoj] at hd; simp only at hd; rw [hmw] at hd
        obtain ⟨Kw, hw1, hw2⟩ := hd
        have h3 := ti E H ⟨fun _ _ => rfl, fun _ _ _ _ _ _ _ => rfl⟩ (fun _ _ h _ => h) rfl (fun _ _ => rfl) (fun E' H' => wstK P T ops.toList oj E' H' Kw X) hvi hw1
        refine ⟨_, pur_over hapB hgi p1 p2 p3 h3, fun E1 H1 k => rest E1 H1 (purK_mono k fun E2 H2 k2 => ?_)⟩
        rw [Array.setIfInBounds_comm _ _ hji]
        exact hw2 _ _ k2
def firstP (ops : Array Oper) (we pu : List Nat) (listed : Array Bool) (k : Nat) (U : List Nat) : Bool :=
  match ops[k]? with
  | none => false
  | some ok => memB U k && (!memB pu k || ok.guard.isNone) && (List.range ops.size).all (fun j => (!memB U j || (!listed.getD j false)) && match ops[j]? with
      | none => true
      | some oj => (match memB U j with
        | true => Nat.beq j k || oj.after.any (fun e => Region.binds .any e && memB U e.on)
        | false => listed.getD j true || ((!memB we j || ((mvB ok || memB pu k) && apB oj)) && ok.apart ops oj))) && U.all fun j => decide (j < ops.size)
def ordD (ops : Array Oper) (we pu : List Nat) : List Nat → Array Bool → Bool
  | [], listed => (Region.ready .any ops listed).isEmpty
  | k :: r, listed => (match memB we k with
    | true => (Region.ready .any ops listed == [k])
    | false => (Region.ready .any ops listed).contains k && firstP ops we pu listed k (upSet ops k)) && ordD ops we pu r (listed.setIfInBounds k true)
/-- The run in the order that is handed over; 'we' write, 'pu' read what does not change. -/
def roK (P : Program) (T : List TY) (ops : List Oper) (n0 : Nat) (we pu : List Nat) : List Nat → List AV → List HO → KK → XX → Prop
  | [], E, H, K, _ => K E H
  | k :: r, E, H, K, X => lkK ops k fun o => match memB we k with
    | false => (match memB pu k with
      | true => purK P T ops n0 k o E H fun E H => roK P T ops n0 we pu r E H K X
      | false => stK P T ops n0 k o E H fun E H => roK P T ops n0 we pu r E H K X)
    | true => wstK P T ops o E H (fun E H => roK P T ops n0 we pu r E H K X) X
theorem anyD_ord (hT : TOk P T) : ∀ (l : List Nat) (listed : Array Bool) (E : List AV) (H : List HO),
    ordD ops we pu l listed = true → roK P T ops.toList n0 we pu l E H K X → anyD P T ops n0 we K X l.length listed E H
  | [], listed, E, H, hB, h => by
    unfold anyD
    unfold roK at h
    exact fun _ => ⟨by simpa [ordD] using hB, h⟩
  | k :: l, listed, E, H, hB, h => by
    simp only [ordD, Bool.and_eq_true] at hB
    obtain ⟨hB1, hB2⟩ := hB
    unfold roK at h
    replace h := (lkK_iff _ _ _).1 h; obtain ⟨o, h0, h⟩ := h
    have h0 : ops[k]? = some o := by simpa using h0
    cases hw : memB we k with
    | false =>
      rw [hw] at h hB1
      simp only [Bool.and_eq_true] at hB1 h
      obtain ⟨hr, hf⟩ := hB1
      unfold firstP at hf
      rw [h0] at hf
      simp only [Bool.and_eq_true, List.all_eq_true, List.mem_range] at hf
      obtain ⟨⟨⟨hUk, hg⟩, hall⟩, hlt⟩ := hf
      have lt : ∀ j, memB (upSet ops k) j = true → j < ops.size := fun j hj => by simpa using hlt j (memB_mem hj)
      have up : ∀ j oj, memB (upSet ops k) j = true → j ≠ k → ops[j]? = some oj → ∃ e ∈ oj.after, Region.binds .any e = true ∧ memB (upSet ops k) e.on = true := fun j oj hu hjk hoj => by
        have := (hall j (lt j hu)).2
        rw [hoj] at this
        simp only [hu] at this
        simp only [Bool.or_eq_true] at this
        rcases this with h1 | h1
        · exact absurd (Nat.eq_of_beq_eq_true h1) hjk
        · obtain ⟨e, he, h2⟩ := Array.any_eq_true'.1 h1
          simp only [Bool.and_eq_true] at h2
          exact ⟨e, he, h2⟩
      have un : ∀ j, memB (upSet ops k) j = true → listed.getD j false = false := fun j hu => by
        have := (hall j (lt j hu)).1
        simpa [hu] using this
      cases hp : memB pu k with
      | false =>
        rw [hp] at h
        refine anyD_first hT h0 hw (U := memB (upSet ops k)) hUk up l.length listed E H un (fun j oj hoj hu hun => ?_) (by simpa using hr) (stK_mono h fun E' H' h' => anyD_ord hT l _ E' H' hB2 h')
        have hjl := (Array.getElem?_eq_some_iff.1 hoj).1
        have := (hall j hjl).2
        rw [hoj] at this
        simp only [hu, hp, Bool.or_false] at this
        simp only [hun, Bool.or_eq_true, Bool.and_eq_true, Bool.not_eq_true', Bool.false_eq_true, false_or] at this
        simpa using this
      | true =>
        rw [hp] at h
        have hgi : o.guard = none := by simpa [hp] using hg
        refine anyD_firstP hT h0 hw hgi (U := memB (upSet ops k)) hUk up l.length listed E H un (fun j oj hoj hu hun => ?_) (by simpa using hr) (purK_mono h fun E' H' h' => anyD_ord hT l _ E' H' hB2 h')
        have hjl := (Array.getElem?_eq_some_iff.1 hoj).1
        have := (hall j hjl).2
        rw [hoj] at this
        simp only [hu, hp, Bool.or_true, Bool.true_and] at this
        simp only [hun, Bool.or_eq_true, Bool.and_eq_true, Bool.not_eq_true', Bool.false_eq_true, false_or] at this
        simpa using this
    | true =>
      rw [hw] at h hB1
      simp only at h hB1
      have hr : Region.ready .any ops listed = [k] := by simpa using hB1
      show anyD P T ops n0 we K X (l.length + 1) listed E H
      unfold anyD
      intro hs
      refine ⟨fun h0 => (by rw [hr] at h0; cases h0), fun j hj => ?_⟩
      rw [hr] at hj
      obtain rfl : j = k := by simpa using hj
      unfold dOp
      rw [h0]; simp only; rw [hw]; simp only
      exact ⟨_, h, fun E1 H1 hh => anyD_ord hT l _ E1 H1 hB2 hh⟩
/-- A region whose order is open, run in the order 'l'. -/
theorem ACode.drawO {id : Nat} (l im we pu : List Nat) (hT : TOk P T) (hm : P.follows .mixedOrders = true) (hB : (Nat.beq l.length ops.size && ordD ops we pu l (Array.replicate ops.size false)) = true)
    (h : roK P T ops.toList H.length we pu l E (H ++ pads im ops.size) K X) : ACode P (.region id ops true) E H K X := by
  refine ⟨fun n G a w hP hst => ?_⟩
  subst hP
  obtain ⟨C, mu, hst⟩ := hst
  have hst' : StC G C mu E H a w.drew := hst.drew
  have hs2 := hst'.pad im ops.size
  simp only [Bool.and_eq_true] at hB
  have hl := Nat.eq_of_beq_eq_true hB.1
  have h1 := anyD_ord (ops := ops) (n0 := H.length) (we := we) (pu := pu) (K := K) (X := X) hT l (Array.replicate ops.size false) E _ hB.2 h
  rw [hl] at h1
  refine wpIn_region_any hm ?_
  have h2 := anyD_sound (r := G.rd) (n := n) hT _ _ _ _ a _ h1 ⟨C, mu, hs2⟩
  simpa using h2
end
end Go.Av
