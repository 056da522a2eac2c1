/-
  build.
-/
import Derived.Test.YtkmhjamdgncpoaaDoorF8
set_option linter.unusedVariables false
set_option linter.unusedSimpArgs false
namespace Go.Proofs.YtkmhjamdgncpoaaDoor
open Go.Av Go.Shelf Pl Go.RowKit
def chC (c : Ch) : List AV := [.int .i64 c.da, .int .i64 c.ki, .int .i64 c.sr, .str c.co, .str c.to, .str c.na, .int .i64 c.lo, .int .i64 c.hi, .int .i64 c.sh]
def dateB (p : Option Int) (d : Int) : Bool := match p with | some x => decide (d < x) | none => false
theorem step_eq (p : Option Int) (i : Nat) (l : List St) (c : Ch) : stepS p i l c = if 60 ≤ i then .error 2 else if dateB p c.da then .error 50 else if !(dayB c.da && usesB c) then .error 1
    else match mkS l c with
    | .error e => .error e
    | .ok (l', n) => if clashS l' n then .error 51 else .ok l' := by cases p <;> rfl
theorem step_lim {p : Option Int} {i : Nat} {l : List St} {c : Ch} (h : 60 ≤ i) : stepS p i l c = .error 2 := by rw [step_eq, if_pos h]
theorem step_date {p : Option Int} {i : Nat} {l : List St} {c : Ch} (h : ¬ 60 ≤ i) (hd : dateB p c.da = true) : stepS p i l c = .error 50 := by rw [step_eq, if_neg h, if_pos hd]
theorem step_arg {p : Option Int} {i : Nat} {l : List St} {c : Ch} (h : ¬ 60 ≤ i) (hd : dateB p c.da = false) (hu : (dayB c.da && usesB c) = false) : stepS p i l c = .error 1 := by
  rw [step_eq, if_neg h, if_neg (by simp [hd]), if_pos (by simp [hu])]
theorem step_mk {p : Option Int} {i : Nat} {l : List St} {c : Ch} (h : ¬ 60 ≤ i) (hd : dateB p c.da = false) (hu : (dayB c.da && usesB c) = true) : stepS p i l c = match mkS l c with
    | .error e => .error e
    | .ok (l', n) => if clashS l' n then .error 51 else .ok l' := by
  rw [step_eq, if_neg h, if_neg (by simp [hd]), if_neg (by simp [hu])]
theorem mk_none {l : List St} {c : Ch} (h : c.ki ≠ 1) (ho : openS l c.sr = false) : mkS l c = .error 3 := by
  unfold mkS
  rw [if_neg h, if_neg (by simp [ho])]
theorem open_lo {l : List St} {n : Int} (h : n < 0) : openS l n = false := by
  unfold openS
  rw [decide_eq_false (by omega)]
  rfl
theorem open_hi {L : List (St × Sv)} {n : Int} (h0 : 0 ≤ n) (h : (L.length : Int) ≤ n) : openS (L.map Prod.fst) n = false := by
  unfold openS
  rw [List.getElem?_eq_none (by simp; omega)]
  simp
theorem open_at {L : List (St × Sv)} {n : Int} (h0 : 0 ≤ n) (h : n.toNat < L.length) : openS (L.map Prod.fst) n = L[n.toNat].1.op := by
  unfold openS
  rw [List.getElem?_eq_getElem (by simpa using h), decide_eq_true h0]
  simp
theorem open_lt {L : List (St × Sv)} {n : Int} (h : openS (L.map Prod.fst) n = true) : (0 ≤ n ∧ n < L.length) ∧ n.toNat < L.length := by
  unfold openS at h
  simp only [Bool.and_eq_true, decide_eq_true_eq] at h
  obtain ⟨h0, h1⟩ := h
  split at h1
  · rename_i s hs
    have := (List.getElem?_eq_some_iff.1 hs).1
    simp at this
    omega
  · cases h1
theorem rows_add (L : List (St × Sv)) (c : Ch) : (rowsB L ++ [AV.agg [.str c.co, .str c.to, .str c.na, .raw (Value.slice none 0 0), .int .i64 c.lo, .int .i64 c.hi, .int .i64 0, .lit true]]).map plainR = rowsB (L ++ [(newS c, Sv.nil)]) := by
  unfold rowsB
  simp only [List.map_append, List.map_map, List.map_cons, List.map_nil]
  rfl
theorem plain_rows (L : List (St × Sv)) : (rowsB L).map plainR = rowsB L := by
  unfold rowsB
  rw [List.map_map]
  rfl
theorem rows_set (L : List (St × Sv)) (n : Nat) (s : St) (x : Sv) : (rowsB L).set (0 + n) (s.r x) = rowsB (L.set n (s, x)) := by
  unfold rowsB
  rw [Nat.zero_add, List.map_set]
theorem rows_setl (L : List (St × Sv)) (n : Nat) (s : St) (x : Sv) : ((rowsB L).set (0 + n) (AV.agg [.str s.co, .str s.to, .str s.na, .raw x.v, .int .i64 s.lo, .int .i64 s.hi, .int .i64 s.sh, .lit s.op])).map plainR = rowsB (L.set n (s, x)) := by
  rw [List.map_set, plain_rows]
  exact rows_set L n s x
theorem toks_set {L : List (St × Sv)} {n : Nat} (h : n < L.length) {s : St} (hs : s.al = L[n].1.al) : toksB (L.set n (s, L[n].2)) = toksB L := by
  unfold toksB
  rw [List.map_set]
  simp only [hs]
  apply List.ext_getElem?
  intro k
  rw [List.getElem?_set]
  split
  · rename_i e
    subst e
    simp [h]
  · rfl
theorem toks_add (L : List (St × Sv)) (c : Ch) : toksB L ++ [(Sv.nil, [])] = toksB (L ++ [(newS c, Sv.nil)]) := by
  unfold toksB
  rw [List.map_append]
  rfl
theorem own_add (L : List (St × Sv)) (x : AV) (y : St × Sv) : HO.cells [AV.own 6 8 0 (rowsB L ++ [x]).length] = .cells [.own 6 8 0 (L ++ [y]).length] := by
  simp [rowsB]
theorem wr_add (L : List (St × Sv)) (x : AV) (h : L.length ≤ 60) : Wr .i64 (((rowsB L ++ [x]).length : Int) - 1) = (L.length : Int) := by
  have e : (rowsB L ++ [x]).length = L.length + 1 := by simp [rowsB]
  rw [e, Wr64 _ (by omega) (by omega)]
  omega
theorem toks_get {L : List (St × Sv)} {n : Nat} (h : n < L.length) : (toksB L)[n]? = some (L[n].2, L[n].1.al) := by
  unfold toksB
  simp [h]
theorem rows_again {L : List (St × Sv)} {n : Nat} (h : n < L.length) {a : AV} : ((rowsB L).set (0 + n) a)[0 + n]? = some a := by
  rw [Nat.zero_add, List.getElem?_set_self (by simpa [rowsB] using h)]
theorem rows_again2 {L : List (St × Sv)} {n : Nat} (h : n < L.length) {a b : AV} : (((rowsB L).set (0 + n) b).set (0 + n) a)[0 + n]? = some a := by
  rw [Nat.zero_add, List.getElem?_set_self (by simpa [rowsB] using h)]
theorem rows_set3 (L : List (St × Sv)) (n : Nat) (s : St) (x : Sv) {a b c : AV} (hc : c = s.r x) : (((rowsB L).set (0 + n) a).set (0 + n) b).set (0 + n) c = rowsB (L.set n (s, x)) := by
  rw [List.set_set, List.set_set, hc]
  exact rows_set L n s x
theorem toks_upd (L : List (St × Sv)) (n : Nat) (s : St) (x : Sv) : (toksB L).set n (x, s.al) = toksB (L.set n (s, x)) := by
  unfold toksB
  rw [List.map_set]
theorem rows_get {L : List (St × Sv)} {n : Nat} (h : n < L.length) : (rowsB L)[0 + n]? = some (L[n].1.r L[n].2) := by
  rw [Nat.zero_add]
  simp [rowsB, h]
theorem run_err {r : List Ch} {i : Nat} {l : List St} {p : Option Int} (hi : i < r.length) {e : Int} (h : stepS p i l r[i] = .error e) : runS (r.drop i) i p l = ([], e, (i : Int)) := by
  rw [List.drop_eq_getElem_cons hi]
  unfold runS
  rw [h]
theorem run_ok {r : List Ch} {i : Nat} {l l' : List St} {p : Option Int} (hi : i < r.length) (h : stepS p i l r[i] = .ok l') : runS (r.drop i) i p l = runS (r.drop (i + 1)) (i + 1) (some r[i].da) l' := by
  rw [List.drop_eq_getElem_cons hi]
  conv => lhs; unfold runS
  rw [h]
structure CondB (r : List Ch) (i : Nat) (hi : i < r.length) (l : List St) : Prop where
  step : stepS (prevB r i) i l r[i] = match mkS l r[i] with
    | .error e => .error e
    | .ok (l', n) => if clashS l' n then .error 51 else .ok l'
  uses : usesB r[i] = true
  opn : r[i].ki = 1 ∨ openS l r[i].sr = true
  lt : i < 60
/-- What a change made: the streets, the number of the one changed, the error. -/
def MadeB (n : Nat) (l : List St) (c : Ch) (y : List (St × Sv) × Int × Int) : Prop :=
  (y.2.2 = 0 ∧ ∃ m : Nat, y.2.1 = m ∧ m < y.1.length ∧ mkS l c = .ok (y.1.map Prod.fst, m) ∧ y.1.length ≤ n ∧ ∀ x ∈ y.1, StOK x.1 n) ∨ (y.2.2 ≠ 0 ∧ mkS l c = .error y.2.2)
def kindsK : List AV := [.int .i64 1, .int .i64 2, .int .i64 3, .int .i64 4, .int .i64 5, .int .i64 6]
def kindsF : List AV := [.fn 43 [], .fn 44 [], .fn 45 [], .fn 46 [], .fn 48 [], .fn 49 []]
theorem kind_cases {c : Ch} (h : usesB c = true) : c.ki = 1 ∨ c.ki = 2 ∨ c.ki = 3 ∨ c.ki = 4 ∨ c.ki = 5 ∨ c.ki = 6 := by
  rcases Decidable.em (c.ki = 1 ∨ c.ki = 2 ∨ c.ki = 3 ∨ c.ki = 4 ∨ c.ki = 5 ∨ c.ki = 6) with k | k
  · exact k
  · simp only [not_or] at k
    unfold usesB at h
    simp [k] at h
theorem kind_some {c : Ch} (h : usesB c = true) : mget (.int .i64 c.ki) kindsK kindsF ≠ none := by
  rcases kind_cases h with k | k | k | k | k | k <;> rw [k] <;> exact fun h => nomatch h
theorem kind_get {c : Ch} (h : usesB c = true) {v : AV} (hv : mget (.int .i64 c.ki) kindsK kindsF = some v) : ((c.ki = 1 ∧ v = .fn 43 []) ∨ (c.ki = 2 ∧ v = .fn 44 []) ∨ (c.ki = 3 ∧ v = .fn 45 []) ∨
    (c.ki = 4 ∧ v = .fn 46 []) ∨ (c.ki = 5 ∧ v = .fn 48 []) ∨ (c.ki = 6 ∧ v = .fn 49 [])) ∧ True := by
  refine ⟨?_, trivial⟩
  rcases kind_cases h with k | k | k | k | k | k
  · exact .inl ⟨k, by rw [k] at hv; exact (Option.some.inj hv).symm⟩
  · exact .inr (.inl ⟨k, by rw [k] at hv; exact (Option.some.inj hv).symm⟩)
  · exact .inr (.inr (.inl ⟨k, by rw [k] at hv; exact (Option.some.inj hv).symm⟩))
  · exact .inr (.inr (.inr (.inl ⟨k, by rw [k] at hv; exact (Option.some.inj hv).symm⟩)))
  · exact .inr (.inr (.inr (.inr (.inl ⟨k, by rw [k] at hv; exact (Option.some.inj hv).symm⟩))))
  · exact .inr (.inr (.inr (.inr (.inr ⟨k, by rw [k] at hv; exact (Option.some.inj hv).symm⟩))))
theorem StOK.mono {s : St} {n m : Nat} (h : StOK s n) (hn : n ≤ m) : StOK s m := { h with al := Nat.le_trans h.al hn }
theorem StOK.withNa {s : St} {n : Nat} (h : StOK s n) {t : Bs} (ht : t.length ≤ 84) : StOK { s with na := t } n := ⟨ht, h.al, h.ass, h.lo, h.hi, h.sh⟩
theorem StOK.withCo {s : St} {n : Nat} (h : StOK s n) (t : Bs) : StOK { s with co := t } n := ⟨h.na, h.al, h.ass, h.lo, h.hi, h.sh⟩
theorem StOK.withOp {s : St} {n : Nat} (h : StOK s n) (b : Bool) : StOK { s with op := b } n := ⟨h.na, h.al, h.ass, h.lo, h.hi, h.sh⟩
theorem wr_num {a b : Int} (ha : 1 ≤ a ∧ a ≤ 9999) (hb : inK .i64 b) : numB (Wr .i64 (a + b)) = numB (a + b) := by
  rw [inK64] at hb
  by_cases h : a + b ≤ 9223372036854775807
  · rw [Wr64 _ (by omega) h]
  · have e : Wr .i64 (a + b) = a + b - 18446744073709551616 := by
      unfold Wr IntKind.wrap
      simp [IntKind.signed, IntKind.bits]
      split <;> omega
    rw [e]
    unfold numB
    rw [Bool.eq_iff_iff]
    simp
    omega
theorem wr_add2 {a b : Int} (ha : 1 ≤ a ∧ a ≤ 9999) (h : numB (a + b) = true) : Wr .i64 (a + b) = a + b := by
  have := h
  unfold numB at this
  simp only [Bool.and_eq_true, decide_eq_true_eq] at this
  rw [Wr64 _ (by omega) (by omega)]
theorem name_len {s : Bs} (h : nameN s = true) : s.length ≤ 84 := by
  unfold nameN at h
  simp only [Bool.and_eq_true, decide_eq_true_eq] at h
  exact h.1.1
theorem num_ok {n : Int} (h : numB n = true) : 1 ≤ n ∧ n ≤ 9999 := by
  unfold numB at h
  simpa using h
theorem uses_open {c : Ch} (h : usesB c = true) (hk : c.ki = 1) : nameN c.na = true ∧ numB c.lo = true ∧ numB c.hi = true := by
  unfold usesB at h
  rw [if_pos hk] at h
  simp only [Bool.and_eq_true] at h
  exact ⟨h.1.1.1.1.2, h.1.1.1.2, h.1.1.2⟩
theorem na_len {c : Ch} (h : usesB c = true) (hk : c.ki = 2 ∨ c.ki = 5) : c.na.length ≤ 84 := by
  unfold usesB at h
  rw [if_neg (by omega), if_pos hk] at h
  simp only [Bool.and_eq_true] at h
  exact name_len h.1
theorem made_open {L : List (St × Sv)} {c : Ch} {i : Nat} (hk : c.ki = 1) (hu : usesB c = true) (hn : L.length ≤ i) (ok : ∀ x ∈ L, StOK x.1 i) : MadeB (i + 1) (L.map Prod.fst) c (L ++ [(newS c, Sv.nil)], (L.length : Int), 0) := by
  obtain ⟨h1, h2, h3⟩ := uses_open hu hk
  refine .inl ⟨rfl, L.length, rfl, by simp, by simp [mkS, hk], by simpa using hn, fun x hx => ?_⟩
  rcases List.mem_append.1 hx with hx | hx
  · exact (ok x hx).mono (Nat.le_succ i)
  · rw [List.mem_singleton] at hx
    subst hx
    exact ⟨name_len h1, Nat.zero_le _, fun a ha => by simp [newS] at ha, num_ok h2, num_ok h3, by have := num_ok h2; simp only [newS]; omega⟩
theorem made_edit {L : List (St × Sv)} {c : Ch} {i n : Nat} {s' : St} {x : Sv} (h : n < L.length) (hn : (n : Int) = c.sr) (ho : openS (L.map Prod.fst) c.sr = true) (hk : c.ki ≠ 1) (he : editS L[n].1 c = .ok s') (hs : StOK s' (i + 1))
    (hl : L.length ≤ i) (ok : ∀ x ∈ L, StOK x.1 i) : MadeB (i + 1) (L.map Prod.fst) c (L.set n (s', x), c.sr, 0) := by
  have hn2 : c.sr.toNat = n := by omega
  refine .inl ⟨rfl, n, hn.symm, by simpa using h, ?_, by simp; omega, fun y hy => ?_⟩
  · unfold mkS
    rw [if_neg hk, if_pos ho, hn2, List.getElem?_eq_getElem (by simpa using h)]
    simp only [List.getElem_map, he, List.map_set]
  · rcases List.mem_or_eq_of_mem_set hy with hy | rfl
    · exact (ok y hy).mono (Nat.le_succ i)
    · exact hs
theorem made_err {L : List (St × Sv)} {c : Ch} {i n : Nat} {e k : Int} (h : n < L.length) (hn : (n : Int) = c.sr) (ho : openS (L.map Prod.fst) c.sr = true) (hk : c.ki ≠ 1) (he : editS L[n].1 c = .error e) (h0 : e ≠ 0) : MadeB (i + 1) (L.map Prod.fst) c (L, k, e) := by
  have hn2 : c.sr.toNat = n := by omega
  refine .inr ⟨h0, ?_⟩
  unfold mkS
  rw [if_neg hk, if_pos ho, hn2, List.getElem?_eq_getElem (by simpa using h)]
  simp only [List.getElem_map, he]
theorem rowsB_len (L : List (St × Sv)) : (rowsB L).length = L.length := by simp [rowsB]
theorem rows_view0 {ts : Tok} : ∀ M : List (St × Sv), (∀ x ∈ M, (x.2, x.1.al) ∈ ts) → viewRows ts (rowsB M) ((M.map Prod.fst).map St.v)
  | [], _ => trivial
  | x :: M, h => by
    obtain ⟨j, hj⟩ := List.mem_iff_getElem?.1 (h x (by simp))
    exact ⟨⟨_, _, rfl, rfl, vc_c rfl, vc_c rfl, vc_c rfl, vc_t hj, vc_c rfl, vc_c rfl, vc_c rfl, vc_c rfl, trivial⟩, rows_view0 M fun y hy => h y (by simp [hy])⟩
theorem rows_view (L : List (St × Sv)) : viewRows (toksB L) (rowsB L) ((L.map Prod.fst).map St.v) := rows_view0 L fun x hx => List.mem_map.2 ⟨x, hx, rfl⟩
set_option maxRecDepth 100000 in
set_option maxHeartbeats 4000000 in
theorem build_spec (r : List Ch) : Ctr Tryd.prog 23 [chs r] (fun x => x = resB (buildS r)) := by
  refine Ctr.of_body_defer Tryd.func23 rfl tys_ok (by kernel_rfl) ?_
  conv => whnf
  refine ADef.tok0 9 ?_
  refine ADef.seq1 (cd_sound tys_ok _ ?_)
  conv => whnf
  refine ADef.seq2 (ADef.region tys_ok ?_)
  conv => whnf
  refine ⟨by kernel_rfl, ?_⟩
  conv => whnf
  intro vs
  repeat (first | refine ACode.seq ?_ | (refine ACode.s_reg tys_ok ?_; conv => whnf) | refine ACode.s_block ?_ | refine ACode.s_scope ?_ | (refine ACode.s_cond ?_; conv => whnf) | (refine ACode.s_exit ?_; conv => whnf) | (refine ACode.s_ret ?_; conv => whnf) | (refine ACode.s_skip ?_; conv => whnf) | (refine ACode.s_label ?_; conv => whnf))
  refine ACall.nilCell 5 0 44 8 rfl rfl ?_
  refine ACall.of_spec (makers_spec) rfl fun r hr => ?_
  subst hr
  conv => whnf
  repeat (first | refine ACode.seq ?_ | (refine ACode.s_reg tys_ok ?_; conv => whnf) | refine ACode.s_block ?_ | refine ACode.s_scope ?_ | (refine ACode.s_cond ?_; conv => whnf) | (refine ACode.s_exit ?_; conv => whnf) | (refine ACode.s_ret ?_; conv => whnf) | (refine ACode.s_skip ?_; conv => whnf) | (refine ACode.s_label ?_; conv => whnf))
  refine ACode.loopD (fun x : Nat × List (St × Sv) => mk 95 [(0, chs r), (2, .ptr 1 0), (3, .ptr 2 0), (4, .ptr 3 0), (5, .ptr 5 0), (6, kindsV), (16, chs r), (17, .int .i64 r.length), (18, .int .i64 x.1)])
    (fun x => cellsB vs x.2)
    (fun x => BInv r x.1 x.2) (fun x => r.length - x.1) (fun x _ => ⟨rfl, by (conv => whnf); exact ⟨rfl, rfl, rfl, rfl, rfl, rowsB_closed _, trivial⟩⟩) ⟨(0, []), ?_⟩ (fun _ => rfl) fun x hx => ?_
  · conv => whnf
    repeat (refine And.intro ?_ ?_; (focus (first | rfl | (simp; done) | (simp [List.length_map]; done))); conv => whnf)
    exact ⟨Nat.zero_le _, Nat.le_refl _, by simp, fun x hx => by simp at hx, rfl⟩
  · obtain ⟨i, L⟩ := x
    simp only at hx
    refine abs_ fun K' X' hK hX => ?_
    have hP : ∀ (o : HO) (E : List AV) (rest : List HO) (e : Int) (hi : i < r.length), stepS (prevB r i) i (L.map Prod.fst) r[i] = .error e → X' (.panic (.iface 66 (.agg [.int .i64 e, .int .i64 i]))) (chs r :: .any :: .ptr 1 0 :: .ptr 2 0 :: .ptr 3 0 :: E) (o :: .cells [nilA] :: .cells [.int .i64 0] :: .cells [.int .i64 0] :: .ghost [.ptr 1 0, .ptr 2 0, .ptr 3 0] vs [] :: rest) := fun o E rest e hi h => by
      rw [hX]
      exact ⟨⟨_, rfl⟩, finP r _ vs _ rest e i (by rw [← hx.run, run_err hi h]; rfl)⟩
    repeat (first | refine ACode.seq ?_ | (refine ACode.s_reg tys_ok ?_; conv => whnf) | refine ACode.s_block ?_ | refine ACode.s_scope ?_ | (refine ACode.s_cond ?_; conv => whnf) | (refine ACode.s_exit ?_; conv => whnf) | (refine ACode.s_ret ?_; conv => whnf) | (refine ACode.s_skip ?_; conv => whnf) | (refine ACode.s_label ?_; conv => whnf))
    refine ⟨fun hi => ?_, fun hi => ?_⟩
    · have hi : i < r.length := by simp at hi; omega
      clear hX
      repeat (first | refine ACode.seq ?_ | (refine ACode.s_reg tys_ok ?_; conv => whnf) | refine ACode.s_block ?_ | refine ACode.s_scope ?_ | (refine ACode.s_cond ?_; conv => whnf) | (refine ACode.s_exit ?_; conv => whnf) | (refine ACode.s_ret ?_; conv => whnf) | (refine ACode.s_skip ?_; conv => whnf) | (refine ACode.s_label ?_; conv => whnf))
      refine ⟨by simp, (r[i]).v, by simp [hi], ?_⟩
      conv => whnf
      refine ACode.seq ?_
      refine ACode.s_reg tys_ok ?_
      conv => whnf
      refine ACode.seq ?_
      refine ACode.cutK (fun _ : Unit => mk 95 [(0, chs r), (2, .ptr 1 0), (3, .ptr 2 0), (4, .ptr 3 0), (5, .ptr 5 0), (6, kindsV), (7, .ptr 7 0), (8, .ptr 8 0), (9, .fn 31 [.ptr 7 0]), (16, chs r), (17, .int .i64 r.length), (18, .int .i64 i)])
        (fun _ => cellsB vs L ++ [.cells [.int .i64 i], .cells (chC (r[i]'hi))]) (fun _ => CondB r i hi (L.map Prod.fst)) (fun _ _ => ⟨rfl, by (conv => whnf); exact ⟨rfl, rfl, rfl, rfl, rfl, rowsB_closed _, rfl, by exact ⟨rfl, trivial⟩⟩⟩) (fun _ => Nat.le_refl _) ?_ fun _ hc => ?_
      · clear hK
        repeat (first | refine ACode.seq ?_ | (refine ACode.s_reg tys_ok ?_; conv => whnf) | refine ACode.s_block ?_ | refine ACode.s_scope ?_ | (refine ACode.s_cond ?_; conv => whnf) | (refine ACode.s_exit ?_; conv => whnf) | (refine ACode.s_ret ?_; conv => whnf) | (refine ACode.s_skip ?_; conv => whnf) | (refine ACode.s_label ?_; conv => whnf))
        refine ⟨fun h6 => ?_, fun h6 => ?_⟩
        · conv => whnf
          repeat (first | refine ACode.seq ?_ | (refine ACode.s_reg tys_ok ?_; conv => whnf) | refine ACode.s_block ?_ | refine ACode.s_scope ?_ | (refine ACode.s_cond ?_; conv => whnf) | (refine ACode.s_exit ?_; conv => whnf) | (refine ACode.s_ret ?_; conv => whnf) | (refine ACode.s_skip ?_; conv => whnf) | (refine ACode.s_label ?_; conv => whnf))
          refine ACall.inline rfl rfl tys_ok rfl (fun us ms => ?_)
          conv => whnf
          repeat (first | refine ACode.seq ?_ | (refine ACode.s_reg tys_ok ?_; conv => whnf) | refine ACode.s_block ?_ | refine ACode.s_scope ?_ | (refine ACode.s_cond ?_; conv => whnf) | (refine ACode.s_exit ?_; conv => whnf) | (refine ACode.s_ret ?_; conv => whnf) | (refine ACode.s_skip ?_; conv => whnf) | (refine ACode.s_label ?_; conv => whnf))
          refine ⟨⟨rfl, rfl⟩, ?_⟩
          conv => whnf
          exact hP _ _ _ _ hi (step_lim (by simp at h6; omega))
        replace h6 : ¬ 60 ≤ i := by simp at h6; omega
        repeat (first | refine ACode.seq ?_ | (refine ACode.s_reg tys_ok ?_; conv => whnf) | refine ACode.s_block ?_ | refine ACode.s_scope ?_ | (refine ACode.s_cond ?_; conv => whnf) | (refine ACode.s_exit ?_; conv => whnf) | (refine ACode.s_ret ?_; conv => whnf) | (refine ACode.s_skip ?_; conv => whnf) | (refine ACode.s_label ?_; conv => whnf))
        refine ACode.cutK (fun _ : Unit => mk 95 [(0, chs r), (2, .ptr 1 0), (3, .ptr 2 0), (4, .ptr 3 0), (5, .ptr 5 0), (6, kindsV), (7, .ptr 7 0), (8, .ptr 8 0), (9, .fn 31 [.ptr 7 0]), (16, chs r), (17, .int .i64 r.length), (18, .int .i64 i), (29, .bool (dateB (prevB r i) (r[i]'hi).da))])
          (fun _ => cellsB vs L ++ [.cells [.int .i64 i], .cells (chC (r[i]'hi))]) (fun _ => True) (fun _ _ => ⟨rfl, by (conv => whnf); exact ⟨rfl, rfl, rfl, rfl, rfl, rowsB_closed _, rfl, by exact ⟨rfl, trivial⟩⟩⟩) (fun _ => Nat.le_refl _) ?_ fun _ _ => ?_
        · refine ACode.draw [] tys_ok (by kernel_rfl) (by kernel_rfl) ?_
          conv => whnf
          refine ⟨fun h0 => ?_, fun h0 => ?_⟩
          · have h0 : 0 < i := by simp at h0; omega
            have hp : prevB r i = some (r[i - 1]).da := by unfold prevB; rw [if_neg (by omega), List.getElem?_eq_getElem (by omega)]; rfl
            have e1 : Wr .i64 ((i : Int) - 1) = ((i - 1 : Nat) : Int) := by rw [Wr64 _ (by omega) (by omega)]; omega
            conv => whnf
            repeat (first | refine ACode.seq ?_ | (refine ACode.s_reg tys_ok ?_; conv => whnf) | refine ACode.s_block ?_ | refine ACode.s_scope ?_ | (refine ACode.s_cond ?_; conv => whnf) | (refine ACode.s_exit ?_; conv => whnf) | (refine ACode.s_ret ?_; conv => whnf) | (refine ACode.s_skip ?_; conv => whnf) | (refine ACode.s_label ?_; conv => whnf))
            refine ⟨(by rw [show (((i, L) : Nat × List (St × Sv)).1 : Int) = (i : Int) from rfl, e1]; omega), (r[i - 1]).v, by (rw [show (((i, L) : Nat × List (St × Sv)).1 : Int) = (i : Int) from rfl, e1]; simp [show i - 1 < r.length by omega]), ?_⟩
            conv => whnf
            refine And.intro (fun h => ?_) (fun h => ?_)
            all_goals (conv => whnf)
            all_goals refine ⟨(), ?_⟩
            all_goals rw [hp, show dateB (some r[i - 1].da) r[i].da = decide (r[i].da < r[i - 1].da) from rfl, h]
            · conv => whnf
              repeat (refine And.intro ?_ ?_; (focus (first | rfl | (simp; done))); conv => whnf)
              exact trivial
            · conv => whnf
              repeat (refine And.intro ?_ ?_; (focus (first | rfl | (simp; done))); conv => whnf)
              exact trivial
          · have h0 : i = 0 := by simp at h0; omega
            have hp : prevB r i = none := by unfold prevB; rw [if_pos h0]
            conv => whnf
            repeat (first | refine ACode.seq ?_ | (refine ACode.s_reg tys_ok ?_; conv => whnf) | refine ACode.s_block ?_ | refine ACode.s_scope ?_ | (refine ACode.s_cond ?_; conv => whnf) | (refine ACode.s_exit ?_; conv => whnf) | (refine ACode.s_ret ?_; conv => whnf) | (refine ACode.s_skip ?_; conv => whnf) | (refine ACode.s_label ?_; conv => whnf))
            refine ⟨(), ?_⟩
            rw [hp]
            conv => whnf
            repeat (refine And.intro ?_ ?_; (focus (first | rfl | (simp; done))); conv => whnf)
            exact trivial
        repeat (first | refine ACode.seq ?_ | (refine ACode.s_reg tys_ok ?_; conv => whnf) | refine ACode.s_block ?_ | refine ACode.s_scope ?_ | (refine ACode.s_cond ?_; conv => whnf) | (refine ACode.s_exit ?_; conv => whnf) | (refine ACode.s_ret ?_; conv => whnf) | (refine ACode.s_skip ?_; conv => whnf) | (refine ACode.s_label ?_; conv => whnf))
        refine ⟨fun hd => ?_, fun hd => ?_⟩
        · conv => whnf
          repeat (first | refine ACode.seq ?_ | (refine ACode.s_reg tys_ok ?_; conv => whnf) | refine ACode.s_block ?_ | refine ACode.s_scope ?_ | (refine ACode.s_cond ?_; conv => whnf) | (refine ACode.s_exit ?_; conv => whnf) | (refine ACode.s_ret ?_; conv => whnf) | (refine ACode.s_skip ?_; conv => whnf) | (refine ACode.s_label ?_; conv => whnf))
          refine ACall.inline rfl rfl tys_ok rfl (fun us ms => ?_)
          conv => whnf
          repeat (first | refine ACode.seq ?_ | (refine ACode.s_reg tys_ok ?_; conv => whnf) | refine ACode.s_block ?_ | refine ACode.s_scope ?_ | (refine ACode.s_cond ?_; conv => whnf) | (refine ACode.s_exit ?_; conv => whnf) | (refine ACode.s_ret ?_; conv => whnf) | (refine ACode.s_skip ?_; conv => whnf) | (refine ACode.s_label ?_; conv => whnf))
          refine ⟨⟨rfl, rfl⟩, ?_⟩
          conv => whnf
          exact hP _ _ _ _ hi (step_date h6 hd)
        repeat' (first | (refine And.intro (fun _ => ?_) (fun _ => ?_) <;> conv => whnf) | (refine ACall.of_spec (isDay_spec (r[i]).da) rfl fun r hr => ?_; subst hr; conv => whnf) | (refine ACall.of_spec (uses_spec r[i]) rfl fun r hr => ?_; subst hr; conv => whnf) | refine ACode.seq ?_ | (refine ACode.s_reg tys_ok ?_; conv => whnf) | refine ACode.s_block ?_ | refine ACode.s_scope ?_ | (refine ACode.s_cond ?_; conv => whnf) | (refine ACode.s_exit ?_; conv => whnf) | (refine ACode.s_ret ?_; conv => whnf) | (refine ACode.s_skip ?_; conv => whnf) | (refine ACode.s_label ?_; conv => whnf))
        · rename_i h1 h2
          refine ACall.inline rfl rfl tys_ok rfl (fun us ms => ?_)
          conv => whnf
          repeat (first | refine ACode.seq ?_ | (refine ACode.s_reg tys_ok ?_; conv => whnf) | refine ACode.s_block ?_ | refine ACode.s_scope ?_ | (refine ACode.s_cond ?_; conv => whnf) | (refine ACode.s_exit ?_; conv => whnf) | (refine ACode.s_ret ?_; conv => whnf) | (refine ACode.s_skip ?_; conv => whnf) | (refine ACode.s_label ?_; conv => whnf))
          refine ⟨⟨rfl, rfl⟩, ?_⟩
          conv => whnf
          exact hP _ _ _ _ hi (step_arg h6 hd (by simp at h1 h2; simp [h1, h2]))
        · rename_i h1 h2 h3
          refine ACall.inline rfl rfl tys_ok rfl (fun us ms => ?_)
          conv => whnf
          repeat (first | refine ACode.seq ?_ | (refine ACode.s_reg tys_ok ?_; conv => whnf) | refine ACode.s_block ?_ | refine ACode.s_scope ?_ | (refine ACode.s_cond ?_; conv => whnf) | (refine ACode.s_exit ?_; conv => whnf) | (refine ACode.s_ret ?_; conv => whnf) | (refine ACode.s_skip ?_; conv => whnf) | (refine ACode.s_label ?_; conv => whnf))
          refine ⟨fun h4 => ?_, fun h4 => ?_⟩
          · conv => whnf
            repeat (first | refine ACode.seq ?_ | (refine ACode.s_reg tys_ok ?_; conv => whnf) | refine ACode.s_block ?_ | refine ACode.s_scope ?_ | (refine ACode.s_cond ?_; conv => whnf) | (refine ACode.s_exit ?_; conv => whnf) | (refine ACode.s_ret ?_; conv => whnf) | (refine ACode.s_skip ?_; conv => whnf) | (refine ACode.s_label ?_; conv => whnf))
            refine ⟨fun h5 => ?_, fun h5 => ?_⟩
            · conv => whnf
              repeat (first | refine ACode.seq ?_ | (refine ACode.s_reg tys_ok ?_; conv => whnf) | refine ACode.s_block ?_ | refine ACode.s_scope ?_ | (refine ACode.s_cond ?_; conv => whnf) | (refine ACode.s_exit ?_; conv => whnf) | (refine ACode.s_ret ?_; conv => whnf) | (refine ACode.s_skip ?_; conv => whnf) | (refine ACode.s_label ?_; conv => whnf))
              simp only [decide_eq_true_eq] at h4 h5
              refine ⟨⟨h4, h5⟩, ?_⟩
              conv => whnf
              have hlt : (r[i]).sr.toNat < L.length := by omega
              refine ⟨_, rows_get hlt, ?_⟩
              conv => whnf
              repeat (first | refine ACode.seq ?_ | (refine ACode.s_reg tys_ok ?_; conv => whnf) | refine ACode.s_block ?_ | refine ACode.s_scope ?_ | (refine ACode.s_cond ?_; conv => whnf) | (refine ACode.s_exit ?_; conv => whnf) | (refine ACode.s_ret ?_; conv => whnf) | (refine ACode.s_skip ?_; conv => whnf) | (refine ACode.s_label ?_; conv => whnf))
              refine ⟨⟨rfl, rfl⟩, ?_⟩
              conv => whnf
              repeat (first | refine ACode.seq ?_ | (refine ACode.s_reg tys_ok ?_; conv => whnf) | refine ACode.s_block ?_ | refine ACode.s_scope ?_ | (refine ACode.s_cond ?_; conv => whnf) | (refine ACode.s_exit ?_; conv => whnf) | (refine ACode.s_ret ?_; conv => whnf) | (refine ACode.s_skip ?_; conv => whnf) | (refine ACode.s_label ?_; conv => whnf))
              refine ⟨fun h7 => ?_, fun h7 => ?_⟩
              · conv => whnf
                repeat (first | refine ACode.seq ?_ | (refine ACode.s_reg tys_ok ?_; conv => whnf) | refine ACode.s_block ?_ | refine ACode.s_scope ?_ | (refine ACode.s_cond ?_; conv => whnf) | (refine ACode.s_exit ?_; conv => whnf) | (refine ACode.s_ret ?_; conv => whnf) | (refine ACode.s_skip ?_; conv => whnf) | (refine ACode.s_label ?_; conv => whnf))
                refine ACall.inline rfl rfl tys_ok rfl (fun us ms => ?_)
                conv => whnf
                repeat (first | refine ACode.seq ?_ | (refine ACode.s_reg tys_ok ?_; conv => whnf) | refine ACode.s_block ?_ | refine ACode.s_scope ?_ | (refine ACode.s_cond ?_; conv => whnf) | (refine ACode.s_exit ?_; conv => whnf) | (refine ACode.s_ret ?_; conv => whnf) | (refine ACode.s_skip ?_; conv => whnf) | (refine ACode.s_label ?_; conv => whnf))
                refine ⟨⟨rfl, rfl⟩, ?_⟩
                conv => whnf
                exact hP _ _ _ _ hi (by rw [step_mk h6 hd (by simp at h1 h2; simp [h1, h2]), mk_none (by simpa using h3) (by rw [open_at h4 hlt]; simpa using h7)])
              · conv => whnf
                repeat (first | refine ACode.seq ?_ | (refine ACode.s_reg tys_ok ?_; conv => whnf) | refine ACode.s_block ?_ | refine ACode.s_scope ?_ | (refine ACode.s_cond ?_; conv => whnf) | (refine ACode.s_exit ?_; conv => whnf) | (refine ACode.s_ret ?_; conv => whnf) | (refine ACode.s_skip ?_; conv => whnf) | (refine ACode.s_label ?_; conv => whnf))
                refine ⟨(), ?_⟩
                conv => whnf
                repeat (refine And.intro ?_ ?_; (focus (first | rfl | (simp; done))); conv => whnf)
                exact ⟨step_mk h6 hd (by simp at h1 h2; simp [h1, h2]), by simpa using h2, .inr (by rw [open_at h4 hlt]; simpa using h7), by omega⟩
            · conv => whnf
              repeat (first | refine ACode.seq ?_ | (refine ACode.s_reg tys_ok ?_; conv => whnf) | refine ACode.s_block ?_ | refine ACode.s_scope ?_ | (refine ACode.s_cond ?_; conv => whnf) | (refine ACode.s_exit ?_; conv => whnf) | (refine ACode.s_ret ?_; conv => whnf) | (refine ACode.s_skip ?_; conv => whnf) | (refine ACode.s_label ?_; conv => whnf))
              refine ⟨⟨rfl, rfl⟩, ?_⟩
              conv => whnf
              repeat (first | refine ACode.seq ?_ | (refine ACode.s_reg tys_ok ?_; conv => whnf) | refine ACode.s_block ?_ | refine ACode.s_scope ?_ | (refine ACode.s_cond ?_; conv => whnf) | (refine ACode.s_exit ?_; conv => whnf) | (refine ACode.s_ret ?_; conv => whnf) | (refine ACode.s_skip ?_; conv => whnf) | (refine ACode.s_label ?_; conv => whnf))
              refine ACall.inline rfl rfl tys_ok rfl (fun us ms => ?_)
              conv => whnf
              repeat (first | refine ACode.seq ?_ | (refine ACode.s_reg tys_ok ?_; conv => whnf) | refine ACode.s_block ?_ | refine ACode.s_scope ?_ | (refine ACode.s_cond ?_; conv => whnf) | (refine ACode.s_exit ?_; conv => whnf) | (refine ACode.s_ret ?_; conv => whnf) | (refine ACode.s_skip ?_; conv => whnf) | (refine ACode.s_label ?_; conv => whnf))
              refine ⟨⟨rfl, rfl⟩, ?_⟩
              conv => whnf
              exact hP _ _ _ _ hi (by rw [step_mk h6 hd (by simp at h1 h2; simp [h1, h2]), mk_none (by simpa using h3) (open_hi (by simpa using h4) (by simp at h5; simpa using h5))])
          · conv => whnf
            repeat (first | refine ACode.seq ?_ | (refine ACode.s_reg tys_ok ?_; conv => whnf) | refine ACode.s_block ?_ | refine ACode.s_scope ?_ | (refine ACode.s_cond ?_; conv => whnf) | (refine ACode.s_exit ?_; conv => whnf) | (refine ACode.s_ret ?_; conv => whnf) | (refine ACode.s_skip ?_; conv => whnf) | (refine ACode.s_label ?_; conv => whnf))
            refine ⟨⟨rfl, rfl⟩, ?_⟩
            conv => whnf
            repeat (first | refine ACode.seq ?_ | (refine ACode.s_reg tys_ok ?_; conv => whnf) | refine ACode.s_block ?_ | refine ACode.s_scope ?_ | (refine ACode.s_cond ?_; conv => whnf) | (refine ACode.s_exit ?_; conv => whnf) | (refine ACode.s_ret ?_; conv => whnf) | (refine ACode.s_skip ?_; conv => whnf) | (refine ACode.s_label ?_; conv => whnf))
            refine ACall.inline rfl rfl tys_ok rfl (fun us ms => ?_)
            conv => whnf
            repeat (first | refine ACode.seq ?_ | (refine ACode.s_reg tys_ok ?_; conv => whnf) | refine ACode.s_block ?_ | refine ACode.s_scope ?_ | (refine ACode.s_cond ?_; conv => whnf) | (refine ACode.s_exit ?_; conv => whnf) | (refine ACode.s_ret ?_; conv => whnf) | (refine ACode.s_skip ?_; conv => whnf) | (refine ACode.s_label ?_; conv => whnf))
            refine ⟨⟨rfl, rfl⟩, ?_⟩
            conv => whnf
            exact hP _ _ _ _ hi (by rw [step_mk h6 hd (by simp at h1 h2; simp [h1, h2]), mk_none (by simpa using h3) (open_lo (by simpa using h4))])
        · rename_i h1 h2 h3
          refine ⟨(), ?_⟩
          conv => whnf
          repeat (refine And.intro ?_ ?_; (focus (first | rfl | (simp; done))); conv => whnf)
          exact ⟨step_mk h6 hd (by simp at h1 h2; simp [h1, h2]), by simpa using h2, .inl (by simpa using h3), by omega⟩
        · rename_i h1
          refine ACall.inline rfl rfl tys_ok rfl (fun us ms => ?_)
          conv => whnf
          repeat (first | refine ACode.seq ?_ | (refine ACode.s_reg tys_ok ?_; conv => whnf) | refine ACode.s_block ?_ | refine ACode.s_scope ?_ | (refine ACode.s_cond ?_; conv => whnf) | (refine ACode.s_exit ?_; conv => whnf) | (refine ACode.s_ret ?_; conv => whnf) | (refine ACode.s_skip ?_; conv => whnf) | (refine ACode.s_label ?_; conv => whnf))
          refine ⟨⟨rfl, rfl⟩, ?_⟩
          conv => whnf
          exact hP _ _ _ _ hi (step_arg h6 hd (by simp at h1; simp [h1]))
      · refine ACode.seq ?_
        refine ACode.cutK (fun y : List (St × Sv) × Int × Int => mk 95 [(0, chs r), (2, .ptr 1 0), (3, .ptr 2 0), (4, .ptr 3 0), (5, .ptr 5 0), (6, kindsV), (7, .ptr 7 0), (8, .ptr 8 0), (9, .fn 31 [.ptr 7 0]), (10, .int .i64 y.2.1), (11, .int .i64 y.2.2), (16, chs r), (17, .int .i64 r.length), (18, .int .i64 i)])
          (fun y => cellsB vs y.1 ++ [.cells [.int .i64 i], .cells (chC (r[i]'hi))]) (MadeB (i + 1) (L.map Prod.fst) (r[i]'hi)) (fun _ _ => ⟨rfl, by (conv => whnf); exact ⟨rfl, rfl, rfl, rfl, rfl, rowsB_closed _, rfl, by exact ⟨rfl, trivial⟩⟩⟩) (fun _ => Nat.le_refl _) ?_ fun y hy => ?_
        · clear hP hK
          repeat (first | refine ACode.seq ?_ | (refine ACode.s_reg tys_ok ?_; conv => whnf) | refine ACode.s_block ?_ | refine ACode.s_scope ?_ | (refine ACode.s_cond ?_; conv => whnf) | (refine ACode.s_exit ?_; conv => whnf) | (refine ACode.s_ret ?_; conv => whnf) | (refine ACode.s_skip ?_; conv => whnf) | (refine ACode.s_label ?_; conv => whnf))
          refine ⟨by intro a ha; simp only [List.mem_cons, List.not_mem_nil, or_false] at ha; rcases ha with rfl | rfl | rfl | rfl | rfl | rfl <;> rfl, fun h => absurd h (kind_some hc.uses), fun v hv => ?_⟩
          conv => whnf
          obtain ⟨hv, hs⟩ := kind_get hc.uses hv
          rcases hv with ⟨hk, rfl⟩ | ⟨hk, rfl⟩ | ⟨hk, rfl⟩ | ⟨hk, rfl⟩ | ⟨hk, rfl⟩ | ⟨hk, rfl⟩
          all_goals (conv => whnf)
          all_goals refine ACall.inline rfl rfl tys_ok rfl (fun us ms => ?_)
          all_goals (conv => whnf)
          · refine ACode.tokAdd (e0 := 9) (ts := toksB L) rfl ?_
            conv => whnf
            repeat (first | refine ACode.seq ?_ | (refine ACode.s_reg tys_ok ?_; conv => whnf) | refine ACode.s_block ?_ | refine ACode.s_scope ?_ | (refine ACode.s_cond ?_; conv => whnf) | (refine ACode.s_exit ?_; conv => whnf) | (refine ACode.s_ret ?_; conv => whnf) | (refine ACode.s_skip ?_; conv => whnf) | (refine ACode.s_label ?_; conv => whnf))
            refine ACode.drawI [16] [17, 20] tys_ok (by kernel_rfl) (by kernel_rfl) ?_
            conv => whnf
            refine ⟨⟨by simp [rowsB], by simp [rowsB]; have := hx.m; omega⟩, ?_⟩
            conv => whnf
            refine ACode.plainR 6 rfl (rows_add L r[i]) ?_
            conv => whnf
            repeat (first | refine ACode.seq ?_ | (refine ACode.s_reg tys_ok ?_; conv => whnf) | refine ACode.s_block ?_ | refine ACode.s_scope ?_ | (refine ACode.s_cond ?_; conv => whnf) | (refine ACode.s_exit ?_; conv => whnf) | (refine ACode.s_ret ?_; conv => whnf) | (refine ACode.s_skip ?_; conv => whnf) | (refine ACode.s_label ?_; conv => whnf))
            refine ⟨⟨rfl, rfl⟩, ?_⟩
            conv => whnf
            repeat (first | refine ACode.seq ?_ | (refine ACode.s_reg tys_ok ?_; conv => whnf) | refine ACode.s_block ?_ | refine ACode.s_scope ?_ | (refine ACode.s_cond ?_; conv => whnf) | (refine ACode.s_exit ?_; conv => whnf) | (refine ACode.s_ret ?_; conv => whnf) | (refine ACode.s_skip ?_; conv => whnf) | (refine ACode.s_label ?_; conv => whnf))
            refine ⟨(L ++ [(newS r[i], Sv.nil)], L.length, 0), ?_⟩
            conv => whnf
            repeat (refine And.intro ?_ ?_; (focus (first | rfl | (simp; done) | (first | exact wr_add _ _ hx.m | exact congrArg (fun x => HO.inv (TokI 9 x)) (toks_add _ _) | exact own_add _ _ _; done))); conv => whnf)
            exact made_open hk hc.uses hx.cnt hx.ok
          · repeat (first | refine ACode.seq ?_ | (refine ACode.s_reg tys_ok ?_; conv => whnf) | refine ACode.s_block ?_ | refine ACode.s_scope ?_ | (refine ACode.s_cond ?_; conv => whnf) | (refine ACode.s_exit ?_; conv => whnf) | (refine ACode.s_ret ?_; conv => whnf) | (refine ACode.s_skip ?_; conv => whnf) | (refine ACode.s_label ?_; conv => whnf))
            refine ACode.draw [10] tys_ok (by kernel_rfl) (by kernel_rfl) ?_
            conv => whnf
            have hop := hc.opn.resolve_left (by rw [hk]; decide)
            have hsr := open_lt hop
            refine ⟨hsr.1, ?_⟩
            conv => whnf
            refine ⟨_, rows_get hsr.2, ?_⟩
            conv => whnf
            repeat (first | refine ACode.seq ?_ | (refine ACode.s_reg tys_ok ?_; conv => whnf) | refine ACode.s_block ?_ | refine ACode.s_scope ?_ | (refine ACode.s_cond ?_; conv => whnf) | (refine ACode.s_exit ?_; conv => whnf) | (refine ACode.s_ret ?_; conv => whnf) | (refine ACode.s_skip ?_; conv => whnf) | (refine ACode.s_label ?_; conv => whnf))
            refine ⟨⟨rfl, rfl⟩, ?_⟩
            conv => whnf
            repeat (first | refine ACode.seq ?_ | (refine ACode.s_reg tys_ok ?_; conv => whnf) | refine ACode.s_block ?_ | refine ACode.s_scope ?_ | (refine ACode.s_cond ?_; conv => whnf) | (refine ACode.s_exit ?_; conv => whnf) | (refine ACode.s_ret ?_; conv => whnf) | (refine ACode.s_skip ?_; conv => whnf) | (refine ACode.s_label ?_; conv => whnf))
            refine ⟨(L.set (r[i]).sr.toNat ({ L[(r[i]).sr.toNat].1 with na := (r[i]).na }, L[(r[i]).sr.toNat].2), (r[i]).sr, 0), ?_⟩
            conv => whnf
            repeat (refine And.intro ?_ ?_; (focus (first | rfl | (simp; done) | (first | exact congrArg (HO.arr 44 8) (rows_set L _ { L[(r[i]).sr.toNat].1 with na := (r[i]).na } L[(r[i]).sr.toNat].2) | exact congrArg (fun x => HO.inv (TokI 9 x)) (toks_set hsr.2 (by rfl)).symm; done))); conv => whnf)
            exact made_edit (s' := { L[(r[i]).sr.toNat].1 with na := (r[i]).na }) hsr.2 (by have := hsr.1.1; omega) hop (by rw [hk]; decide) (by simp [editS, hk]) (((hx.ok _ (List.getElem_mem hsr.2)).mono (Nat.le_succ i)).withNa (na_len hc.uses (.inl hk))) hx.cnt hx.ok
          · repeat (first | refine ACode.seq ?_ | (refine ACode.s_reg tys_ok ?_; conv => whnf) | refine ACode.s_block ?_ | refine ACode.s_scope ?_ | (refine ACode.s_cond ?_; conv => whnf) | (refine ACode.s_exit ?_; conv => whnf) | (refine ACode.s_ret ?_; conv => whnf) | (refine ACode.s_skip ?_; conv => whnf) | (refine ACode.s_label ?_; conv => whnf))
            refine ACode.draw [10] tys_ok (by kernel_rfl) (by kernel_rfl) ?_
            conv => whnf
            have hop := hc.opn.resolve_left (by rw [hk]; decide)
            have hsr := open_lt hop
            refine ⟨hsr.1, ?_⟩
            conv => whnf
            refine ⟨_, rows_get hsr.2, ?_⟩
            conv => whnf
            repeat (first | refine ACode.seq ?_ | (refine ACode.s_reg tys_ok ?_; conv => whnf) | refine ACode.s_block ?_ | refine ACode.s_scope ?_ | (refine ACode.s_cond ?_; conv => whnf) | (refine ACode.s_exit ?_; conv => whnf) | (refine ACode.s_ret ?_; conv => whnf) | (refine ACode.s_skip ?_; conv => whnf) | (refine ACode.s_label ?_; conv => whnf))
            refine ⟨⟨rfl, rfl⟩, ?_⟩
            conv => whnf
            repeat (first | refine ACode.seq ?_ | (refine ACode.s_reg tys_ok ?_; conv => whnf) | refine ACode.s_block ?_ | refine ACode.s_scope ?_ | (refine ACode.s_cond ?_; conv => whnf) | (refine ACode.s_exit ?_; conv => whnf) | (refine ACode.s_ret ?_; conv => whnf) | (refine ACode.s_skip ?_; conv => whnf) | (refine ACode.s_label ?_; conv => whnf))
            refine ⟨(L.set (r[i]).sr.toNat ({ L[(r[i]).sr.toNat].1 with co := (r[i]).co }, L[(r[i]).sr.toNat].2), (r[i]).sr, 0), ?_⟩
            conv => whnf
            repeat (refine And.intro ?_ ?_; (focus (first | rfl | (simp; done) | (first | exact congrArg (HO.arr 44 8) (rows_set L _ { L[(r[i]).sr.toNat].1 with co := (r[i]).co } L[(r[i]).sr.toNat].2) | exact congrArg (fun x => HO.inv (TokI 9 x)) (toks_set hsr.2 (by rfl)).symm; done))); conv => whnf)
            exact made_edit (s' := { L[(r[i]).sr.toNat].1 with co := (r[i]).co }) hsr.2 (by have := hsr.1.1; omega) hop (by rw [hk]; decide) (by simp [editS, hk]) (((hx.ok _ (List.getElem_mem hsr.2)).mono (Nat.le_succ i)).withCo _) hx.cnt hx.ok
          · refine ACode.cellInt (cs := chC (r[i])) 8 8 (k := .i64) (v := (r[i]).sh) rfl rfl fun hin => ?_
            repeat (first | refine ACode.seq ?_ | (refine ACode.s_reg tys_ok ?_; conv => whnf) | refine ACode.s_block ?_ | refine ACode.s_scope ?_ | (refine ACode.s_cond ?_; conv => whnf) | (refine ACode.s_exit ?_; conv => whnf) | (refine ACode.s_ret ?_; conv => whnf) | (refine ACode.s_skip ?_; conv => whnf) | (refine ACode.s_label ?_; conv => whnf))
            refine ACode.draw [] tys_ok (by kernel_rfl) (by kernel_rfl) ?_
            conv => whnf
            have hop := hc.opn.resolve_left (by rw [hk]; decide)
            have hsr := open_lt hop
            refine ⟨hsr.1, ?_⟩
            conv => whnf
            repeat (first | refine ACode.seq ?_ | (refine ACode.s_reg tys_ok ?_; conv => whnf) | refine ACode.s_block ?_ | refine ACode.s_scope ?_ | (refine ACode.s_cond ?_; conv => whnf) | (refine ACode.s_exit ?_; conv => whnf) | (refine ACode.s_ret ?_; conv => whnf) | (refine ACode.s_skip ?_; conv => whnf) | (refine ACode.s_label ?_; conv => whnf))
            refine ACode.draw [] tys_ok (by kernel_rfl) (by kernel_rfl) ?_
            conv => whnf
            refine ⟨_, rows_get hsr.2, ?_⟩
            conv => whnf
            refine ⟨_, ⟨isNumber_spec _, rfl⟩, ?_⟩
            conv => whnf
            refine ⟨fun h7 => ?_, fun h7 => ?_⟩
            · conv => whnf
              repeat (first | refine ACode.seq ?_ | (refine ACode.s_reg tys_ok ?_; conv => whnf) | refine ACode.s_block ?_ | refine ACode.s_scope ?_ | (refine ACode.s_cond ?_; conv => whnf) | (refine ACode.s_exit ?_; conv => whnf) | (refine ACode.s_ret ?_; conv => whnf) | (refine ACode.s_skip ?_; conv => whnf) | (refine ACode.s_label ?_; conv => whnf))
              refine ⟨_, rows_get hsr.2, ?_⟩
              conv => whnf
              refine ⟨_, ⟨isNumber_spec _, rfl⟩, ?_⟩
              conv => whnf
              repeat (first | refine ACode.seq ?_ | (refine ACode.s_reg tys_ok ?_; conv => whnf) | refine ACode.s_block ?_ | refine ACode.s_scope ?_ | (refine ACode.s_cond ?_; conv => whnf) | (refine ACode.s_exit ?_; conv => whnf) | (refine ACode.s_ret ?_; conv => whnf) | (refine ACode.s_skip ?_; conv => whnf) | (refine ACode.s_label ?_; conv => whnf))
              refine ⟨fun h8 => ?_, fun h8 => ?_⟩
              · conv => whnf
                repeat (first | refine ACode.seq ?_ | (refine ACode.s_reg tys_ok ?_; conv => whnf) | refine ACode.s_block ?_ | refine ACode.s_scope ?_ | (refine ACode.s_cond ?_; conv => whnf) | (refine ACode.s_exit ?_; conv => whnf) | (refine ACode.s_ret ?_; conv => whnf) | (refine ACode.s_skip ?_; conv => whnf) | (refine ACode.s_label ?_; conv => whnf))
                refine ACode.drawS (fun _ => 6) [0, 1, 2, 3, 4, 5, 6, 7, 8, 9, 10, 11, 12, 13, 14, 15, 16, 17, 18, 19, 20, 21, 22, 23, 24, 25, 26, 27, 28, 29, 30, 31, 32] [] [26, 29, 32] [14, 15, 21, 22] tys_ok (by kernel_rfl) (by kernel_rfl) rfl ?_
                conv => whnf
                refine ⟨_, rows_get hsr.2, ?_⟩
                conv => whnf
                refine ⟨_, rows_get hsr.2, ?_⟩
                conv => whnf
                refine ⟨rfl, ?_⟩
                conv => whnf
                refine ⟨rfl, ?_⟩
                conv => whnf
                refine ⟨_, rows_get hsr.2, ?_⟩
                conv => whnf
                refine ⟨rfl, ?_⟩
                conv => whnf
                refine ⟨rfl, ?_⟩
                conv => whnf
                refine ⟨⟨rfl, rfl⟩, ?_⟩
                conv => whnf
                refine ⟨_, rows_get hsr.2, ?_⟩
                conv => whnf
                refine ⟨⟨rfl, rfl⟩, ?_⟩
                conv => whnf
                refine ⟨_, rows_again hsr.2, ?_⟩
                conv => whnf
                refine ⟨⟨rfl, rfl⟩, ?_⟩
                conv => whnf
                refine ⟨_, rows_again2 hsr.2, ?_⟩
                conv => whnf
                have hst := hx.ok _ (List.getElem_mem hsr.2)
                rw [wr_num hst.lo hin] at h7
                rw [wr_num hst.hi hin] at h8
                have e1 := wr_add2 hst.lo h7
                have e2 := wr_add2 hst.hi h8
                have n1 := num_ok h7
                have n2 := num_ok h8
                have n3 := hst.sh
                have n4 := hst.lo
                have e3 : Wr .i64 (L[(r[i]).sr.toNat].1.sh + (r[i]).sh) = L[(r[i]).sr.toNat].1.sh + (r[i]).sh := Wr64 _ (by omega) (by omega)
                repeat (first | refine ACode.seq ?_ | (refine ACode.s_reg tys_ok ?_; conv => whnf) | refine ACode.s_block ?_ | refine ACode.s_scope ?_ | (refine ACode.s_cond ?_; conv => whnf) | (refine ACode.s_exit ?_; conv => whnf) | (refine ACode.s_ret ?_; conv => whnf) | (refine ACode.s_skip ?_; conv => whnf) | (refine ACode.s_label ?_; conv => whnf))
                refine ⟨⟨rfl, rfl⟩, ?_⟩
                conv => whnf
                repeat (first | refine ACode.seq ?_ | (refine ACode.s_reg tys_ok ?_; conv => whnf) | refine ACode.s_block ?_ | refine ACode.s_scope ?_ | (refine ACode.s_cond ?_; conv => whnf) | (refine ACode.s_exit ?_; conv => whnf) | (refine ACode.s_ret ?_; conv => whnf) | (refine ACode.s_skip ?_; conv => whnf) | (refine ACode.s_label ?_; conv => whnf))
                refine ⟨(L.set (r[i]).sr.toNat ({ L[(r[i]).sr.toNat].1 with lo := L[(r[i]).sr.toNat].1.lo + (r[i]).sh, hi := L[(r[i]).sr.toNat].1.hi + (r[i]).sh, sh := L[(r[i]).sr.toNat].1.sh + (r[i]).sh }, L[(r[i]).sr.toNat].2), (r[i]).sr, 0), ?_⟩
                conv => whnf
                repeat (refine And.intro ?_ ?_; (focus (first | rfl | (simp; done) | (first | exact congrArg (HO.arr 44 8) (rows_set3 L _ { L[(r[i]).sr.toNat].1 with lo := L[(r[i]).sr.toNat].1.lo + (r[i]).sh, hi := L[(r[i]).sr.toNat].1.hi + (r[i]).sh, sh := L[(r[i]).sr.toNat].1.sh + (r[i]).sh } L[(r[i]).sr.toNat].2 (by rw [e1, e2, e3]; rfl)) | exact congrArg (fun x => HO.inv (TokI 9 x)) (toks_set hsr.2 (by rfl)).symm; done))); conv => whnf)
                exact made_edit (s' := { L[(r[i]).sr.toNat].1 with lo := L[(r[i]).sr.toNat].1.lo + (r[i]).sh, hi := L[(r[i]).sr.toNat].1.hi + (r[i]).sh, sh := L[(r[i]).sr.toNat].1.sh + (r[i]).sh }) hsr.2 (by have := hsr.1.1; omega) hop (by rw [hk]; decide) (by simp [editS, hk, h7, h8])
                  ⟨hst.na, Nat.le_succ_of_le hst.al, hst.ass, n1, n2, by simp only; omega⟩ hx.cnt hx.ok
              · conv => whnf
                repeat (first | refine ACode.seq ?_ | (refine ACode.s_reg tys_ok ?_; conv => whnf) | refine ACode.s_block ?_ | refine ACode.s_scope ?_ | (refine ACode.s_cond ?_; conv => whnf) | (refine ACode.s_exit ?_; conv => whnf) | (refine ACode.s_ret ?_; conv => whnf) | (refine ACode.s_skip ?_; conv => whnf) | (refine ACode.s_label ?_; conv => whnf))
                refine ⟨⟨rfl, rfl⟩, ?_⟩
                conv => whnf
                repeat (first | refine ACode.seq ?_ | (refine ACode.s_reg tys_ok ?_; conv => whnf) | refine ACode.s_block ?_ | refine ACode.s_scope ?_ | (refine ACode.s_cond ?_; conv => whnf) | (refine ACode.s_exit ?_; conv => whnf) | (refine ACode.s_ret ?_; conv => whnf) | (refine ACode.s_skip ?_; conv => whnf) | (refine ACode.s_label ?_; conv => whnf))
                refine ⟨(L, (r[i]).sr, 1), ?_⟩
                conv => whnf
                repeat (refine And.intro ?_ ?_; (focus (first | rfl | (simp; done))); conv => whnf)
                exact made_err hsr.2 (by have := hsr.1.1; omega) hop (by rw [hk]; decide) (by simp [editS, hk, ← wr_num (hx.ok _ (List.getElem_mem hsr.2)).hi hin, h8]) (by decide)
            · conv => whnf
              repeat (first | refine ACode.seq ?_ | (refine ACode.s_reg tys_ok ?_; conv => whnf) | refine ACode.s_block ?_ | refine ACode.s_scope ?_ | (refine ACode.s_cond ?_; conv => whnf) | (refine ACode.s_exit ?_; conv => whnf) | (refine ACode.s_ret ?_; conv => whnf) | (refine ACode.s_skip ?_; conv => whnf) | (refine ACode.s_label ?_; conv => whnf))
              refine ⟨⟨rfl, rfl⟩, ?_⟩
              conv => whnf
              repeat (first | refine ACode.seq ?_ | (refine ACode.s_reg tys_ok ?_; conv => whnf) | refine ACode.s_block ?_ | refine ACode.s_scope ?_ | (refine ACode.s_cond ?_; conv => whnf) | (refine ACode.s_exit ?_; conv => whnf) | (refine ACode.s_ret ?_; conv => whnf) | (refine ACode.s_skip ?_; conv => whnf) | (refine ACode.s_label ?_; conv => whnf))
              refine ⟨(L, (r[i]).sr, 1), ?_⟩
              conv => whnf
              repeat (refine And.intro ?_ ?_; (focus (first | rfl | (simp; done))); conv => whnf)
              exact made_err hsr.2 (by have := hsr.1.1; omega) hop (by rw [hk]; decide) (by simp [editS, hk, ← wr_num (hx.ok _ (List.getElem_mem hsr.2)).lo hin, h7]) (by decide)
          · repeat (first | refine ACode.seq ?_ | (refine ACode.s_reg tys_ok ?_; conv => whnf) | refine ACode.s_block ?_ | refine ACode.s_scope ?_ | (refine ACode.s_cond ?_; conv => whnf) | (refine ACode.s_exit ?_; conv => whnf) | (refine ACode.s_ret ?_; conv => whnf) | (refine ACode.s_skip ?_; conv => whnf) | (refine ACode.s_label ?_; conv => whnf))
            refine ACode.draw [] tys_ok (by kernel_rfl) (by kernel_rfl) ?_
            conv => whnf
            have hop := hc.opn.resolve_left (by rw [hk]; decide)
            have hsr := open_lt hop
            refine ⟨hsr.1, ?_⟩
            conv => whnf
            repeat (first | refine ACode.seq ?_ | (refine ACode.s_reg tys_ok ?_; conv => whnf) | refine ACode.s_block ?_ | refine ACode.s_scope ?_ | (refine ACode.s_cond ?_; conv => whnf) | (refine ACode.s_exit ?_; conv => whnf) | (refine ACode.s_ret ?_; conv => whnf) | (refine ACode.s_skip ?_; conv => whnf) | (refine ACode.s_label ?_; conv => whnf))
            refine ACode.draw [5] tys_ok (by kernel_rfl) (by kernel_rfl) ?_
            conv => whnf
            refine ⟨_, rows_get hsr.2, ?_⟩
            conv => whnf
            have hst := hx.ok _ (List.getElem_mem hsr.2)
            refine ACall.of_tok (e0 := 9) (ts := toksB L) (as' := [L[(r[i]).sr.toNat].1.v, .str (r[i]).na]) rfl ⟨vx_a ⟨vc_c rfl, vc_c rfl, vc_c rfl, vc_t (toks_get hsr.2), vc_c rfl, vc_c rfl, vc_c rfl, vc_c rfl, trivial⟩, vx_c rfl, trivial⟩
              (hasName_spec L[(r[i]).sr.toNat].1 (r[i]).na (by have := hst.al; have := hc.lt; omega) (by have := hst.na; omega) (fun a ha => by have := hst.ass a ha; omega)) rfl ?_
            conv => whnf
            repeat (first | refine ACode.seq ?_ | (refine ACode.s_reg tys_ok ?_; conv => whnf) | refine ACode.s_block ?_ | refine ACode.s_scope ?_ | (refine ACode.s_cond ?_; conv => whnf) | (refine ACode.s_exit ?_; conv => whnf) | (refine ACode.s_ret ?_; conv => whnf) | (refine ACode.s_skip ?_; conv => whnf) | (refine ACode.s_label ?_; conv => whnf))
            refine ⟨fun h7 => ?_, fun h7 => ?_⟩
            · conv => whnf
              repeat (first | refine ACode.seq ?_ | (refine ACode.s_reg tys_ok ?_; conv => whnf) | refine ACode.s_block ?_ | refine ACode.s_scope ?_ | (refine ACode.s_cond ?_; conv => whnf) | (refine ACode.s_exit ?_; conv => whnf) | (refine ACode.s_ret ?_; conv => whnf) | (refine ACode.s_skip ?_; conv => whnf) | (refine ACode.s_label ?_; conv => whnf))
              refine ⟨⟨rfl, rfl⟩, ?_⟩
              conv => whnf
              repeat (first | refine ACode.seq ?_ | (refine ACode.s_reg tys_ok ?_; conv => whnf) | refine ACode.s_block ?_ | refine ACode.s_scope ?_ | (refine ACode.s_cond ?_; conv => whnf) | (refine ACode.s_exit ?_; conv => whnf) | (refine ACode.s_ret ?_; conv => whnf) | (refine ACode.s_skip ?_; conv => whnf) | (refine ACode.s_label ?_; conv => whnf))
              refine ⟨(L, (r[i]).sr, 4), ?_⟩
              conv => whnf
              repeat (refine And.intro ?_ ?_; (focus (first | rfl | (simp; done))); conv => whnf)
              exact made_err hsr.2 (by have := hsr.1.1; omega) hop (by rw [hk]; decide) (by simp [editS, hk, h7]) (by decide)
            · conv => whnf
              repeat (first | refine ACode.seq ?_ | (refine ACode.s_reg tys_ok ?_; conv => whnf) | refine ACode.s_block ?_ | refine ACode.s_scope ?_ | (refine ACode.s_cond ?_; conv => whnf) | (refine ACode.s_exit ?_; conv => whnf) | (refine ACode.s_ret ?_; conv => whnf) | (refine ACode.s_skip ?_; conv => whnf) | (refine ACode.s_label ?_; conv => whnf))
              refine ACode.drawS (fun k => match k with | 8 => 0 | _ => 6) [0, 1, 2, 3, 4, 5, 6, 7, 8, 9, 10, 11] [7] [8, 11] [] tys_ok (by kernel_rfl) (by kernel_rfl) rfl ?_
              conv => whnf
              refine ⟨_, rows_get hsr.2, ?_⟩
              conv => whnf
              refine ⟨rfl, ?_⟩
              conv => whnf
              refine ⟨toksB L, (r[i]).sr.toNat, L[(r[i]).sr.toNat].2, L[(r[i]).sr.toNat].1.al, [(r[i]).na], ⟨rfl, rfl, toks_get hsr.2, rfl, by simp, by have := hst.al; have := hc.lt; simp; omega⟩, fun s' => ?_⟩
              conv => whnf
              refine ⟨⟨rfl, rfl⟩, ?_⟩
              conv => whnf
              refine ⟨_, rows_get hsr.2, ?_⟩
              conv => whnf
              repeat (first | refine ACode.seq ?_ | (refine ACode.s_reg tys_ok ?_; conv => whnf) | refine ACode.s_block ?_ | refine ACode.s_scope ?_ | (refine ACode.s_cond ?_; conv => whnf) | (refine ACode.s_exit ?_; conv => whnf) | (refine ACode.s_ret ?_; conv => whnf) | (refine ACode.s_skip ?_; conv => whnf) | (refine ACode.s_label ?_; conv => whnf))
              refine ⟨⟨rfl, rfl⟩, ?_⟩
              conv => whnf
              repeat (first | refine ACode.seq ?_ | (refine ACode.s_reg tys_ok ?_; conv => whnf) | refine ACode.s_block ?_ | refine ACode.s_scope ?_ | (refine ACode.s_cond ?_; conv => whnf) | (refine ACode.s_exit ?_; conv => whnf) | (refine ACode.s_ret ?_; conv => whnf) | (refine ACode.s_skip ?_; conv => whnf) | (refine ACode.s_label ?_; conv => whnf))
              refine ⟨(L.set (r[i]).sr.toNat ({ L[(r[i]).sr.toNat].1 with al := L[(r[i]).sr.toNat].1.al ++ [(r[i]).na] }, s'), (r[i]).sr, 0), ?_⟩
              conv => whnf
              repeat (refine And.intro ?_ ?_; (focus (first | rfl | (simp; done) | (first | exact congrArg (HO.arr 44 8) (rows_set L _ { L[(r[i]).sr.toNat].1 with al := L[(r[i]).sr.toNat].1.al ++ [(r[i]).na] } s') | exact congrArg (fun x => HO.inv (TokI 9 x)) (toks_upd L _ { L[(r[i]).sr.toNat].1 with al := L[(r[i]).sr.toNat].1.al ++ [(r[i]).na] } s'); done))); conv => whnf)
              exact made_edit (s' := { L[(r[i]).sr.toNat].1 with al := L[(r[i]).sr.toNat].1.al ++ [(r[i]).na] }) hsr.2 (by have := hsr.1.1; omega) hop (by rw [hk]; decide) (by simp [editS, hk, h7])
                ⟨hst.na, by have := hst.al; simp; omega, fun a ha => by (simp only [List.mem_append, List.mem_singleton] at ha; rcases ha with ha | rfl; exact hst.ass a ha; exact na_len hc.uses (.inr hk)), hst.lo, hst.hi, hst.sh⟩ hx.cnt hx.ok
          · repeat (first | refine ACode.seq ?_ | (refine ACode.s_reg tys_ok ?_; conv => whnf) | refine ACode.s_block ?_ | refine ACode.s_scope ?_ | (refine ACode.s_cond ?_; conv => whnf) | (refine ACode.s_exit ?_; conv => whnf) | (refine ACode.s_ret ?_; conv => whnf) | (refine ACode.s_skip ?_; conv => whnf) | (refine ACode.s_label ?_; conv => whnf))
            refine ACode.draw [8] tys_ok (by kernel_rfl) (by kernel_rfl) ?_
            conv => whnf
            have hop := hc.opn.resolve_left (by rw [hk]; decide)
            have hsr := open_lt hop
            refine ⟨hsr.1, ?_⟩
            conv => whnf
            refine ⟨_, rows_get hsr.2, ?_⟩
            conv => whnf
            refine ACode.plainR 6 rfl (rows_setl L _ { L[(r[i]).sr.toNat].1 with op := false } _) ?_
            conv => whnf
            repeat (first | refine ACode.seq ?_ | (refine ACode.s_reg tys_ok ?_; conv => whnf) | refine ACode.s_block ?_ | refine ACode.s_scope ?_ | (refine ACode.s_cond ?_; conv => whnf) | (refine ACode.s_exit ?_; conv => whnf) | (refine ACode.s_ret ?_; conv => whnf) | (refine ACode.s_skip ?_; conv => whnf) | (refine ACode.s_label ?_; conv => whnf))
            refine ⟨⟨rfl, rfl⟩, ?_⟩
            conv => whnf
            repeat (first | refine ACode.seq ?_ | (refine ACode.s_reg tys_ok ?_; conv => whnf) | refine ACode.s_block ?_ | refine ACode.s_scope ?_ | (refine ACode.s_cond ?_; conv => whnf) | (refine ACode.s_exit ?_; conv => whnf) | (refine ACode.s_ret ?_; conv => whnf) | (refine ACode.s_skip ?_; conv => whnf) | (refine ACode.s_label ?_; conv => whnf))
            refine ⟨(L.set (r[i]).sr.toNat ({ L[(r[i]).sr.toNat].1 with op := false }, L[(r[i]).sr.toNat].2), (r[i]).sr, 0), ?_⟩
            conv => whnf
            repeat (refine And.intro ?_ ?_; (focus (first | rfl | (simp; done) | (first | exact congrArg (HO.arr 44 8) (rows_set L _ { L[(r[i]).sr.toNat].1 with op := false } L[(r[i]).sr.toNat].2) | exact congrArg (fun x => HO.inv (TokI 9 x)) (toks_set hsr.2 (by rfl)).symm; done))); conv => whnf)
            exact made_edit (s' := { L[(r[i]).sr.toNat].1 with op := false }) hsr.2 (by have := hsr.1.1; omega) hop (by rw [hk]; decide) (by simp [editS, hk]) (((hx.ok _ (List.getElem_mem hsr.2)).mono (Nat.le_succ i)).withOp _) hx.cnt hx.ok
        · repeat (first | refine ACode.seq ?_ | (refine ACode.s_reg tys_ok ?_; conv => whnf) | refine ACode.s_block ?_ | refine ACode.s_scope ?_ | (refine ACode.s_cond ?_; conv => whnf) | (refine ACode.s_exit ?_; conv => whnf) | (refine ACode.s_ret ?_; conv => whnf) | (refine ACode.s_skip ?_; conv => whnf) | (refine ACode.s_label ?_; conv => whnf))
          refine ⟨fun he => ?_, fun he => ?_⟩
          · have he : y.2.2 ≠ 0 := by simpa using he
            have hm : mkS (L.map Prod.fst) r[i] = .error y.2.2 := by
              rcases hy with hy | hy
              · exact absurd hy.1 he
              · exact hy.2
            conv => whnf
            repeat (first | refine ACode.seq ?_ | (refine ACode.s_reg tys_ok ?_; conv => whnf) | refine ACode.s_block ?_ | refine ACode.s_scope ?_ | (refine ACode.s_cond ?_; conv => whnf) | (refine ACode.s_exit ?_; conv => whnf) | (refine ACode.s_ret ?_; conv => whnf) | (refine ACode.s_skip ?_; conv => whnf) | (refine ACode.s_label ?_; conv => whnf))
            refine ACall.inline rfl rfl tys_ok rfl (fun us ms => ?_)
            conv => whnf
            repeat (first | refine ACode.seq ?_ | (refine ACode.s_reg tys_ok ?_; conv => whnf) | refine ACode.s_block ?_ | refine ACode.s_scope ?_ | (refine ACode.s_cond ?_; conv => whnf) | (refine ACode.s_exit ?_; conv => whnf) | (refine ACode.s_ret ?_; conv => whnf) | (refine ACode.s_skip ?_; conv => whnf) | (refine ACode.s_label ?_; conv => whnf))
            refine ⟨⟨rfl, rfl⟩, ?_⟩
            conv => whnf
            exact hP _ _ _ _ hi (by rw [hc.step, hm])
          · have he : y.2.2 = 0 := by simpa using he
            obtain ⟨-, m, hm, hlt, hmk, hl1, ok1⟩ : y.2.2 = 0 ∧ ∃ m : Nat, y.2.1 = m ∧ m < y.1.length ∧ mkS (L.map Prod.fst) r[i] = .ok (y.1.map Prod.fst, m) ∧ y.1.length ≤ i + 1 ∧ ∀ x ∈ y.1, StOK x.1 (i + 1) := by
              rcases hy with hy | hy
              · exact hy
              · exact absurd he hy.1
            have hi60 := hc.lt
            conv => whnf
            repeat (first | refine ACode.seq ?_ | (refine ACode.s_reg tys_ok ?_; conv => whnf) | refine ACode.s_block ?_ | refine ACode.s_scope ?_ | (refine ACode.s_cond ?_; conv => whnf) | (refine ACode.s_exit ?_; conv => whnf) | (refine ACode.s_ret ?_; conv => whnf) | (refine ACode.s_skip ?_; conv => whnf) | (refine ACode.s_label ?_; conv => whnf))
            refine ACall.of_tokP (e0 := 9) (ts := toksB y.1) (as' := [.at_ [sts (y.1.map Prod.fst)], .int .i64 (m : Int)]) rfl
              ⟨.inr ⟨5, _, _, rfl, rfl, rfl, ⟨.inr ⟨6, 8, _, rowsB y.1, _, by rw [rowsB_len], rfl, rfl, rows_view y.1⟩, trivial⟩⟩, .inl (by rw [hm]; exact vx_c rfl), trivial⟩
              (clashes_spec (y.1.map Prod.fst) m (by simpa using hlt) (by simp; omega) fun s hs => by
                obtain ⟨x, hx1, rfl⟩ := List.mem_map.1 hs
                have q := ok1 x hx1
                exact ⟨by have := q.al; omega, by have := q.na; omega, fun a ha => by have := q.ass a ha; omega⟩) rfl ?_
            conv => whnf
            repeat (first | refine ACode.seq ?_ | (refine ACode.s_reg tys_ok ?_; conv => whnf) | refine ACode.s_block ?_ | refine ACode.s_scope ?_ | (refine ACode.s_cond ?_; conv => whnf) | (refine ACode.s_exit ?_; conv => whnf) | (refine ACode.s_ret ?_; conv => whnf) | (refine ACode.s_skip ?_; conv => whnf) | (refine ACode.s_label ?_; conv => whnf))
            refine ⟨fun h9 => ?_, fun h9 => ?_⟩
            · conv => whnf
              repeat (first | refine ACode.seq ?_ | (refine ACode.s_reg tys_ok ?_; conv => whnf) | refine ACode.s_block ?_ | refine ACode.s_scope ?_ | (refine ACode.s_cond ?_; conv => whnf) | (refine ACode.s_exit ?_; conv => whnf) | (refine ACode.s_ret ?_; conv => whnf) | (refine ACode.s_skip ?_; conv => whnf) | (refine ACode.s_label ?_; conv => whnf))
              refine ACall.inline rfl rfl tys_ok rfl (fun us ms => ?_)
              conv => whnf
              repeat (first | refine ACode.seq ?_ | (refine ACode.s_reg tys_ok ?_; conv => whnf) | refine ACode.s_block ?_ | refine ACode.s_scope ?_ | (refine ACode.s_cond ?_; conv => whnf) | (refine ACode.s_exit ?_; conv => whnf) | (refine ACode.s_ret ?_; conv => whnf) | (refine ACode.s_skip ?_; conv => whnf) | (refine ACode.s_label ?_; conv => whnf))
              refine ⟨⟨rfl, rfl⟩, ?_⟩
              conv => whnf
              exact hP _ _ _ _ hi (by rw [hc.step, hmk]; simp only; rw [if_pos h9])
            · conv => whnf
              repeat (first | refine ACode.seq ?_ | (refine ACode.s_reg tys_ok ?_; conv => whnf) | refine ACode.s_block ?_ | refine ACode.s_scope ?_ | (refine ACode.s_cond ?_; conv => whnf) | (refine ACode.s_exit ?_; conv => whnf) | (refine ACode.s_ret ?_; conv => whnf) | (refine ACode.s_skip ?_; conv => whnf) | (refine ACode.s_label ?_; conv => whnf))
              rw [hK]
              refine ⟨(i + 1, y.1), ?_⟩
              clear hP hK
              conv => whnf
              repeat (refine And.intro ?_ ?_; (focus (first | rfl | (simp; done) | (first | (show Wr .i64 _ = _; rw [Wr64 _ (by omega) (by omega)]; rfl); done))); conv => whnf)
              refine ⟨⟨by simp only; omega, hl1, by simp only; omega, ok1, ?_⟩, by simp only; omega⟩
              rw [← hx.run, run_ok hi (show stepS (prevB r i) i (L.map Prod.fst) r[i] = .ok (y.1.map Prod.fst) by rw [hc.step, hmk]; simp only; rw [if_neg (by rw [h9]; simp)])]
              have hp : prevB r (i + 1) = some r[i].da := by unfold prevB; rw [if_neg (by omega), Nat.add_sub_cancel, List.getElem?_eq_getElem hi]; rfl
              rw [← hp]
    · have hi : i = r.length := by have := hx.le; simp at hi; omega
      repeat (first | refine ACode.seq ?_ | (refine ACode.s_reg tys_ok ?_; conv => whnf) | refine ACode.s_block ?_ | refine ACode.s_scope ?_ | (refine ACode.s_cond ?_; conv => whnf) | (refine ACode.s_exit ?_; conv => whnf) | (refine ACode.s_ret ?_; conv => whnf) | (refine ACode.s_skip ?_; conv => whnf) | (refine ACode.s_label ?_; conv => whnf))
      rw [hX]
      conv => whnf
      refine ACode.seal_ (l := 6) (rows' := (L.map Prod.fst).map St.v) rfl rfl (rows_view L) ?_
      conv => whnf
      clear hX hP hK
      refine ACode.freeze 6 ?_
      conv => whnf
      refine ⟨fun a ha => by obtain ⟨s, _, rfl⟩ := List.mem_map.1 ha; rfl, ?_⟩
      conv => whnf
      repeat (refine ⟨(by first | rfl | (simp; done) : (_ : Nat) = _), ?_⟩; conv => whnf)
      repeat (first | refine ACode.seq ?_ | (refine ACode.s_reg tys_ok ?_; conv => whnf) | refine ACode.s_block ?_ | refine ACode.s_scope ?_ | (refine ACode.s_cond ?_; conv => whnf) | (refine ACode.s_exit ?_; conv => whnf) | (refine ACode.s_ret ?_; conv => whnf) | (refine ACode.s_skip ?_; conv => whnf) | (refine ACode.s_label ?_; conv => whnf))
      refine ⟨⟨_, rfl⟩, finO r _ vs _ _ _ 0 (-1) ?_⟩
      rw [← hx.run, hi, List.drop_length]
      rfl
end Go.Proofs.YtkmhjamdgncpoaaDoor
