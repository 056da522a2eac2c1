import Derived.Test.YtmhlneeboefkgaaGreatDoorN20
import Derived.Test.YtmhlneeboefkgaaGreatDoorL2
set_option linter.unusedVariables false
set_option linter.unusedSimpArgs false
namespace Go.Proofs.YtmhlneeboefkgaaGreatDoor
open Go.Av Go.Av.Net
section
variable {α : Type} {ts : List Tok} {len : Nat} {E : List AV} {H : List HO} {K : AV → KK} {X : XX}
/-- A call of a section of the parser. -/
theorem of_sec {g : Nat} (m : List Bool) {cs : List AV} {q : PR α} (fin : α → Nat → List AV) (hl : H[4]? = some (.cells cs)) (h9 : cs.length = 9) (hm : m.length = 9)
  (h : ∀ vs : List Value, vs.length = 9 → HCtr Tryz.prog g [.ptr 4 0] (oneK 4 (blend m cs vs)) (fun r H1 => ∃ a j, q = .ok a j ∧ j ≤ ts.length ∧ r = .tuple [] ∧ ∃ cs1, cs1.length = 9 ∧ back m cs1 cs = fin a j ∧ H1 = oneK 4 (blend m cs1 vs))
   (fun x H1 => ∃ e k cs1, q = .fail e k ∧ k ≤ ts.length ∧ x = failA ts len e k ∧ cs1.length = 9 ∧ H1 = oneK 4 (blend m cs1 vs)))
  (hwc : ∀ vs : List Value, vs.length = 9 → withins (oneK 4 (blend m cs vs)) (blend m cs vs) = true)
  (hk : ∀ a j, q = .ok a j → j ≤ ts.length → updK H 4 (.cells (fin a j)) fun H' => K (.tuple []) E H')
  (hX : ∀ e k cs', q = .fail e k → k ≤ ts.length → updK H 4 (.cells cs') fun H' => X (.panic (failA ts len e k)) E H') : ACall Tryz.prog g [.ptr 4 0] E H K X := by
 refine ACall.of_hr (l := 4) m
  (R := fun vs r H1 => ∃ a j, q = .ok a j ∧ j ≤ ts.length ∧ r = .tuple [] ∧ ∃ cs1, cs1.length = 9 ∧ back m cs1 cs = fin a j ∧ H1 = oneK 4 (blend m cs1 vs))
  (X' := fun vs x H1 => ∃ e k cs1, q = .fail e k ∧ k ≤ ts.length ∧ x = failA ts len e k ∧ cs1.length = 9 ∧ H1 = oneK 4 (blend m cs1 vs)) hl (by rw [h9, hm]) (fun vs hvs => h vs (by rw [hvs, h9])) (fun _ => rfl) (fun vs hvs => hwc vs (by rw [hvs, h9])) ?_ ?_
 ·rintro vs r H1 hvs ⟨a, j, q1, q2, rfl, cs1, q3, q4, rfl⟩
  exact ⟨cs1, rfl, by rw [q3, h9], by rw [q4]; exact hk a j q1 q2⟩
 ·rintro vs r H1 hvs ⟨e, k, cs1, q1, q2, rfl, q3, rfl⟩
  exact ⟨cs1, rfl, by rw [q3, h9], hX e k _ q1 q2⟩
theorem nine (vs : List Value) (hvs : vs.length = 9) : ∃ x y z, ∃ v : V6, vs = [x, y, z, v.a, v.b, v.c, v.d, v.e, v.f] := by
 match vs, hvs with
 | [x, y, z, a, b, c, d, e, f], _ => exact ⟨x, y, z, ⟨a, b, c, d, e, f⟩, rfl⟩
variable {i : Nat} {n : Nw} (ht : TsOK ts) (hi : i ≤ ts.length) {A B C D E' F : AV}
include ht hi
theorem _root_.Go.Av.ACall.of_calendars (hn : n.cals = []) (hn2 : n.names = []) (hl : H[4]? = some (.cells [.sl 3 (toksA ts), .int .i64 i, .int .i64 len, nilA, nilA, C, D, E', F]))
  (hk : ∀ n' (j : Nat), calsP (kts ts) ts.length n i = .ok n' j → j ≤ ts.length → updK H 4 (.cells [.sl 3 (toksA ts), .int .i64 j, .int .i64 len, .sl 3 (n'.cals.map calA), .sl 1 (strs n'.names), C, D, E', F]) fun H' => K (.tuple []) E H')
  (hX : ∀ e k cs', calsP (kts ts) ts.length n i = .fail e k → k ≤ ts.length → updK H 4 (.cells cs') fun H' => X (.panic (failA ts len e k)) E H') : ACall Tryz.prog 12 [.ptr 4 0] E H K X := by
 refine of_sec [false, false, false, false, false, true, true, true, true] (fun n' (j : Nat) => [.sl 3 (toksA ts), .int .i64 j, .int .i64 len, .sl 3 (n'.cals.map calA), .sl 1 (strs n'.names), C, D, E', F]) hl rfl rfl (fun vs hvs => ?_) (fun vs hvs => ?_) hk hX
 ·obtain ⟨x, y, z, v, rfl⟩ := nine vs hvs
  exact (calendars_m ts len i n v ht hi hn hn2).mono' (fun r H1 ⟨n', j, q1, q2, q3, q4⟩ => ⟨n', j, q1, q2, q3, [.sl 3 (toksA ts), .int .i64 j, .int .i64 len, .sl 3 (n'.cals.map calA), .sl 1 (strs n'.names), C, D, E', F], rfl, rfl, q4⟩)
   (fun x H1 ⟨e, k, j, l, l2, q1, q2, q3, q4⟩ => ⟨e, k, [.sl 3 (toksA ts), .int .i64 j, .int .i64 len, l, l2, C, D, E', F], q1, q2, q3, rfl, q4⟩)
 ·obtain ⟨x, y, z, v, rfl⟩ := nine vs hvs; rfl
theorem _root_.Go.Av.ACall.of_operators (hn : n.opers = []) (hl : H[4]? = some (.cells [.sl 3 (toksA ts), .int .i64 i, .int .i64 len, A, B, nilA, D, E', F]))
  (hk : ∀ n' (j : Nat), opersP (kts ts) ts.length n i = .ok n' j → j ≤ ts.length → updK H 4 (.cells [.sl 3 (toksA ts), .int .i64 j, .int .i64 len, A, B, .sl 1 (n'.opers.map operA), D, E', F]) fun H' => K (.tuple []) E H')
  (hX : ∀ e k cs', opersP (kts ts) ts.length n i = .fail e k → k ≤ ts.length → updK H 4 (.cells cs') fun H' => X (.panic (failA ts len e k)) E H') : ACall Tryz.prog 13 [.ptr 4 0] E H K X := by
 refine of_sec [false, false, false, true, true, false, true, true, true] (fun n' (j : Nat) => [.sl 3 (toksA ts), .int .i64 j, .int .i64 len, A, B, .sl 1 (n'.opers.map operA), D, E', F]) hl rfl rfl (fun vs hvs => ?_) (fun vs hvs => ?_) hk hX
 ·obtain ⟨x, y, z, v, rfl⟩ := nine vs hvs
  exact (operators_m ts len i n v ht hi hn).mono' (fun r H1 ⟨n', j, q1, q2, q3, q4⟩ => ⟨n', j, q1, q2, q3, [.sl 3 (toksA ts), .int .i64 j, .int .i64 len, A, B, .sl 1 (n'.opers.map operA), D, E', F], rfl, rfl, q4⟩)
   (fun x H1 ⟨e, k, j, l, q1, q2, q3, q4⟩ => ⟨e, k, [.sl 3 (toksA ts), .int .i64 j, .int .i64 len, A, B, l, D, E', F], q1, q2, q3, rfl, q4⟩)
 ·obtain ⟨x, y, z, v, rfl⟩ := nine vs hvs; rfl
theorem _root_.Go.Av.ACall.of_offices (hn : n.offs = []) (hno : n.opers.length ≤ 3000) (hnn : n.names.length ≤ 3000) (hl : H[4]? = some (.cells [.sl 3 (toksA ts), .int .i64 i, .int .i64 len, A, .sl 1 (strs n.names), .sl 1 (n.opers.map operA), nilA, E', F]))
  (hk : ∀ n' (j : Nat), offsP (kts ts) ts.length n i = .ok n' j → j ≤ ts.length → updK H 4 (.cells [.sl 3 (toksA ts), .int .i64 j, .int .i64 len, A, .sl 1 (strs n.names), .sl 1 (n.opers.map operA), .sl 7 (n'.offs.map offA), E', F]) fun H' => K (.tuple []) E H')
  (hX : ∀ e k cs', offsP (kts ts) ts.length n i = .fail e k → k ≤ ts.length → updK H 4 (.cells cs') fun H' => X (.panic (failA ts len e k)) E H') : ACall Tryz.prog 14 [.ptr 4 0] E H K X := by
 refine of_sec [false, false, false, true, false, false, false, true, true] (fun n' (j : Nat) => [.sl 3 (toksA ts), .int .i64 j, .int .i64 len, A, .sl 1 (strs n.names), .sl 1 (n.opers.map operA), .sl 7 (n'.offs.map offA), E', F]) hl rfl rfl (fun vs hvs => ?_) (fun vs hvs => ?_) hk hX
 ·obtain ⟨x, y, z, v, rfl⟩ := nine vs hvs
  exact (offices_m ts len i n v ht hi hn hno hnn).mono' (fun r H1 ⟨n', j, q1, q2, q3, q4⟩ => ⟨n', j, q1, q2, q3, [.sl 3 (toksA ts), .int .i64 j, .int .i64 len, A, .sl 1 (strs n.names), .sl 1 (n.opers.map operA), .sl 7 (n'.offs.map offA), E', F], rfl, rfl, q4⟩)
   (fun x H1 ⟨e, k, j, l, q1, q2, q3, q4⟩ => ⟨e, k, [.sl 3 (toksA ts), .int .i64 j, .int .i64 len, A, .sl 1 (strs n.names), .sl 1 (n.opers.map operA), l, E', F], q1, q2, q3, rfl, q4⟩)
 ·obtain ⟨x, y, z, v, rfl⟩ := nine vs hvs; rfl
theorem _root_.Go.Av.ACall.of_lines (hn : n.lins = []) (ho : n.offs.length ≤ 3000) (hl : H[4]? = some (.cells [.sl 3 (toksA ts), .int .i64 i, .int .i64 len, A, B, C, .sl 7 (n.offs.map offA), nilA, F]))
  (hk : ∀ n' (j : Nat), linsP (kts ts) ts.length n i = .ok n' j → j ≤ ts.length → updK H 4 (.cells [.sl 3 (toksA ts), .int .i64 j, .int .i64 len, A, B, C, .sl 7 (n.offs.map offA), .sl 6 (n'.lins.map linA), F]) fun H' => K (.tuple []) E H')
  (hX : ∀ e k cs', linsP (kts ts) ts.length n i = .fail e k → k ≤ ts.length → updK H 4 (.cells cs') fun H' => X (.panic (failA ts len e k)) E H') : ACall Tryz.prog 15 [.ptr 4 0] E H K X := by
 refine of_sec [false, false, false, true, true, true, false, false, true] (fun n' (j : Nat) => [.sl 3 (toksA ts), .int .i64 j, .int .i64 len, A, B, C, .sl 7 (n.offs.map offA), .sl 6 (n'.lins.map linA), F]) hl rfl rfl (fun vs hvs => ?_) (fun vs hvs => ?_) hk hX
 ·obtain ⟨x, y, z, v, rfl⟩ := nine vs hvs
  exact (lines_m ts len i n v ht hi hn ho).mono' (fun r H1 ⟨n', j, q1, q2, q3, q4⟩ => ⟨n', j, q1, q2, q3, [.sl 3 (toksA ts), .int .i64 j, .int .i64 len, A, B, C, .sl 7 (n.offs.map offA), .sl 6 (n'.lins.map linA), F], rfl, rfl, q4⟩)
   (fun x H1 ⟨e, k, j, l, q1, q2, q3, q4⟩ => ⟨e, k, [.sl 3 (toksA ts), .int .i64 j, .int .i64 len, A, B, C, .sl 7 (n.offs.map offA), l, F], q1, q2, q3, rfl, q4⟩)
 ·obtain ⟨x, y, z, v, rfl⟩ := nine vs hvs; rfl
theorem _root_.Go.Av.ACall.of_classes (hn : n.clss = []) (hl : H[4]? = some (.cells [.sl 3 (toksA ts), .int .i64 i, .int .i64 len, A, B, C, D, E', nilA]))
  (hk : ∀ n' (j : Nat), clssP (kts ts) ts.length n i = .ok n' j → j ≤ ts.length → updK H 4 (.cells [.sl 3 (toksA ts), .int .i64 j, .int .i64 len, A, B, C, D, E', .sl 3 (n'.clss.map clsA)]) fun H' => K (.tuple []) E H')
  (hX : ∀ e k cs', clssP (kts ts) ts.length n i = .fail e k → k ≤ ts.length → updK H 4 (.cells cs') fun H' => X (.panic (failA ts len e k)) E H') : ACall Tryz.prog 16 [.ptr 4 0] E H K X := by
 refine of_sec [false, false, false, true, true, true, true, true, false] (fun n' (j : Nat) => [.sl 3 (toksA ts), .int .i64 j, .int .i64 len, A, B, C, D, E', .sl 3 (n'.clss.map clsA)]) hl rfl rfl (fun vs hvs => ?_) (fun vs hvs => ?_) hk hX
 ·obtain ⟨x, y, z, v, rfl⟩ := nine vs hvs
  exact (classes_m ts len i n v ht hi hn).mono' (fun r H1 ⟨n', j, q1, q2, q3, q4⟩ => ⟨n', j, q1, q2, q3, [.sl 3 (toksA ts), .int .i64 j, .int .i64 len, A, B, C, D, E', .sl 3 (n'.clss.map clsA)], rfl, rfl, q4⟩)
   (fun x H1 ⟨e, k, j, l, q1, q2, q3, q4⟩ => ⟨e, k, [.sl 3 (toksA ts), .int .i64 j, .int .i64 len, A, B, C, D, E', l], q1, q2, q3, rfl, q4⟩)
 ·obtain ⟨x, y, z, v, rfl⟩ := nine vs hvs; rfl
end
/-! ### How far a parser comes -/
def Ge {α : Type} (p : PR α) (i : Nat) : Prop := match p with | .ok _ j => i ≤ j | .fail _ _ => True
theorem Ge.bind {α β : Type} {p : PR α} {f : α → Nat → PR β} {i : Nat} (h : Ge p i) (hf : ∀ a j, Ge (f a j) j) : Ge (p.bind f) i := by
 cases p with
 | ok a j =>
  have := hf a j
  unfold Ge at h this ⊢
  simp only [PR.ok_bind]
  cases hh : f a j with
  | ok b k => rw [hh] at this; simp only at this ⊢; omega
  | fail e k => trivial
 | fail e k => trivial
section
variable {ts : List KT}
theorem ge_expect (k : Int) (x : Bs) (i : Nat) : Ge (expectP ts k x i) i := by
 cases h : expectP ts k x i with
 | ok a j => have := expect_j h; simp only [Ge]; omega
 | fail e k => trivial
theorem ge_expect1 (k : Int) (x : Bs) (i : Nat) : Ge (expectP ts k x i) (i + 1) := by
 cases h : expectP ts k x i with
 | ok a j => have := expect_j h; simp only [Ge]; omega
 | fail e k => trivial
theorem ge_name (i : Nat) : Ge (nameP ts i) i := by
 cases h : nameP ts i with
 | ok a j => have := name_j h; simp only [Ge]; omega
 | fail e k => trivial
theorem ge_number (i : Nat) : Ge (numberP ts i) i := by
 cases h : numberP ts i with
 | ok a j => have := number_j h; simp only [Ge]; omega
 | fail e k => trivial
theorem ge_int (i : Nat) : Ge (intP ts i) i := by
 cases h : intP ts i with
 | ok a j => have := int_j h; simp only [Ge]; omega
 | fail e k => trivial
theorem ge_week (i : Nat) : Ge (weekP ts i) i := by
 cases h : weekP ts i with
 | ok a j => have := week_j h; simp only [Ge]; omega
 | fail e k => trivial
theorem ge_code (i : Nat) : Ge (codeP ts i) i := by
 cases h : codeP ts i with
 | ok a j => have := code_j h; simp only [Ge]; omega
 | fail e k => trivial
theorem ge_field (w : Bs) (i : Nat) : Ge (fieldP ts w i) i := by
 cases h : fieldP ts w i with
 | ok a j => have := field_lt h; simp only [Ge]; omega
 | fail e k => trivial
theorem ge_ref (l : List Bs) (i : Nat) : Ge (refP ts l i) i := by
 cases h : refP ts l i with
 | ok a j => have := ref_j h; simp only [Ge]; omega
 | fail e k => trivial
theorem ge_ok {α : Type} (a : α) (i : Nat) : Ge (PR.ok a i) i := Nat.le_refl _
theorem ge_hols : ∀ (f i : Nat), Ge (holsP ts f i) i
 | 0, i => ge_ok _ _
 | f + 1, i => by
  unfold holsP
  cases seesP ts 1 w_holiday i with
  | true => exact (ge_expect 1 w_holiday i).bind fun _ i => (ge_int i).bind fun _ i => (ge_expect 3 s_semi i).bind fun _ i => (ge_hols f i).bind fun _ i => ge_ok _ _
  | false => exact ge_ok _ _
theorem ge_codes : ∀ (f i : Nat), Ge (codesP ts f i) i
 | 0, i => ge_ok _ _
 | f + 1, i => by
  unfold codesP
  cases seesP ts 3 s_semi i with
  | true => exact ge_ok _ _
  | false => exact (ge_code i).bind fun _ i => (ge_codes f i).bind fun _ i => ge_ok _ _
theorem ge_codesAll (i : Nat) : Ge (codesAllP ts i) i := by
 unfold codesAllP
 cases seesP ts 1 w_codes i with
 | true => exact (ge_expect 1 w_codes i).bind fun _ i => (ge_code i).bind fun _ i => (ge_codes _ i).bind fun _ i => (ge_expect 3 s_semi i).bind fun _ i => ge_ok _ _
 | false => exact ge_ok _ _
theorem ge_cal (i : Nat) : Ge (calP ts i) (i + 1) := by
 unfold calP
 exact (ge_expect1 1 w_calendar i).bind fun _ i => (ge_name i).bind fun _ i => (ge_expect 3 s_lb i).bind fun _ i => (ge_expect 1 w_zone i).bind fun _ i => (ge_int i).bind fun _ i => (ge_expect 3 s_semi i).bind fun _ i =>
  (ge_expect 1 w_week i).bind fun _ i => (ge_week i).bind fun _ i => (ge_expect 3 s_semi i).bind fun _ i => (ge_hols _ i).bind fun _ i => (ge_expect 3 s_rb i).bind fun _ i => ge_ok _ _
theorem ge_oper (i : Nat) : Ge (operP ts i) (i + 1) := by
 unfold operP
 exact (ge_expect1 1 w_operator i).bind fun _ i => (ge_name i).bind fun _ i => (ge_expect 3 s_semi i).bind fun _ i => ge_ok _ _
theorem ge_off (n : Nw) (i : Nat) : Ge (offP ts n i) (i + 1) := by
 unfold offP
 exact (ge_expect1 1 w_office i).bind fun _ i => (ge_name i).bind fun _ i => (ge_expect 3 s_lb i).bind fun _ i => (ge_expect 1 w_operator i).bind fun _ i => (ge_ref _ i).bind fun _ i => (ge_expect 3 s_semi i).bind fun _ i => (ge_expect 1 w_calendar i).bind fun _ i => (ge_ref _ i).bind fun _ i => (ge_expect 3 s_semi i).bind fun _ i =>
  (ge_field w_pockets i).bind fun _ i => (ge_field w_passes i).bind fun _ i => (ge_field w_minutes i).bind fun _ i => (ge_codesAll i).bind fun _ i => (ge_expect 3 s_rb i).bind fun _ i => ge_ok _ _
end
/-- Lists that grow by tokens read: no longer than the tokens. -/
theorem cals_len {ts : List KT} : ∀ (f : Nat) (n : Nw) (i : Nat) {n' : Nw} {j : Nat}, calsP ts f n i = .ok n' j → i ≤ j ∧ n'.names.length + i ≤ n.names.length + j ∧ n'.opers = n.opers ∧ n'.offs = n.offs ∧ n'.lins = n.lins ∧ n'.clss = n.clss
 | 0, n, i, n', j, h => by cases h; simp
 | f + 1, n, i, n', j, h => by
  unfold calsP at h
  cases hs : seesP ts 1 w_calendar i with
  | false => rw [hs] at h; cases h; simp
  | true =>
   rw [hs, cond_true] at h
   have hg := ge_cal (ts := ts) i
   cases hc : calP ts i with
   | fail e k => rw [hc] at h; cases h
   | ok c i1 =>
    rw [hc] at h hg
    have := cals_len f _ _ h
    simp only [Ge, List.length_append, List.length_singleton] at hg this
    refine ⟨by omega, by omega, this.2.2⟩
theorem opers_len {ts : List KT} : ∀ (f : Nat) (n : Nw) (i : Nat) {n' : Nw} {j : Nat}, opersP ts f n i = .ok n' j → i ≤ j ∧ n'.opers.length + i ≤ n.opers.length + j ∧ n'.cals = n.cals ∧ n'.names = n.names ∧ n'.offs = n.offs ∧ n'.lins = n.lins ∧ n'.clss = n.clss
 | 0, n, i, n', j, h => by cases h; simp
 | f + 1, n, i, n', j, h => by
  unfold opersP at h
  cases hs : seesP ts 1 w_operator i with
  | false => rw [hs] at h; cases h; simp
  | true =>
   rw [hs, cond_true] at h
   have hg := ge_oper (ts := ts) i
   cases hc : operP ts i with
   | fail e k => rw [hc] at h; cases h
   | ok c i1 =>
    rw [hc] at h hg
    have := opers_len f _ _ h
    simp only [Ge, List.length_append, List.length_singleton] at hg this
    refine ⟨by omega, by omega, this.2.2⟩
theorem offs_len {ts : List KT} : ∀ (f : Nat) (n : Nw) (i : Nat) {n' : Nw} {j : Nat}, offsP ts f n i = .ok n' j → i ≤ j ∧ n'.offs.length + i ≤ n.offs.length + j ∧ n'.cals = n.cals ∧ n'.names = n.names ∧ n'.opers = n.opers ∧ n'.lins = n.lins ∧ n'.clss = n.clss
 | 0, n, i, n', j, h => by cases h; simp
 | f + 1, n, i, n', j, h => by
  unfold offsP at h
  cases hs : seesP ts 1 w_office i with
  | false => rw [hs] at h; cases h; simp
  | true =>
   rw [hs, cond_true] at h
   have hg := ge_off (ts := ts) n i
   cases hc : offP ts n i with
   | fail e k => rw [hc] at h; cases h
   | ok c i1 =>
    rw [hc] at h hg
    have := offs_len f _ _ h
    simp only [Ge, List.length_append, List.length_singleton] at hg this
    refine ⟨by omega, by omega, this.2.2⟩
theorem lins_len {ts : List KT} : ∀ (f : Nat) (n : Nw) (i : Nat) {n' : Nw} {j : Nat}, linsP ts f n i = .ok n' j → n'.cals = n.cals ∧ n'.names = n.names ∧ n'.opers = n.opers ∧ n'.offs = n.offs ∧ n'.clss = n.clss
 | 0, n, i, n', j, h => by cases h; simp
 | f + 1, n, i, n', j, h => by
  unfold linsP at h
  cases hs : seesP ts 1 w_line i with
  | false => rw [hs] at h; cases h; simp
  | true =>
   rw [hs, cond_true] at h
   cases hc : linP ts n i with
   | fail e k => rw [hc] at h; cases h
   | ok c i1 => rw [hc, PR.ok_bind] at h; have := lins_len f _ _ h; exact this
theorem clss_len {ts : List KT} : ∀ (f : Nat) (n : Nw) (i : Nat) {n' : Nw} {j : Nat}, clssP ts f n i = .ok n' j → n'.cals = n.cals ∧ n'.names = n.names ∧ n'.opers = n.opers ∧ n'.offs = n.offs ∧ n'.lins = n.lins
 | 0, n, i, n', j, h => by cases h; simp
 | f + 1, n, i, n', j, h => by
  unfold clssP at h
  cases hs : seesP ts 1 w_class i with
  | false => rw [hs] at h; cases h; simp
  | true =>
   rw [hs, cond_true] at h
   cases hc : clsP ts i with
   | fail e k => rw [hc] at h; cases h
   | ok c i1 => rw [hc, PR.ok_bind] at h; have := clss_len f _ _ h; exact this
end Go.Proofs.YtmhlneeboefkgaaGreatDoor
