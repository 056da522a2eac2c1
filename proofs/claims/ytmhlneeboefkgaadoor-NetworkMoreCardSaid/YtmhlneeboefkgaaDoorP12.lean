import Derived.Test.YtmhlneeboefkgaaDoorP11
set_option linter.unusedVariables false
set_option linter.unusedSimpArgs false
namespace Go.Proofs.YtmhlneeboefkgaaDoor.Pl
open Go.Av Go.Av.Net
theorem kts_app (a b : List Tok) : kts (a ++ b) = kts a ++ kts b := by simp [kts]
theorem clsT_len {name : Bs} (hn : name.length ≤ 16) {a b : Nat} (ha : a < 65536) (hb : b < 65536) : (clsT name a b).length ≤ 70 := by
  have h1 := digN_len 7 a (by omega)
  have h2 := digN_len 7 b (by omega)
  simp [clsT, w_class, w_cut, w_deliver, s_lb, s_rb, s_semi]
  omega
/-- A further class at the end. -/
theorem more_parse {s name : Bs} {l : List Tok} {n : Nw} {a b : Nat} (hl : lexP s = .ok l) (hn : parseP s = .ok n) (h29 : l.length ≤ 2900) (hs : s.length ≤ 7900) (hnm : isNameB name = true) (hn16 : name.length ≤ 16) (ha : a < 65536) (hb : b < 65536) :
    parseP (s ++ 10 :: clsT name a b) = .ok { n with clss := n.clss ++ [⟨name, a, b⟩] } ∧ (s ++ 10 :: clsT name a b).length ≤ 8000 := by
  obtain ⟨h1, h2, h3⟩ := lexP_iff.1 hl
  have hc := clsT_len hn16 ha hb
  have hlen : (s ++ 10 :: clsT name a b).length ≤ 8000 := by simp only [List.length_append, List.length_cons]; omega
  obtain ⟨l2, q1, q2⟩ := cls_lex hnm ha hb (0 + s.length + 1)
  have hk2 : l2.length = 10 := by have := congrArg List.length q2; simpa [kts, clsK] using this
  have e : lexP (s ++ 10 :: clsT name a b) = .ok (l ++ l2) := lexP_iff.2 ⟨hlen, by simp only [List.length_append]; omega, h3.more q1⟩
  refine ⟨?_, hlen⟩
  unfold parseP at hn ⊢
  rw [hl] at hn
  rw [e]
  simp only at hn ⊢
  cases hq : netP (kts l) with
  | fail e i => rw [hq] at hn; cases hn
  | ok m i =>
    rw [hq] at hn
    cases hn
    obtain ⟨L', h4⟩ := net_more hq hnm a b
    rw [kts_app, q2, h4]
/-- A further operator at the beginning, where there are no calendars. -/
theorem front_parse {s name : Bs} {l : List Tok} {n : Nw} (hl : lexP s = .ok l) (hn : parseP s = .ok n) (h29 : l.length ≤ 2900) (hs : s.length ≤ 7900) (hnm : isNameB name = true) (hn16 : name.length ≤ 16) (hc : n.cals = []) :
    parseP (w_operator ++ 32 :: (name ++ (s_semi ++ s))) = .ok (addO name n) ∧ (w_operator ++ 32 :: (name ++ (s_semi ++ s))).length ≤ 8000 ∧ n.offs = [] ∧ n.lins = [] := by
  obtain ⟨h1, h2, h3⟩ := lexP_iff.1 hl
  have hlen : (w_operator ++ 32 :: (name ++ (s_semi ++ s))).length ≤ 8000 := by simp [w_operator, s_semi]; omega
  obtain ⟨l2, q1, q2⟩ := oper_lex hnm 0 (r := s) (l := l) fun q => by have := h3.shift q; simpa using this
  have hk2 : l2.length = l.length + 3 := by have := congrArg List.length q2; simp [kts] at this; omega
  have e : lexP (w_operator ++ 32 :: (name ++ (s_semi ++ s))) = .ok l2 := lexP_iff.2 ⟨hlen, by omega, q1⟩
  unfold parseP at hn ⊢
  rw [hl] at hn
  rw [e]
  simp only at hn ⊢
  cases hq : netP (kts l) with
  | fail e i => rw [hq] at hn; cases hn
  | ok m i =>
    rw [hq] at hn
    cases hn
    obtain ⟨L', h4, h5, h6⟩ := net_front hq hc hnm
    rw [q2, h4]
    exact ⟨rfl, hlen, h5, h6⟩
end Go.Proofs.YtmhlneeboefkgaaDoor.Pl
