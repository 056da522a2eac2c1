import Derived.Test.YtmhlneeboefkgaaGreatDoorR5
import Derived.Test.YtmhlneeboefkgaaGreatDoorPa
set_option linter.unusedVariables false
set_option linter.unusedSimpArgs false
namespace Go.Proofs.YtmhlneeboefkgaaGreatDoor
open Go.Av Go.Av.Net Pl
theorem parse_sml {s : Bs} {n : Nw} (h : parseP s = .ok n) : Sml n ∧ szN n ≤ 3000 := by
 have hp := parse_post s
 rw [h] at hp
 unfold parseP at h
 cases hl : lexP s with
 | err e p => rw [hl] at h; cases h
 | ok l =>
  rw [hl] at h
  simp only at h
  have h3 := (lexP_iff.1 hl).2.1
  have hk : (kts l).length = l.length := by simp [kts]
  cases hq : netP (kts l) with
  | fail e i => rw [hq] at h; cases h
  | ok m i =>
   rw [hq] at h
   cases h
   obtain ⟨s1, s2⟩ := net_small hq
   have h0 := hp.1.names.1
   unfold szN at s1 ⊢
   exact ⟨⟨by omega, by omega, by omega, by omega, by omega, by omega, fun c hc => ⟨by rw [(hp.1.cals c hc).week]; omega, by have := s2.hols c hc; omega⟩, fun o ho => by have := s2.codes o ho; omega⟩, by omega⟩
theorem name_len {s : Bs} (h : isNameB s = true) : s.length ≤ 16 := by
 rw [isNameB_eq] at h
 simp only [Bool.and_eq_true, decide_eq_true_eq] at h
 exact h.1.1.1.2
theorem code_len {s : Bs} (h : isCodeB s = true) : s.length ≤ 8 := by
 rw [codeB_eq] at h
 simp only [Bool.and_eq_true, decide_eq_true_eq] at h
 exact h.1.2
end Go.Proofs.YtmhlneeboefkgaaGreatDoor
