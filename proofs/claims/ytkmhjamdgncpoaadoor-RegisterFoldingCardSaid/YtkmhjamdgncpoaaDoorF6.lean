/-
  build: its ends.
-/
import Derived.Test.YtkmhjamdgncpoaaDoorF5
set_option linter.unusedVariables false
set_option linter.unusedSimpArgs false
namespace Go.Proofs.YtkmhjamdgncpoaaDoor
open Go.Av Go.Shelf Pl Go.RowKit
def toksB (L : List (St × Sv)) : Tok := L.map fun x => (x.2, x.1.al)
def rowsB (L : List (St × Sv)) : List AV := L.map fun x => x.1.r x.2
def cellsB (vs : List Value) (L : List (St × Sv)) : List HO :=
  [.inv (TokI 9 (toksB L)), .cells [nilA], .cells [.int .i64 0], .cells [.int .i64 0], .ghost [.ptr 1 0, .ptr 2 0, .ptr 3 0] vs [], .cells [.own 6 8 0 L.length], .arr 44 8 (rowsB L)]
theorem abs_ {P : Program} {c : Code} {E : List AV} {H : List HO} {K : KK} {X : XX} (h : ∀ K' X', K' = K → X' = X → ACode P c E H K' X') : ACode P c E H K X := h K X rfl rfl
theorem rowsB_closed (L : List (St × Sv)) : ∀ a ∈ rowsB L, closed a = true := by
  intro a ha
  obtain ⟨x, _, rfl⟩ := List.mem_map.1 ha
  rfl
structure StOK (s : St) (n : Nat) : Prop where
  na : s.na.length ≤ 84
  al : s.al.length ≤ n
  ass : ∀ a ∈ s.al, a.length ≤ 84
  lo : 1 ≤ s.lo ∧ s.lo ≤ 9999
  hi : 1 ≤ s.hi ∧ s.hi ≤ 9999
  sh : 1 ≤ s.lo - s.sh ∧ s.lo - s.sh ≤ 9999
def prevB (r : List Ch) (i : Nat) : Option Int := if i = 0 then none else (r[i - 1]?).map Ch.da
structure BInv (r : List Ch) (i : Nat) (L : List (St × Sv)) : Prop where
  le : i ≤ r.length
  cnt : L.length ≤ i
  m : L.length ≤ 60
  ok : ∀ x ∈ L, StOK x.1 i
  run : runS (r.drop i) i (prevB r i) (L.map Prod.fst) = buildS r
def resB (x : List St × Int × Int) : AV := .tuple [sts x.1, .int .i64 x.2.1, .int .i64 x.2.2]
set_option maxRecDepth 100000 in
theorem finP (r : List Ch) (R : AV → Prop) (vs : List Value) (o : HO) {E : List AV} (rest : List HO) (e p : Int) (hR : R (.tuple [.sl 8 [], .int .i64 e, .int .i64 p])) :
    endD Tryd.prog tys Tryd.f23.results.toList R 29 4 (some (.iface 66 (.agg [.int .i64 e, .int .i64 p]))) (chs r :: .any :: .ptr 1 0 :: .ptr 2 0 :: .ptr 3 0 :: E) (o :: .cells [nilA] :: .cells [.int .i64 0] :: .cells [.int .i64 0] :: .ghost [.ptr 1 0, .ptr 2 0, .ptr 3 0] vs [] :: rest) := by
  unfold endD
  refine (lkK_iff _ _ _).2 ⟨.ghost [.ptr 1 0, .ptr 2 0, .ptr 3 0] vs [], rfl, ?_⟩
  refine DCall.of_d (build1_some 0 0 e p) rfl rfl ⟨rfl, rfl, rfl, rfl, rfl, rfl, trivial⟩ ?_
  rintro H1 rfl
  rw [scrK_iff, scrs_id (rh_arr _ _ _)]
  show mergeK (RH nilA 0 0) [.dead, .cells [nilA], .cells [.int .i64 0], .cells [.int .i64 0]] [.dead, .cells [nilA], .cells [.int .i64 e], .cells [.int .i64 p]] (o :: .cells [nilA] :: .cells [.int .i64 0] :: .cells [.int .i64 0] :: .ghost [.ptr 1 0, .ptr 2 0, .ptr 3 0] vs [] :: rest) _
  rw [merge3]
  generalize List.map (scrH (RH nilA 0 0)) (HO.ghost [.ptr 1 0, .ptr 2 0, .ptr 3 0] vs [] :: rest) = r2
  conv => whnf
  refine ⟨8, ?_⟩
  conv => whnf
  exact hR
set_option maxRecDepth 100000 in
theorem finO (r : List Ch) (R : AV → Prop) (vs : List Value) (o : HO) {E : List AV} (rest : List HO) (l : List AV) (e p : Int) (hR : R (.tuple [.sl 8 l, .int .i64 e, .int .i64 p])) :
    endD Tryd.prog tys Tryd.f23.results.toList R 29 4 none (chs r :: .any :: .ptr 1 0 :: .ptr 2 0 :: .ptr 3 0 :: E) (o :: .cells [.sl 8 l] :: .cells [.int .i64 e] :: .cells [.int .i64 p] :: .ghost [.ptr 1 0, .ptr 2 0, .ptr 3 0] vs [] :: rest) := by
  unfold endD
  refine (lkK_iff _ _ _).2 ⟨.ghost [.ptr 1 0, .ptr 2 0, .ptr 3 0] vs [], rfl, ?_⟩
  refine DCall.of_d (build1_none e p l) rfl rfl ⟨rfl, rfl, rfl, rfl, rfl, rfl, trivial⟩ ?_
  rintro H1 rfl
  rw [scrK_iff, scrs_id (rh_arr _ _ _)]
  show mergeK (RH (.sl 8 l) e p) [.dead, .cells [.sl 8 l], .cells [.int .i64 e], .cells [.int .i64 p]] [.dead, .cells [.sl 8 l], .cells [.int .i64 e], .cells [.int .i64 p]] (o :: .cells [.sl 8 l] :: .cells [.int .i64 e] :: .cells [.int .i64 p] :: .ghost [.ptr 1 0, .ptr 2 0, .ptr 3 0] vs [] :: rest) _
  rw [merge3]
  generalize List.map _ (HO.ghost [.ptr 1 0, .ptr 2 0, .ptr 3 0] vs [] :: rest) = r2
  conv => whnf
  exact hR
end Go.Proofs.YtkmhjamdgncpoaaDoor
