import Derived.Test.YtmhlneeboefkgaaGreatDoorN5
set_option linter.unusedVariables false
set_option linter.unusedSimpArgs false
namespace Go.Proofs.YtmhlneeboefkgaaGreatDoor
open Go.Av Go.Av.Net
def tokA (t : Tok) : AV := .agg [.int .i64 t.kind, .str t.text, .int .i64 t.pos]
def toksA (l : List Tok) : List AV := l.map tokA
set_option maxRecDepth 20000 in
theorem token_spec (n : Int) (s : Bs) (p : Nat) (hs : s.length ≤ 8000) (h4 : n = 4 → 2 ≤ s.length) : Ctr Tryz.prog 35 [.int .i64 n, .str s, .int .i64 p] (fun r => r = tokA ⟨n, bif decide (n = 4) then (s.take (s.length - 1)).drop 1 else s, p⟩) := by
 refine Ctr.of_body Tryz.func35 rfl tys_ok (by kernel_rfl) ?_
 conv => whnf
 refine cd_sound tys_ok _ ?_
 conv => whnf
 refine ⟨fun h => ?_, fun h => ?_⟩
 ·have h : n = 4 := by simpa using h
  have h2 := h4 h
  conv => whnf
  refine ⟨⟨by omega, by rw [Wr64 _ (by omega) (by omega)]; omega, by rw [Wr64 _ (by omega) (by omega)]; omega⟩, ?_⟩
  conv => whnf
  rw [Wr64 _ (by omega) (by omega)]
  rw [decide_eq_true h, cond_true]
  have e : ((s.length : Int) - 1).toNat = s.length - 1 := by omega
  rw [e]
  rfl
 ·have h : ¬ n = 4 := by simpa using h
  conv => whnf
  rw [decide_eq_false h, cond_false]
  rfl
def resLx : Lx → AV
 | .ok l => .tuple [.sl 3 (toksA l), .int .i64 0, .int .i64 (-1)]
 | .err e p => .tuple [.sl 3 [], .int .i64 e, .int .i64 p]
@[simp] theorem toksA_length (l : List Tok) : (toksA l).length = l.length := by simp [toksA]
def kindsA : List AV := [.agg [.int .i64 2, .fn 30 []], .agg [.int .i64 1, .fn 31 []], .agg [.int .i64 4, .fn 32 []], .agg [.int .i64 3, .fn 33 []]]
def Lx.app (l : List Tok) : Lx → Lx
 | .ok r => .ok (l ++ r)
 | .err e p => .err e p
theorem app_cons (l : List Tok) (t : Tok) (x : Lx) : Lx.app l (x.cons t) = Lx.app (l ++ [t]) x := by
 cases x <;> simp [Lx.app, Lx.cons]
theorem closed_toks (l : List Tok) : ∀ e ∈ toksA l, closed e = true := by
 intro e he
 obtain ⟨t, _, rfl⟩ := List.mem_map.1 he
 rfl
theorem gap_le : ∀ (b : Bool) (s : Bs), gap b s ≤ s.length
 | _, [] => by simp [gap]
 | false, b :: r => by
  have h1 := gap_le false r
  have h2 := gap_le true r
  unfold gap
  cases blankB b <;> simp
  ·cases decide (b.toNat = 37) <;> simp <;> omega
  ·omega
 | true, b :: r => by
  have h1 := gap_le false r
  have h2 := gap_le true r
  unfold gap
  cases decide (b.toNat = 10) <;> simp <;> omega
theorem nameLen_le (s : Bs) : nameLen s ≤ s.length := by
 have hb := (runP_le s).1
 rw [nameLen_if]; split <;> omega
theorem txt_le : ∀ (f i : Nat) (r : Bs), txt f i r ≤ i + r.length ∧ (0 < txt f i r → i + 1 ≤ txt f i r)
 | 0, i, r => by simp [txt]
 | f + 1, i, [] => by simp [txt]
 | f + 1, i, b :: r => by
  have h := txt_le f (i + 1) r
  unfold txt
  by_cases h1 : b.toNat = 34
  ·rw [decide_eq_true h1, cond_true]; simp only [List.length_cons]; omega
  ·rw [decide_eq_false h1, cond_false]
   cases (decide (b.toNat < 32) || decide (126 < b.toNat))
   ·simp only [cond_false, List.length_cons]; omega
   ·simp
theorem txtLen_le (s : Bs) : txtLen s ≤ s.length ∧ (0 < txtLen s → 2 ≤ txtLen s) := by
 cases s with
 | nil => simp [txtLen]
 | cons b r =>
  have h := txt_le 201 1 r
  rw [show txtLen (b :: r) = bif decide (b.toNat = 34) then txt 201 1 r else 0 from rfl]
  by_cases h1 : b.toNat = 34
  ·rw [decide_eq_true h1, cond_true]; simp only [List.length_cons]; omega
  ·rw [decide_eq_false h1, cond_false]; simp
theorem symLen_le (s : Bs) : symLen s ≤ s.length := by
 unfold symLen
 split
 ·rename_i x hx
  have := List.find?_some hx
  rw [List.isPrefixOf_iff_prefix] at this
  exact this.length_le
 ·exact Nat.zero_le _
theorem slice_eq (s : Bs) (q n : Nat) : List.drop ((q : Int)).toNat (List.take (((q + n : Nat) : Int)).toNat s) = (s.drop q).take n := by
 rw [Int.toNat_natCast, Int.toNat_natCast, List.drop_take, Nat.add_sub_cancel_left]
set_option maxRecDepth 20000 in
theorem Lex_spec (s : Bs) (hs : s.length ≤ 9223372036854775807) : Ctr Tryz.prog 9 [.str s] (fun r => r = resLx (lexP s)) := by
 refine Ctr.of_body Tryz.func9 rfl tys_ok (by kernel_rfl) ?_
 conv => whnf
 refine cd_sound tys_ok _ ?_
 conv => whnf
 refine ⟨fun h => ?_, fun h => ?_⟩
 ·have h : 8000 < s.length := by simp at h; omega
  conv => whnf
  refine ⟨3, ?_⟩
  (conv => whnf)
  unfold lexP
  rw [decide_eq_true h]
  rfl
 ·have h : ¬ 8000 < s.length := by simp at h; omega
  conv => whnf
  refine ACode.nilArr 6 76 3 rfl ?_
  refine ACode.loopD (fun i : Nat × List Tok => mk 63 [(0, .str s), (5, .own 0 2 0 4), (6, .own 1 3 0 i.2.length), (7, .int .i64 i.1)]) (fun i => [.arr 72 2 kindsA, .arr 76 3 (toksA i.2)])
   (fun i => i.1 ≤ s.length ∧ i.2.length ≤ 3000 ∧ ∃ f, s.length < i.1 + f ∧ lexP s = Lx.app i.2 (lexGo s f i.1 i.2.length)) (fun i => s.length - i.1) (fun i hi => ⟨rfl, ?_⟩) ⟨(0, []), ?_⟩ (fun _ => rfl) fun i hi => ?_
  ·(conv => whnf)
   refine ⟨by decide, ?_⟩
   (conv => whnf)
   exact ⟨closed_toks _, trivial⟩
  ·conv => whnf
   repeat (refine And.intro ?_ ?_; (focus (first | rfl | (simp; done))); conv => whnf)
   refine ⟨s.length + 1, by simp only; omega, ?_⟩
   unfold lexP
   rw [decide_eq_false h, cond_false]
   simp only [List.length_nil]
   cases lexGo s (s.length + 1) 0 0 <;> simp [Lx.app]
  ·obtain ⟨p, l⟩ := i
   obtain ⟨hp, hl, f, hf, he⟩ := hi
   simp only at hp hl hf he ⊢
   refine cd_sound tys_ok _ ?_
   conv => whnf
   refine ACall.of_spec (skip_spec s (by omega) p hp) rfl fun r hr => ?_
   subst hr
   conv => whnf
   obtain ⟨f, rfl⟩ : ∃ f', f = f' + 1 := ⟨f - 1, by omega⟩
   unfold lexGo at he
   have hg := gap_le false (s.drop p)
   simp only [List.length_drop] at hg
   have hpq : p ≤ p + gap false (s.drop p) := Nat.le_add_right _ _
   have hqs : p + gap false (s.drop p) ≤ s.length := by omega
   generalize p + gap false (s.drop p) = q at *
   refine ⟨fun h1 => ?_, fun h1 => ?_⟩
   ·have h1 : q = s.length := by simp at h1; omega
    rw [decide_eq_true h1, cond_true] at he
    conv => whnf
    refine ⟨⟨(toksA_length l).symm, closed_toks _⟩, ?_⟩
    (conv => whnf)
    rw [he]
    simp [Lx.app, resLx]
   ·have h1 : ¬ q = s.length := by simp at h1; omega
    rw [decide_eq_false h1, cond_false] at he
    conv => whnf
    refine ⟨fun h2 => ?_, fun h2 => ?_⟩
    ·have h2 : l.length = 3000 := by simp at h2; omega
     rw [decide_eq_true h2, cond_true] at he
     conv => whnf
     refine ⟨3, ?_⟩
     (conv => whnf)
     rw [he]
     rfl
    ·have h2 : ¬ l.length = 3000 := by simp at h2; omega
     rw [decide_eq_false h2, cond_false] at he
     conv => whnf
     have ed : List.drop ((q : Int)).toNat (List.take ((s.length : Int)).toNat s) = s.drop q := by simp
     have ht1 : 1 ≤ (s.drop q).length := by simp only [List.length_drop]; omega
     have ht2 : (s.drop q).length ≤ 8000 := by simp only [List.length_drop]; omega
     refine ACode.loopD (fun j : Nat => mk 63 [(0, .str s), (5, .own 0 2 0 4), (6, .own 1 3 0 l.length), (7, .int .i64 q), (30, .own 0 2 0 4), (31, .int .i64 4), (32, .int .i64 j)]) (fun _ => [.arr 72 2 kindsA, .arr 76 3 (toksA l)])
      (fun j => j ≤ 4 ∧ (1 ≤ j → numLen (s.drop q) = 0) ∧ (2 ≤ j → nameLen (s.drop q) = 0) ∧ (3 ≤ j → txtLen (s.drop q) = 0) ∧ (4 ≤ j → symLen (s.drop q) = 0)) (fun j => 4 - j) (fun j hj => ⟨rfl, ?_⟩) ⟨0, ?_⟩ (fun _ => rfl) fun j hj => ?_
     ·(conv => whnf)
      refine ⟨by decide, ?_⟩
      (conv => whnf)
      exact ⟨closed_toks _, trivial⟩
     ·conv => whnf
      repeat (refine And.intro ?_ ?_; (focus (first | rfl | (simp; done))); conv => whnf)
      intro h; omega
     ·obtain ⟨hj, j1, j2, j3, j4⟩ := hj
      refine cd_sound tys_ok _ ?_
      conv => whnf
      refine ⟨fun h3 => ?_, fun h3 => ?_⟩
      ·have h3 : j < 4 := by simp at h3; omega
       conv => whnf
       have hjc : j = 0 ∨ j = 1 ∨ j = 2 ∨ j = 3 := by omega
       rcases hjc with rfl | rfl | rfl | rfl
       ·refine ⟨by decide, _, rfl, ?_⟩
        conv => whnf
        refine ACode.draw [] tys_ok (by kernel_rfl) (by kernel_rfl) ?_
        conv => whnf
        refine ⟨⟨by omega, by omega, by omega⟩, ?_⟩
        conv => whnf
        rw [ed]
        refine ⟨_, ⟨numberLength_spec (s.drop q) ht2, rfl⟩, ?_⟩
        conv => whnf
        have hb := (runP_le (s.drop q)).1
        have hn : numLen (s.drop q) ≤ (s.drop q).length := by rw [numLen_if]; split <;> omega
        simp only [List.length_drop] at hn
        refine ⟨fun hpos => ?_, fun hz => ?_⟩
        ·have hpos : 0 < numLen (s.drop q) := by simpa using hpos
         conv => whnf
         refine ACode.drawI [] [12] tys_ok (by kernel_rfl) (by kernel_rfl) ?_
         conv => whnf
         have ew : Wr .i64 ((q : Int) + (numLen (s.drop q) : Int)) = ((q + numLen (s.drop q) : Nat) : Int) := by rw [Wr64 _ (by omega) (by omega)]; omega
         rw [ew]
         refine ⟨⟨by omega, by omega, by omega⟩, ?_⟩
         conv => whnf
         rw [slice_eq]
         refine ⟨_, ⟨token_spec 2 ((s.drop q).take (numLen (s.drop q))) q (by simp only [List.length_take]; omega) (fun h => by cases h), rfl⟩, ?_⟩
         conv => whnf
         refine ⟨rfl, ?_⟩
         conv => whnf
         refine ⟨⟨(toksA_length l).symm, by simp; omega⟩, ?_⟩
         conv => whnf
         have htk : tokP (s.drop q) = some (numLen (s.drop q), 2, (s.drop q).take (numLen (s.drop q))) := by simp [tokP, hpos]
         rw [htk] at he
         simp only [app_cons] at he
         rw [show (bif decide ((2 : Int) = 4) then List.drop 1 (List.take ((List.take (numLen (s.drop q)) (s.drop q)).length - 1) (List.take (numLen (s.drop q)) (s.drop q))) else List.take (numLen (s.drop q)) (s.drop q)) = (s.drop q).take (numLen (s.drop q)) by simp]
         refine ⟨(q + numLen (s.drop q), l ++ [⟨2, (s.drop q).take (numLen (s.drop q)), q⟩]), ?_⟩
         conv => whnf
         repeat (refine And.intro ?_ ?_; (focus (first | rfl | (simp; done))); conv => whnf)
         refine ⟨ew, ?_⟩
         (conv => whnf)
         refine ⟨rfl, ?_⟩
         (conv => whnf)
         refine ⟨by simp [toksA], ?_⟩
         (conv => whnf)
         refine ⟨⟨by simp only; omega, by simp; omega, f, by simp only; omega, by simpa using he⟩, by simp only; omega⟩
        ·have hz : numLen (s.drop q) = 0 := by simp at hz; omega
         conv => whnf
         refine ⟨1, ?_⟩
         conv => whnf
         repeat (refine And.intro ?_ ?_; (focus (first | rfl | (simp; done))); conv => whnf)
         refine ⟨by rw [Wr64 _ (by decide) (by decide)]; rfl, ?_⟩
         (conv => whnf)
         refine ⟨rfl, ?_⟩
         (conv => whnf)
         refine ⟨rfl, ?_⟩
         (conv => whnf)
         exact ⟨⟨by omega, fun _ => hz, by omega, by omega, by omega⟩, by omega⟩
       ·refine ⟨by decide, _, rfl, ?_⟩
        conv => whnf
        refine ACode.draw [] tys_ok (by kernel_rfl) (by kernel_rfl) ?_
        conv => whnf
        refine ⟨⟨by omega, by omega, by omega⟩, ?_⟩
        conv => whnf
        rw [ed]
        refine ⟨_, ⟨nameLength_spec (s.drop q) ht2 ht1, rfl⟩, ?_⟩
        conv => whnf
        have hn : nameLen (s.drop q) ≤ (s.drop q).length := nameLen_le _
        simp only [List.length_drop] at hn
        refine ⟨fun hpos => ?_, fun hz => ?_⟩
        ·have hpos : 0 < nameLen (s.drop q) := by simpa using hpos
         conv => whnf
         refine ACode.drawI [] [12] tys_ok (by kernel_rfl) (by kernel_rfl) ?_
         conv => whnf
         have ew : Wr .i64 ((q : Int) + (nameLen (s.drop q) : Int)) = ((q + nameLen (s.drop q) : Nat) : Int) := by rw [Wr64 _ (by omega) (by omega)]; omega
         rw [ew]
         refine ⟨⟨by omega, by omega, by omega⟩, ?_⟩
         conv => whnf
         rw [slice_eq]
         refine ⟨_, ⟨token_spec 1 ((s.drop q).take (nameLen (s.drop q))) q (by simp only [List.length_take]; omega) (fun h => by cases h), rfl⟩, ?_⟩
         conv => whnf
         refine ⟨rfl, ?_⟩
         conv => whnf
         refine ⟨⟨(toksA_length l).symm, by simp; omega⟩, ?_⟩
         conv => whnf
         have htk : tokP (s.drop q) = some (nameLen (s.drop q), 1, (s.drop q).take (nameLen (s.drop q))) := by simp [tokP, hpos, j1 (by omega)]
         rw [htk] at he
         simp only [app_cons] at he
         rw [show (bif decide ((1 : Int) = 4) then List.drop 1 (List.take ((List.take (nameLen (s.drop q)) (s.drop q)).length - 1) (List.take (nameLen (s.drop q)) (s.drop q))) else List.take (nameLen (s.drop q)) (s.drop q)) = (s.drop q).take (nameLen (s.drop q)) by simp]
         refine ⟨(q + nameLen (s.drop q), l ++ [⟨1, (s.drop q).take (nameLen (s.drop q)), q⟩]), ?_⟩
         conv => whnf
         repeat (refine And.intro ?_ ?_; (focus (first | rfl | (simp; done))); conv => whnf)
         refine ⟨ew, ?_⟩
         (conv => whnf)
         refine ⟨rfl, ?_⟩
         (conv => whnf)
         refine ⟨by simp [toksA], ?_⟩
         (conv => whnf)
         refine ⟨⟨by simp only; omega, by simp; omega, f, by simp only; omega, by simpa using he⟩, by simp only; omega⟩
        ·have hz : nameLen (s.drop q) = 0 := by simp at hz; omega
         conv => whnf
         refine ⟨2, ?_⟩
         conv => whnf
         repeat (refine And.intro ?_ ?_; (focus (first | rfl | (simp; done))); conv => whnf)
         refine ⟨by rw [Wr64 _ (by decide) (by decide)]; rfl, ?_⟩
         (conv => whnf)
         refine ⟨rfl, ?_⟩
         (conv => whnf)
         refine ⟨rfl, ?_⟩
         (conv => whnf)
         exact ⟨⟨by omega, fun _ => j1 (by omega), fun _ => hz, by omega, by omega⟩, by omega⟩
       ·refine ⟨by decide, _, rfl, ?_⟩
        conv => whnf
        refine ACode.draw [] tys_ok (by kernel_rfl) (by kernel_rfl) ?_
        conv => whnf
        refine ⟨⟨by omega, by omega, by omega⟩, ?_⟩
        conv => whnf
        rw [ed]
        refine ⟨_, ⟨textLength_spec (s.drop q) ht2 ht1, rfl⟩, ?_⟩
        conv => whnf
        have hn : txtLen (s.drop q) ≤ (s.drop q).length := (txtLen_le _).1
        simp only [List.length_drop] at hn
        refine ⟨fun hpos => ?_, fun hz => ?_⟩
        ·have hpos : 0 < txtLen (s.drop q) := by simpa using hpos
         conv => whnf
         refine ACode.drawI [] [12] tys_ok (by kernel_rfl) (by kernel_rfl) ?_
         conv => whnf
         have ew : Wr .i64 ((q : Int) + (txtLen (s.drop q) : Int)) = ((q + txtLen (s.drop q) : Nat) : Int) := by rw [Wr64 _ (by omega) (by omega)]; omega
         rw [ew]
         refine ⟨⟨by omega, by omega, by omega⟩, ?_⟩
         conv => whnf
         rw [slice_eq]
         refine ⟨_, ⟨token_spec 4 ((s.drop q).take (txtLen (s.drop q))) q (by simp only [List.length_take]; omega) (fun _ => by have := (txtLen_le (s.drop q)).2 hpos; simp only [List.length_take, List.length_drop]; omega), rfl⟩, ?_⟩
         conv => whnf
         refine ⟨rfl, ?_⟩
         conv => whnf
         refine ⟨⟨(toksA_length l).symm, by simp; omega⟩, ?_⟩
         conv => whnf
         have hmin : min (min (txtLen (s.drop q)) (s.length - q) - 1) (txtLen (s.drop q)) = txtLen (s.drop q) - 1 := by omega
         have htk : tokP (s.drop q) = some (txtLen (s.drop q), 4, ((s.drop q).take (txtLen (s.drop q) - 1)).drop 1) := by simp [tokP, hpos, j1 (by omega), j2 (by omega)]
         rw [htk] at he
         simp only [app_cons] at he
         rw [show (bif decide ((4 : Int) = 4) then List.drop 1 (List.take ((List.take (txtLen (s.drop q)) (s.drop q)).length - 1) (List.take (txtLen (s.drop q)) (s.drop q))) else List.take (txtLen (s.drop q)) (s.drop q)) = ((s.drop q).take (txtLen (s.drop q) - 1)).drop 1 by simp [List.take_take, hmin]]
         refine ⟨(q + txtLen (s.drop q), l ++ [⟨4, ((s.drop q).take (txtLen (s.drop q) - 1)).drop 1, q⟩]), ?_⟩
         conv => whnf
         repeat (refine And.intro ?_ ?_; (focus (first | rfl | (simp; done))); conv => whnf)
         refine ⟨ew, ?_⟩
         (conv => whnf)
         refine ⟨rfl, ?_⟩
         (conv => whnf)
         refine ⟨by simp [toksA], ?_⟩
         (conv => whnf)
         refine ⟨⟨by simp only; omega, by simp; omega, f, by simp only; omega, by simpa using he⟩, by simp only; omega⟩
        ·have hz : txtLen (s.drop q) = 0 := by simp at hz; omega
         conv => whnf
         refine ⟨3, ?_⟩
         conv => whnf
         repeat (refine And.intro ?_ ?_; (focus (first | rfl | (simp; done))); conv => whnf)
         refine ⟨by rw [Wr64 _ (by decide) (by decide)]; rfl, ?_⟩
         (conv => whnf)
         refine ⟨rfl, ?_⟩
         (conv => whnf)
         refine ⟨rfl, ?_⟩
         (conv => whnf)
         exact ⟨⟨by omega, fun _ => j1 (by omega), fun _ => j2 (by omega), fun _ => hz, by omega⟩, by omega⟩
       ·refine ⟨by decide, _, rfl, ?_⟩
        conv => whnf
        refine ACode.draw [] tys_ok (by kernel_rfl) (by kernel_rfl) ?_
        conv => whnf
        refine ⟨⟨by omega, by omega, by omega⟩, ?_⟩
        conv => whnf
        rw [ed]
        refine ⟨_, ⟨symbolLength_spec (s.drop q) ht2, rfl⟩, ?_⟩
        conv => whnf
        have hn : symLen (s.drop q) ≤ (s.drop q).length := symLen_le _
        simp only [List.length_drop] at hn
        refine ⟨fun hpos => ?_, fun hz => ?_⟩
        ·have hpos : 0 < symLen (s.drop q) := by simpa using hpos
         conv => whnf
         refine ACode.drawI [] [12] tys_ok (by kernel_rfl) (by kernel_rfl) ?_
         conv => whnf
         have ew : Wr .i64 ((q : Int) + (symLen (s.drop q) : Int)) = ((q + symLen (s.drop q) : Nat) : Int) := by rw [Wr64 _ (by omega) (by omega)]; omega
         rw [ew]
         refine ⟨⟨by omega, by omega, by omega⟩, ?_⟩
         conv => whnf
         rw [slice_eq]
         refine ⟨_, ⟨token_spec 3 ((s.drop q).take (symLen (s.drop q))) q (by simp only [List.length_take]; omega) (fun h => by cases h), rfl⟩, ?_⟩
         conv => whnf
         refine ⟨rfl, ?_⟩
         conv => whnf
         refine ⟨⟨(toksA_length l).symm, by simp; omega⟩, ?_⟩
         conv => whnf
         have htk : tokP (s.drop q) = some (symLen (s.drop q), 3, (s.drop q).take (symLen (s.drop q))) := by simp [tokP, hpos, j1 (by omega), j2 (by omega), j3 (by omega)]
         rw [htk] at he
         simp only [app_cons] at he
         rw [show (bif decide ((3 : Int) = 4) then List.drop 1 (List.take ((List.take (symLen (s.drop q)) (s.drop q)).length - 1) (List.take (symLen (s.drop q)) (s.drop q))) else List.take (symLen (s.drop q)) (s.drop q)) = (s.drop q).take (symLen (s.drop q)) by simp]
         refine ⟨(q + symLen (s.drop q), l ++ [⟨3, (s.drop q).take (symLen (s.drop q)), q⟩]), ?_⟩
         conv => whnf
         repeat (refine And.intro ?_ ?_; (focus (first | rfl | (simp; done))); conv => whnf)
         refine ⟨ew, ?_⟩
         (conv => whnf)
         refine ⟨rfl, ?_⟩
         (conv => whnf)
         refine ⟨by simp [toksA], ?_⟩
         (conv => whnf)
         refine ⟨⟨by simp only; omega, by simp; omega, f, by simp only; omega, by simpa using he⟩, by simp only; omega⟩
        ·have hz : symLen (s.drop q) = 0 := by simp at hz; omega
         conv => whnf
         refine ⟨4, ?_⟩
         conv => whnf
         repeat (refine And.intro ?_ ?_; (focus (first | rfl | (simp; done))); conv => whnf)
         refine ⟨by rw [Wr64 _ (by decide) (by decide)]; rfl, ?_⟩
         (conv => whnf)
         refine ⟨rfl, ?_⟩
         (conv => whnf)
         refine ⟨rfl, ?_⟩
         (conv => whnf)
         exact ⟨⟨by omega, fun _ => j1 (by omega), fun _ => j2 (by omega), fun _ => j3 (by omega), fun _ => hz⟩, by omega⟩
      ·have h3 : j = 4 := by simp at h3; omega
       subst h3
       conv => whnf
       refine ⟨3, ?_⟩
       (conv => whnf)
       have ht : tokP (s.drop q) = none := by simp [tokP, j1 (by omega), j2 (by omega), j3 (by omega), j4 (by omega)]
       rw [ht] at he
       rw [he]
       rfl
end Go.Proofs.YtmhlneeboefkgaaGreatDoor
