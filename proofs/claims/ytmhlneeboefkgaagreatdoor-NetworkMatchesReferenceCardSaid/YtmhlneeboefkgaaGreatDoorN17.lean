import Derived.Test.YtmhlneeboefkgaaGreatDoorN16
set_option linter.unusedVariables false
set_option linter.unusedSimpArgs false
namespace Go.Proofs.YtmhlneeboefkgaaGreatDoor
open Go.Av Go.Av.Net
set_option maxRecDepth 20000 in
theorem office_h (ts : List Tok) (len i : Nat) (l : List Off) (v : V6) (ht : TsOK ts) (hi : i ≤ ts.length) (hn : l.length ≤ 3000) :
  HCtr Tryz.prog 49 [.ptr 4 0] (PQ ts len i (.raw v.a) (.raw v.b) (.raw v.c) (.sl 7 (l.map offA)) (.raw v.e) (.raw v.f))
   (fun r H => ∃ a j, refP (kts ts) (l.map (·.name)) i = .ok a j ∧ j ≤ ts.length ∧ r = .int .i64 (a : Nat) ∧ H = PQ ts len j (.raw v.a) (.raw v.b) (.raw v.c) (.sl 7 (l.map offA)) (.raw v.e) (.raw v.f))
   (fun x H => ∃ e k j, refP (kts ts) (l.map (·.name)) i = .fail e k ∧ k ≤ ts.length ∧ x = failA ts len e k ∧ H = PQ ts len j (.raw v.a) (.raw v.b) (.raw v.c) (.sl 7 (l.map offA)) (.raw v.e) (.raw v.f)) := by
 have hl := ht.len
 generalize hp : refP (kts ts) (l.map (·.name)) i = p
 replace hp := hp.symm
 replace hp : p = (refP (kts ts) (l.map (·.name)) i).bind fun k i => .ok k i := by rw [hp]; cases refP (kts ts) (l.map (·.name)) i <;> rfl
 refine HCtr.of_body Tryz.func49 rfl tys_ok (by kernel_rfl) rfl ?_
 conv => whnf
 repeat (first | refine ACode.seq ?_ | (refine ACode.s_reg tys_ok ?_; conv => whnf) | refine ACode.s_block ?_ | refine ACode.s_scope ?_ | (refine ACode.s_cond ?_; conv => whnf) | (refine ACode.s_exit ?_; conv => whnf) | (refine ACode.s_ret ?_; conv => whnf) | (refine ACode.s_skip ?_; conv => whnf) | (refine ACode.s_label ?_; conv => whnf))
 refine ACall.of_m (refOff_m ts len i l ht hi hn) hp (fun _ => rfl) rfl (fun j e k h hk => ?_) (fun k i hq hp hi => ?_)
 ·conv => whnf
  exact ⟨_, _, _, h, hk, rfl, rfl⟩
 conv => whnf
 repeat (first | refine ACode.seq ?_ | (refine ACode.s_reg tys_ok ?_; conv => whnf) | refine ACode.s_block ?_ | refine ACode.s_scope ?_ | (refine ACode.s_cond ?_; conv => whnf) | (refine ACode.s_exit ?_; conv => whnf) | (refine ACode.s_ret ?_; conv => whnf) | (refine ACode.s_skip ?_; conv => whnf) | (refine ACode.s_label ?_; conv => whnf))
 exact ⟨_, _, hp, hi, rfl, rfl⟩
section
variable {α : Type} {ts : List Tok} {len i : Nat} {E : List AV} {H : List HO} {p : PR α} {f : Nat → Nat → PR α} {K : AV → KK} {X : XX} {A B C E' F : AV}
theorem _root_.Go.Av.ACall.of_office (l : List Off) (ht : TsOK ts) (hi : i ≤ ts.length) (hn : l.length ≤ 3000) (hp : p = (refP (kts ts) (l.map (·.name)) i).bind f)
  (hl : H[4]? = some (.cells [.sl 3 (toksA ts), .int .i64 i, .int .i64 len, A, B, C, .sl 7 (l.map offA), E', F]))
  (hX : ∀ (j : Nat) e k, p = .fail e k → k ≤ ts.length → updK H 4 (.cells [.sl 3 (toksA ts), .int .i64 j, .int .i64 len, A, B, C, .sl 7 (l.map offA), E', F]) fun H' => X (.panic (failA ts len e k)) E H')
  (hk : ∀ (a : Nat) (j : Nat), refP (kts ts) (l.map (·.name)) i = .ok a j → p = f a j → j ≤ ts.length → updK H 4 (.cells [.sl 3 (toksA ts), .int .i64 j, .int .i64 len, A, B, C, .sl 7 (l.map offA), E', F]) fun H' => K (.int .i64 (a : Nat)) E H') :
  ACall Tryz.prog 49 [.ptr 4 0] E H K X := by
 have h9 : ∀ vs : List Value, vs.length = 9 → ∃ x y z u, ∃ v : V6, vs = [x, y, z, v.a, v.b, v.c, u, v.e, v.f] := by
  intro vs hvs
  match vs, hvs with
  | [x, y, z, a, b, c, d, e, f], _ => exact ⟨x, y, z, d, ⟨a, b, c, d, e, f⟩, rfl⟩
 refine ACall.of_hr (l := 4) [false, false, false, true, true, true, false, true, true]
  (R := fun vs r H1 => ∃ a j, refP (kts ts) (l.map (·.name)) i = .ok a j ∧ j ≤ ts.length ∧ r = .int .i64 (a : Nat) ∧ ∃ x y z u, ∃ v : V6, vs = [x, y, z, v.a, v.b, v.c, u, v.e, v.f] ∧ H1 = PQ ts len j (.raw v.a) (.raw v.b) (.raw v.c) (.sl 7 (l.map offA)) (.raw v.e) (.raw v.f))
  (X' := fun vs r H1 => ∃ e k j, refP (kts ts) (l.map (·.name)) i = .fail e k ∧ k ≤ ts.length ∧ r = failA ts len e k ∧ ∃ x y z u, ∃ v : V6, vs = [x, y, z, v.a, v.b, v.c, u, v.e, v.f] ∧ H1 = PQ ts len j (.raw v.a) (.raw v.b) (.raw v.c) (.sl 7 (l.map offA)) (.raw v.e) (.raw v.f)) hl rfl ?_ (fun _ => rfl) ?_ ?_ ?_
 ·intro vs hvs
  obtain ⟨x, y, z, u, v, rfl⟩ := h9 vs hvs
  exact (office_h ts len i l v ht hi hn).mono' (fun r H1 ⟨a, j, q2, q3, q4, q5⟩ => ⟨a, j, q2, q3, q4, x, y, z, u, v, rfl, q5⟩) (fun r H1 ⟨e, k, j, q2, q3, q4, q5⟩ => ⟨e, k, j, q2, q3, q4, x, y, z, u, v, rfl, q5⟩)
 ·intro vs hvs
  obtain ⟨x, y, z, u, v, rfl⟩ := h9 vs hvs
  rfl
 ·rintro vs r H1 hvs ⟨a, j, q1, q2, rfl, x, y, z, u, v, rfl, rfl⟩
  exact ⟨[.sl 3 (toksA ts), .int .i64 j, .int .i64 len, A, B, C, .sl 7 (l.map offA), E', F], rfl, rfl, hk a j q1 (by rw [hp, q1]; rfl) q2⟩
 ·rintro vs r H1 hvs ⟨e, k, j, q1, q2, rfl, x, y, z, u, v, rfl, rfl⟩
  exact ⟨[.sl 3 (toksA ts), .int .i64 j, .int .i64 len, A, B, C, .sl 7 (l.map offA), E', F], rfl, rfl, hX j e k (by rw [hp, q1]; rfl) q2⟩
end
theorem ref_j {ts : List KT} {l : List Bs} {i j a : Nat} (h : refP ts l i = .ok a j) : j = i + 1 ∧ a < l.length := by
 unfold refP at h
 cases h1 : nameP ts i with
 | fail e k => rw [h1] at h; cases h
 | ok x i1 =>
  rw [h1, PR.ok_bind] at h
  have e1 := name_j h1
  have hb : ∀ (l : List Bs) (a : Nat), idxOf x l = some a → a < l.length := by
   intro l
   induction l with
   | nil => intro a h; cases h
   | cons y r ih =>
    intro a h
    unfold idxOf at h
    by_cases e : y = x
    ·simp [e] at h; simp; omega
    ·simp [e] at h
     obtain ⟨b, hb, rfl⟩ := h
     have := ih b hb
     simp; omega
  cases h2 : idxOf x l with
  | none => rw [h2] at h; cases h
  | some b => rw [h2] at h; cases h; exact ⟨e1, hb l _ h2⟩
set_option maxRecDepth 20000 in
theorem lines_m (ts : List Tok) (len i : Nat) (n : Nw) (v : V6) (ht : TsOK ts) (hi : i ≤ ts.length) (hn : n.lins = []) (ho : n.offs.length ≤ 3000) :
  HCtr Tryz.prog 15 [.ptr 4 0] (PQ ts len i (.raw v.a) (.raw v.b) (.raw v.c) (.sl 7 (n.offs.map offA)) nilA (.raw v.f))
   (fun r H => ∃ n' j, linsP (kts ts) ts.length n i = .ok n' j ∧ j ≤ ts.length ∧ r = .tuple [] ∧ H = PQ ts len j (.raw v.a) (.raw v.b) (.raw v.c) (.sl 7 (n.offs.map offA)) (.sl 6 (n'.lins.map linA)) (.raw v.f))
   (fun x H => ∃ e k j l, linsP (kts ts) ts.length n i = .fail e k ∧ k ≤ ts.length ∧ x = failA ts len e k ∧ H = PQ ts len j (.raw v.a) (.raw v.b) (.raw v.c) (.sl 7 (n.offs.map offA)) l (.raw v.f)) := by
 have hl := ht.len
 generalize hof : n.offs = offs at *
 generalize hp : linsP (kts ts) ts.length n i = p
 replace hp := hp.symm
 refine HCtr.of_body Tryz.func15 rfl tys_ok (by kernel_rfl) rfl ?_
 conv => whnf
 repeat (first | refine ACode.seq ?_ | (refine ACode.s_reg tys_ok ?_; conv => whnf) | refine ACode.s_block ?_ | refine ACode.s_scope ?_ | (refine ACode.s_cond ?_; conv => whnf) | (refine ACode.s_exit ?_; conv => whnf) | (refine ACode.s_ret ?_; conv => whnf) | (refine ACode.s_skip ?_; conv => whnf) | (refine ACode.s_label ?_; conv => whnf))
 refine ACode.nilCell 4 7 47 6 rfl rfl ?_
 refine ACode.loopD (fun x : Nat × Nat × Nw => mk 49 [(0, .ptr 4 0)]) (fun x => PQ ts len x.2.1 (.raw v.a) (.raw v.b) (.raw v.c) (.sl 7 (offs.map offA)) (.own 5 6 0 x.2.2.lins.length) (.raw v.f) ++ [.arr 47 6 (x.2.2.lins.map linA)])
  (fun x => p = linsP (kts ts) x.1 x.2.2 x.2.1 ∧ x.2.1 ≤ ts.length ∧ ts.length ≤ x.2.1 + x.1 ∧ x.2.2.lins.length ≤ x.2.1 ∧ x.2.2.offs = offs) (fun x => x.1)
  (fun x hx => ⟨rfl, ?_⟩) ⟨(ts.length, i, n), ?_⟩ (fun _ => rfl) fun x hx => ?_
 ·(conv => whnf)
  refine ⟨rfl, ?_⟩
  (conv => whnf)
  exact ⟨closed_map _ (fun _ => rfl) _, trivial⟩
 ·conv => whnf
  repeat (refine And.intro ?_ ?_; (focus (first | rfl | (simp; done) | (simp [hn, PQ, oneK]; done))); conv => whnf)
  exact ⟨hp, hi, by simp, by simp [hn], hof⟩
 ·obtain ⟨f, i, n⟩ := x
  obtain ⟨hp, hi, hf, hn, hof⟩ := hx
  simp only at hp hi hf hn hof
  repeat (first | refine ACode.seq ?_ | (refine ACode.s_reg tys_ok ?_; conv => whnf) | refine ACode.s_block ?_ | refine ACode.s_scope ?_ | (refine ACode.s_cond ?_; conv => whnf) | (refine ACode.s_exit ?_; conv => whnf) | (refine ACode.s_ret ?_; conv => whnf) | (refine ACode.s_skip ?_; conv => whnf) | (refine ACode.s_label ?_; conv => whnf))
  refine ACall.of_m0 (has_m ts len i w_line hl hi) (fun _ => rfl) rfl ?_
  conv => whnf
  repeat (first | refine ACode.seq ?_ | (refine ACode.s_reg tys_ok ?_; conv => whnf) | refine ACode.s_block ?_ | refine ACode.s_scope ?_ | (refine ACode.s_cond ?_; conv => whnf) | (refine ACode.s_exit ?_; conv => whnf) | (refine ACode.s_ret ?_; conv => whnf) | (refine ACode.s_skip ?_; conv => whnf) | (refine ACode.s_label ?_; conv => whnf))
  refine ⟨fun hs => ?_, fun hs => ?_⟩
  ·have hlt := sees_le hs
   obtain ⟨f, rfl⟩ : ∃ g, f = g + 1 := ⟨f - 1, by omega⟩
   unfold linsP linP at hp
   rw [hs, cond_true] at hp
   simp only [PR.bind_assoc, PR.ok_bind, hof] at hp
   repeat (first | refine ACode.seq ?_ | (refine ACode.s_reg tys_ok ?_; conv => whnf) | refine ACode.s_block ?_ | refine ACode.s_scope ?_ | (refine ACode.s_cond ?_; conv => whnf) | (refine ACode.s_exit ?_; conv => whnf) | (refine ACode.s_ret ?_; conv => whnf) | (refine ACode.s_skip ?_; conv => whnf) | (refine ACode.s_label ?_; conv => whnf))
   refine ACall.of_m (word_m ts len i w_line hl hi) hp (fun _ => rfl) rfl (fun j e k h hk => ?_) (fun _ i1 hq hp hi => ?_)
   ·conv => whnf
    refine ⟨⟨by simp, closed_map _ (fun _ => rfl) _⟩, ?_⟩; (conv => whnf); exact ⟨_, _, _, _, h, hk, rfl, rfl⟩
   conv => whnf
   repeat (first | refine ACode.seq ?_ | (refine ACode.s_reg tys_ok ?_; conv => whnf) | refine ACode.s_block ?_ | refine ACode.s_scope ?_ | (refine ACode.s_cond ?_; conv => whnf) | (refine ACode.s_exit ?_; conv => whnf) | (refine ACode.s_ret ?_; conv => whnf) | (refine ACode.s_skip ?_; conv => whnf) | (refine ACode.s_label ?_; conv => whnf))
   have e1 := expect_j hq
   refine ACall.of_m (name_m ts len i1 ht hi) hp (fun _ => rfl) rfl (fun j e k h hk => ?_) (fun x i2 hq hp hi => ?_)
   ·conv => whnf
    refine ⟨⟨by simp, closed_map _ (fun _ => rfl) _⟩, ?_⟩; (conv => whnf); exact ⟨_, _, _, _, h, hk, rfl, rfl⟩
   conv => whnf
   repeat (first | refine ACode.seq ?_ | (refine ACode.s_reg tys_ok ?_; conv => whnf) | refine ACode.s_block ?_ | refine ACode.s_scope ?_ | (refine ACode.s_cond ?_; conv => whnf) | (refine ACode.s_exit ?_; conv => whnf) | (refine ACode.s_ret ?_; conv => whnf) | (refine ACode.s_skip ?_; conv => whnf) | (refine ACode.s_label ?_; conv => whnf))
   have e2 := name_j hq
   refine ACall.of_m (symbol_m ts len i2 s_colon hl hi) hp (fun _ => rfl) rfl (fun j e k h hk => ?_) (fun _ i3 hq hp hi => ?_)
   ·conv => whnf
    refine ⟨⟨by simp, closed_map _ (fun _ => rfl) _⟩, ?_⟩; (conv => whnf); exact ⟨_, _, _, _, h, hk, rfl, rfl⟩
   conv => whnf
   repeat (first | refine ACode.seq ?_ | (refine ACode.s_reg tys_ok ?_; conv => whnf) | refine ACode.s_block ?_ | refine ACode.s_scope ?_ | (refine ACode.s_cond ?_; conv => whnf) | (refine ACode.s_exit ?_; conv => whnf) | (refine ACode.s_ret ?_; conv => whnf) | (refine ACode.s_skip ?_; conv => whnf) | (refine ACode.s_label ?_; conv => whnf))
   have e3 := expect_j hq
   refine ACall.of_office offs ht hi ho hp rfl (fun j e k h hk => ?_) (fun a i4 hq hp hi => ?_)
   ·conv => whnf
    refine ⟨⟨by simp, closed_map _ (fun _ => rfl) _⟩, ?_⟩; (conv => whnf); exact ⟨_, _, _, _, h, hk, rfl, rfl⟩
   conv => whnf
   repeat (first | refine ACode.seq ?_ | (refine ACode.s_reg tys_ok ?_; conv => whnf) | refine ACode.s_block ?_ | refine ACode.s_scope ?_ | (refine ACode.s_cond ?_; conv => whnf) | (refine ACode.s_exit ?_; conv => whnf) | (refine ACode.s_ret ?_; conv => whnf) | (refine ACode.s_skip ?_; conv => whnf) | (refine ACode.s_label ?_; conv => whnf))
   have e4 := ref_j hq
   refine ACall.of_m (symbol_m ts len i4 s_arrow hl hi) hp (fun _ => rfl) rfl (fun j e k h hk => ?_) (fun _ i5 hq hp hi => ?_)
   ·conv => whnf
    refine ⟨⟨by simp, closed_map _ (fun _ => rfl) _⟩, ?_⟩; (conv => whnf); exact ⟨_, _, _, _, h, hk, rfl, rfl⟩
   conv => whnf
   repeat (first | refine ACode.seq ?_ | (refine ACode.s_reg tys_ok ?_; conv => whnf) | refine ACode.s_block ?_ | refine ACode.s_scope ?_ | (refine ACode.s_cond ?_; conv => whnf) | (refine ACode.s_exit ?_; conv => whnf) | (refine ACode.s_ret ?_; conv => whnf) | (refine ACode.s_skip ?_; conv => whnf) | (refine ACode.s_label ?_; conv => whnf))
   have e5 := expect_j hq
   refine ACall.of_office offs ht hi ho hp rfl (fun j e k h hk => ?_) (fun b i6 hq hp hi => ?_)
   ·conv => whnf
    refine ⟨⟨by simp, closed_map _ (fun _ => rfl) _⟩, ?_⟩; (conv => whnf); exact ⟨_, _, _, _, h, hk, rfl, rfl⟩
   conv => whnf
   repeat (first | refine ACode.seq ?_ | (refine ACode.s_reg tys_ok ?_; conv => whnf) | refine ACode.s_block ?_ | refine ACode.s_scope ?_ | (refine ACode.s_cond ?_; conv => whnf) | (refine ACode.s_exit ?_; conv => whnf) | (refine ACode.s_ret ?_; conv => whnf) | (refine ACode.s_skip ?_; conv => whnf) | (refine ACode.s_label ?_; conv => whnf))
   have e6 := ref_j hq
   refine ACall.of_m (word_m ts len i6 w_at hl hi) hp (fun _ => rfl) rfl (fun j e k h hk => ?_) (fun _ i7 hq hp hi => ?_)
   ·conv => whnf
    refine ⟨⟨by simp, closed_map _ (fun _ => rfl) _⟩, ?_⟩; (conv => whnf); exact ⟨_, _, _, _, h, hk, rfl, rfl⟩
   conv => whnf
   repeat (first | refine ACode.seq ?_ | (refine ACode.s_reg tys_ok ?_; conv => whnf) | refine ACode.s_block ?_ | refine ACode.s_scope ?_ | (refine ACode.s_cond ?_; conv => whnf) | (refine ACode.s_exit ?_; conv => whnf) | (refine ACode.s_ret ?_; conv => whnf) | (refine ACode.s_skip ?_; conv => whnf) | (refine ACode.s_label ?_; conv => whnf))
   have e7 := expect_j hq
   refine ACall.of_m (number_m ts len i7 ht hi) hp (fun _ => rfl) rfl (fun j e k h hk => ?_) (fun at_ i8 hq hp hi => ?_)
   ·conv => whnf
    refine ⟨⟨by simp, closed_map _ (fun _ => rfl) _⟩, ?_⟩; (conv => whnf); exact ⟨_, _, _, _, h, hk, rfl, rfl⟩
   conv => whnf
   repeat (first | refine ACode.seq ?_ | (refine ACode.s_reg tys_ok ?_; conv => whnf) | refine ACode.s_block ?_ | refine ACode.s_scope ?_ | (refine ACode.s_cond ?_; conv => whnf) | (refine ACode.s_exit ?_; conv => whnf) | (refine ACode.s_ret ?_; conv => whnf) | (refine ACode.s_skip ?_; conv => whnf) | (refine ACode.s_label ?_; conv => whnf))
   have e8 := number_j hq
   refine ACall.of_m (word_m ts len i8 w_travel hl hi) hp (fun _ => rfl) rfl (fun j e k h hk => ?_) (fun _ i9 hq hp hi => ?_)
   ·conv => whnf
    refine ⟨⟨by simp, closed_map _ (fun _ => rfl) _⟩, ?_⟩; (conv => whnf); exact ⟨_, _, _, _, h, hk, rfl, rfl⟩
   conv => whnf
   repeat (first | refine ACode.seq ?_ | (refine ACode.s_reg tys_ok ?_; conv => whnf) | refine ACode.s_block ?_ | refine ACode.s_scope ?_ | (refine ACode.s_cond ?_; conv => whnf) | (refine ACode.s_exit ?_; conv => whnf) | (refine ACode.s_ret ?_; conv => whnf) | (refine ACode.s_skip ?_; conv => whnf) | (refine ACode.s_label ?_; conv => whnf))
   have e9 := expect_j hq
   refine ACall.of_m (number_m ts len i9 ht hi) hp (fun _ => rfl) rfl (fun j e k h hk => ?_) (fun travel i10 hq hp hi => ?_)
   ·conv => whnf
    refine ⟨⟨by simp, closed_map _ (fun _ => rfl) _⟩, ?_⟩; (conv => whnf); exact ⟨_, _, _, _, h, hk, rfl, rfl⟩
   conv => whnf
   repeat (first | refine ACode.seq ?_ | (refine ACode.s_reg tys_ok ?_; conv => whnf) | refine ACode.s_block ?_ | refine ACode.s_scope ?_ | (refine ACode.s_cond ?_; conv => whnf) | (refine ACode.s_exit ?_; conv => whnf) | (refine ACode.s_ret ?_; conv => whnf) | (refine ACode.s_skip ?_; conv => whnf) | (refine ACode.s_label ?_; conv => whnf))
   have e10 := number_j hq
   refine ACall.of_m (word_m ts len i10 w_load hl hi) hp (fun _ => rfl) rfl (fun j e k h hk => ?_) (fun _ i11 hq hp hi => ?_)
   ·conv => whnf
    refine ⟨⟨by simp, closed_map _ (fun _ => rfl) _⟩, ?_⟩; (conv => whnf); exact ⟨_, _, _, _, h, hk, rfl, rfl⟩
   conv => whnf
   repeat (first | refine ACode.seq ?_ | (refine ACode.s_reg tys_ok ?_; conv => whnf) | refine ACode.s_block ?_ | refine ACode.s_scope ?_ | (refine ACode.s_cond ?_; conv => whnf) | (refine ACode.s_exit ?_; conv => whnf) | (refine ACode.s_ret ?_; conv => whnf) | (refine ACode.s_skip ?_; conv => whnf) | (refine ACode.s_label ?_; conv => whnf))
   have e11 := expect_j hq
   refine ACall.of_m (number_m ts len i11 ht hi) hp (fun _ => rfl) rfl (fun j e k h hk => ?_) (fun load i12 hq hp hi => ?_)
   ·conv => whnf
    refine ⟨⟨by simp, closed_map _ (fun _ => rfl) _⟩, ?_⟩; (conv => whnf); exact ⟨_, _, _, _, h, hk, rfl, rfl⟩
   conv => whnf
   repeat (first | refine ACode.seq ?_ | (refine ACode.s_reg tys_ok ?_; conv => whnf) | refine ACode.s_block ?_ | refine ACode.s_scope ?_ | (refine ACode.s_cond ?_; conv => whnf) | (refine ACode.s_exit ?_; conv => whnf) | (refine ACode.s_ret ?_; conv => whnf) | (refine ACode.s_skip ?_; conv => whnf) | (refine ACode.s_label ?_; conv => whnf))
   have e12 := number_j hq
   refine ACall.of_m (symbol_m ts len i12 s_semi hl hi) hp (fun _ => rfl) rfl (fun j e k h hk => ?_) (fun _ i13 hq hp hi => ?_)
   ·conv => whnf
    refine ⟨⟨by simp, closed_map _ (fun _ => rfl) _⟩, ?_⟩; (conv => whnf); exact ⟨_, _, _, _, h, hk, rfl, rfl⟩
   conv => whnf
   repeat (first | refine ACode.seq ?_ | (refine ACode.s_reg tys_ok ?_; conv => whnf) | refine ACode.s_block ?_ | refine ACode.s_scope ?_ | (refine ACode.s_cond ?_; conv => whnf) | (refine ACode.s_exit ?_; conv => whnf) | (refine ACode.s_ret ?_; conv => whnf) | (refine ACode.s_skip ?_; conv => whnf) | (refine ACode.s_label ?_; conv => whnf))
   have e13 := expect_j hq
   refine ACode.drawI [] [8, 12] tys_ok (by kernel_rfl) (by kernel_rfl) ?_
   conv => whnf
   refine ⟨rfl, ?_⟩
   conv => whnf
   refine ⟨⟨by simp, by simp; omega⟩, ?_⟩
   conv => whnf
   repeat (first | refine ACode.seq ?_ | (refine ACode.s_reg tys_ok ?_; conv => whnf) | refine ACode.s_block ?_ | refine ACode.s_scope ?_ | (refine ACode.s_cond ?_; conv => whnf) | (refine ACode.s_exit ?_; conv => whnf) | (refine ACode.s_ret ?_; conv => whnf) | (refine ACode.s_skip ?_; conv => whnf) | (refine ACode.s_label ?_; conv => whnf))
   refine ⟨(f, i13, { n with lins := n.lins ++ [⟨x, a, b, at_, travel, load⟩] }), ?_⟩
   conv => whnf
   repeat (refine And.intro ?_ ?_; (focus (first | rfl | (simp; done) | (simp [linA]; done))); conv => whnf)
   exact ⟨⟨by rw [hp, hof], hi, by simp only; omega, by simp; omega, hof⟩, by simp⟩
  ·have hp : p = .ok n i := by
    rw [hp]; cases f <;> simp [linsP, hs]
   repeat (first | refine ACode.seq ?_ | (refine ACode.s_reg tys_ok ?_; conv => whnf) | refine ACode.s_block ?_ | refine ACode.s_scope ?_ | (refine ACode.s_cond ?_; conv => whnf) | (refine ACode.s_exit ?_; conv => whnf) | (refine ACode.s_ret ?_; conv => whnf) | (refine ACode.s_skip ?_; conv => whnf) | (refine ACode.s_label ?_; conv => whnf))
   refine ⟨⟨by simp, closed_map _ (fun _ => rfl) _⟩, ?_⟩
   conv => whnf
   exact ⟨_, _, hp, hi, rfl, rfl⟩
end Go.Proofs.YtmhlneeboefkgaaGreatDoor
