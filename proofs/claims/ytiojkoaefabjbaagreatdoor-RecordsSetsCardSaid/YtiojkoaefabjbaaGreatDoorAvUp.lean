/-
  WHAT WAS DRAWN STAYS DRAWN: no step of the machine puts World.drawn back; so over any call that returns it does not fall ('calls_up').
-/
import Derived.Calls
set_option linter.unusedVariables false
set_option linter.unusedSimpArgs false
set_option linter.unusedSectionVars false
namespace Go.Av
theorem ask_up {α : Type} : ∀ (a : Ask α) (w : World), w.drawn ≤ (w.ask a).2.drawn := by
  intro a
  induction a with
  | done a => intro w; unfold World.ask; exact Nat.le_refl _
  | ask what range k ih =>
    intro w
    unfold World.ask
    simp only
    split
    · exact ih _ w
    · exact Nat.le_trans (Nat.le_succ _) (ih _ { w with drawn := w.drawn + 1 })
theorem sys_up (w : World) (c : Sys) : w.drawn ≤ (w.sys c).2.drawn := by
  have h := ask_up (Kernel.perform c w.os) w
  unfold World.sys
  split
  · exact Nat.le_refl _
  · rename_i r os w1 _ e
    rw [e] at h
    exact h
theorem freeze_drawn (w : World) (a : Addr) (n : Nat) : (w.freeze a n).drawn = w.drawn := by
  unfold World.freeze
  first | rfl | (split <;> rfl) | (split <;> (try split) <;> rfl)
theorem viewStore_drawn {p : Program} {w w' : World} {at_ : Addr} {u : TypeId} {k : Addr} {v : Value} {atomic : Bool} {l : List Addr} (h : w.viewStore p at_ u k v atomic = .ok (w', l)) : w'.drawn = w.drawn := by
  unfold World.viewStore at h
  simp only [bind, Except.bind, pure, Except.pure] at h
  repeat' split at h
  all_goals first | (cases h; done) | (injection h with h; injection h with h1 h2; subst h1; rfl)
theorem farStore_drawn {p : Program} {w w' : World} {a : Addr} {v : Value} {atomic : Bool} {l : List Addr} (h : w.farStore p a v atomic = .ok (w', l)) : w'.drawn = w.drawn := by
  unfold World.farStore at h
  split at h
  · split at h
    · rename_i r e
      injection h with h
      subst h
      exact viewStore_drawn e
    · cases h
  · cases h
def Result.w {α : Type} : Result α → World
  | .ok _ w => w
  | .halt _ w => w
theorem run_up {α : Type} {p : Program} : ∀ (s : Sem α) (w : World), w.drawn ≤ (Result.w (s.run p w)).drawn := by
  intro s
  induction s with
  | pure a => intro w; exact Nat.le_refl _
  | load m a k ih =>
    intro w; unfold Sem.run; split
    · exact ih _ w
    · split
      · exact ih _ w
      · exact Nat.le_refl _
  | store m a v k ih =>
    intro w
    have key : ∀ v, w.drawn ≤ (Result.w (match w.cell? a with
    | some _ => if w.frozen? a then .halt (.unsupported (.unsafePointer "a write to bytes that a string shares")) w else k.run p (w.setCell a v)
    | none => match w.farStore p a v (m == .atomic) with
      | .ok (w, _) => k.run p w
      | .error h => .halt h w)).drawn := by
      intro v
      split
      · split
        · exact Nat.le_refl _
        · exact ih (w.setCell a v)
      · split
        · rename_i e
          exact Nat.le_trans (Nat.le_of_eq (farStore_drawn e).symm) (ih _)
        · exact Nat.le_refl _
    cases v <;> first | exact Nat.le_refl _ | (simp only [Sem.run]; exact key _)
  | new o k ih => intro w; exact ih _ { w with heap := w.heap.push o }
  | shape r k ih => intro w; exact ih _ w
  | freeze a n k ih => intro w; exact Nat.le_trans (Nat.le_of_eq (freeze_drawn w a n).symm) (ih (w.freeze a n))
  | frozen a k ih => intro w; exact ih _ w
  | getObj r k ih =>
    intro w; unfold Sem.run; split
    · exact Nat.le_refl _
    · exact ih _ w
    · exact Nat.le_refl _
  | setObj r o k ih =>
    intro w; unfold Sem.run; split
    · exact Nat.le_refl _
    · exact ih { w with heap := w.heap.setIfInBounds r o }
    · exact Nat.le_refl _
  | choose q k ih =>
    intro w; unfold Sem.run; split
    · exact ih _ w
    · exact Nat.le_trans (Nat.le_succ _) (ih _ { w with drawn := w.drawn + 1 })
  | sys c k ih => intro w; exact Nat.le_trans (sys_up w c) (ih _ _)
  | program k ih => intro w; exact ih _ w
  | mark m k ih => intro w; exact ih w
  | halt h => intro w; exact Nat.le_refl _
theorem runT_up {α : Type} {p : Program} : ∀ (s : Sem α) (w : World) (es : Array Event), w.drawn ≤ (Result.w (s.runT p w es).1).drawn := by
  intro s
  induction s with
  | pure a => intro w es; exact Nat.le_refl _
  | load m a k ih =>
    intro w es; unfold Sem.runT; split
    · exact ih _ w _
    · split
      · exact ih _ w _
      · exact Nat.le_refl _
  | store m a v k ih =>
    intro w es
    cases v <;> first
      | exact Nat.le_refl _
      | (simp only [Sem.runT]
         split
         · split
           · exact Nat.le_refl _
           · exact ih (w.setCell a _) _
         · split
           · rename_i e
             exact Nat.le_trans (Nat.le_of_eq (farStore_drawn e).symm) (ih _ _)
           · exact Nat.le_refl _)
  | new o k ih => intro w es; exact ih _ { w with heap := w.heap.push o } _
  | shape r k ih => intro w es; exact ih _ w _
  | freeze a n k ih => intro w es; exact Nat.le_trans (Nat.le_of_eq (freeze_drawn w a n).symm) (ih (w.freeze a n) _)
  | frozen a k ih => intro w es; exact ih _ w _
  | getObj r k ih =>
    intro w es; unfold Sem.runT; split
    · exact Nat.le_refl _
    · exact ih _ w _
    · exact Nat.le_refl _
  | setObj r o k ih =>
    intro w es; unfold Sem.runT; split
    · exact Nat.le_refl _
    · exact ih { w with heap := w.heap.setIfInBounds r o } _
    · exact Nat.le_refl _
  | choose q k ih =>
    intro w es; unfold Sem.runT; split
    · exact ih _ w _
    · exact Nat.le_trans (Nat.le_succ _) (ih _ { w with drawn := w.drawn + 1 } _)
  | sys c k ih => intro w es; exact Nat.le_trans (sys_up w c) (ih _ _ _)
  | program k ih => intro w es; exact ih _ w _
  | mark m k ih => intro w es; exact ih w _
  | halt h => intro w es; exact Nat.le_refl _
theorem ok_up {α : Type} {p : Program} {s : Sem α} {w w' : World} {a : α} (h : s.run p w = .ok a w') : w.drawn ≤ w'.drawn := by
  have := run_up (p := p) s w
  rw [h] at this
  exact this
theorem halt_up {α : Type} {p : Program} {s : Sem α} {w w' : World} {a : Halt} (h : s.run p w = .halt a w') : w.drawn ≤ w'.drawn := by
  have := run_up (p := p) s w
  rw [h] at this
  exact this
theorem okT_up {α : Type} {p : Program} {s : Sem α} {w w' : World} {a : α} {es es' : Array Event} (h : s.runT p w es = (.ok a w', es')) : w.drawn ≤ w'.drawn := by
  have := runT_up (p := p) s w es
  rw [h] at this
  exact this
theorem haltT_up {α : Type} {p : Program} {s : Sem α} {w w' : World} {a : Halt} {es es' : Array Event} (h : s.runT p w es = (.halt a w', es')) : w.drawn ≤ w'.drawn := by
  have := runT_up (p := p) s w es
  rw [h] at this
  exact this
theorem okF_up {α : Type} {p : Program} {s : Sem α} {w w' : World} {a : α} {es : Array Event} (h : (s.runT p w es).1 = .ok a w') : w.drawn ≤ w'.drawn := by
  have := runT_up (p := p) s w es
  rw [h] at this
  exact this
theorem haltF_up {α : Type} {p : Program} {s : Sem α} {w w' : World} {a : Halt} {es : Array Event} (h : (s.runT p w es).1 = .halt a w') : w.drawn ≤ w'.drawn := by
  have := runT_up (p := p) s w es
  rw [h] at this
  exact this
/-- What was drawn stays drawn, unless the machine ends. -/
def GUp (d : Nat) : GStep → Prop
  | .go _ w _ => d ≤ w.drawn
  | .comm _ _ _ _ w _ => d ≤ w.drawn
  | .spawn _ _ w _ => d ≤ w.drawn
  | .count _ w _ => d ≤ w.drawn
  | .timer _ _ w _ => d ≤ w.drawn
  | .alone _ _ w _ => d ≤ w.drawn
  | .newcoro _ _ _ w _ => d ≤ w.drawn
  | .coroswitch _ _ _ w _ => d ≤ w.drawn
  | .collect _ w _ => d ≤ w.drawn
  | .watch _ w _ => d ≤ w.drawn
  | .ended _ _ _ => True
theorem after_up {d : Nat} {es : Array Event} : ∀ {g : GStep}, GUp d g → GUp d (GStep.after es g)
  | .go .., h | .comm .., h | .spawn .., h | .count .., h | .timer .., h | .alone .., h | .newcoro .., h | .coroswitch .., h | .collect .., h | .watch .., h | .ended .., h => h
variable {p : Program} {d : Nat} {w : World}

theorem endWith_up (fd : Nat) (t : ByteArray) (o : Outcome) : GUp d (endWith w fd t o) := by
  unfold endWith
  ((try simp only); repeat' (first | trivial | assumption | exact Nat.le_trans (by assumption) (okT_up (by assumption)) | exact Nat.le_trans (by assumption) (ok_up (by assumption)) | exact Nat.le_trans (by assumption) (haltT_up (by assumption)) | exact Nat.le_trans (by assumption) (halt_up (by assumption)) | apply after_up | (split <;> try simp only)))
theorem endThrow_up (hd : d ≤ w.drawn) (fr : Frame) (m : String) : GUp d (endThrow fr m w) := hd
theorem dieOf_up (hd : d ≤ w.drawn) (fr : Frame) (l : List ByteArray) (m : String) (b : Bool) : GUp d (dieOf fr l m b w) := hd
theorem endPrinting_up (hd : d ≤ w.drawn) (fr : Frame) (v : Value) : GUp d (endPrinting p fr v w) := by
  unfold endPrinting
  simp only
  split
  · exact hd
  · trivial
theorem endFatal_up (hd : d ≤ w.drawn) (fr : Frame) (cs : List Frame) (dy : Option Dying) (m : String) : GUp d (endFatal p fr cs dy m w) := by
  unfold endFatal
  simp only
  split
  · rename_i h; exact Nat.le_trans hd (ok_up h)
  · trivial
  · trivial
theorem writeOn_up (hd : d ≤ w.drawn) (fr : Frame) (dy : Dying) (f : Fatal) : GUp d (writeOn p fr dy f w) := by
  unfold writeOn
  simp only
  split
  · trivial
  · split
    · rename_i h; exact Nat.le_trans hd (okT_up h)
    · rename_i h; exact Nat.le_trans hd (haltT_up h)
    · trivial
    · trivial
theorem die_up (hd : d ≤ w.drawn) (fr : Frame) (dy : Dying) : GUp d (die p fr dy w) := by
  unfold die
  split
  · exact writeOn_up hd _ _ _
  · split
    · split
      · exact hd
      · exact endWith_up _ _ _
    · simp only
      split
      · exact hd
      · split
        · rename_i h; exact Nat.le_trans hd (ok_up h)
        · trivial
      · refine after_up ?_
        split <;> first | trivial | (rename_i h; exact Nat.le_trans hd (okF_up h)) | (rename_i h; exact endPrinting_up (Nat.le_trans hd (haltF_up h)) _ _)
      · trivial
theorem doReturn_up (hd : d ≤ w.drawn) (main : Bool) (fr : Frame) (cs : List Frame) (dy : Option Dying) (v : Value) : GUp d (doReturn p main fr cs dy v w) := by
  unfold doReturn
  repeat' split
  all_goals first | trivial | exact hd
theorem callDeferred_up (hd : d ≤ w.drawn) (fr : Frame) (cs : List Frame) (dy : Option Dying) (df : Deferred) : GUp d (callDeferred p fr cs dy df w) := by
  unfold callDeferred
  generalize hr : (invoke df.target df.args).runT p w #[] = r
  generalize hc : ((df.target matches .nil) && (fr.mode matches .panicking _)) = c
  cases c
  · have hw : d ≤ (Result.w r.1).drawn := by
      subst hr
      exact Nat.le_trans hd (runT_up _ w #[])
    clear hr
    obtain ⟨r, es⟩ := r
    simp only [Bool.false_eq_true, if_false]
    refine after_up ?_
    split
    all_goals first
      | trivial
      | exact hw
      | exact endFatal_up hw _ _ _ _
      | exact endThrow_up hw _ _
      | (split <;> exact hw)
  · trivial
theorem unwind_up (hd : d ≤ w.drawn) (main : Bool) (fr : Frame) (cs : List Frame) (dy : Option Dying) : GUp d (unwind p main fr cs dy w) := by
  unfold unwind
  split
  · split
    rename_i h
    refine after_up ?_
    split
    · exact Nat.le_trans hd (okT_up h)
    · trivial
  · exact callDeferred_up hd _ _ _ _
  · split
    · trivial
    · split
      · trivial
      · split
        · exact hd
        · split
          · split
            · exact hd
            · split
              · rename_i h; exact Nat.le_trans hd (ok_up h)
              · trivial
              · trivial
          · split
            · exact endPrinting_up hd _ _
            · trivial
    · split
      · exact doReturn_up hd _ _ _ _ _
      · split
        rename_i h
        refine after_up ?_
        split
        · exact doReturn_up (Nat.le_trans hd (okT_up h)) _ _ _ _ _
        · trivial
        · trivial
theorem early_up (hd : d ≤ w.drawn) (fr : Frame) (cs : List Frame) (dy : Option Dying) (g : Nat) : GUp d (early p fr cs dy g w) := by
  have hny : ∀ w : World, d ≤ w.drawn → GUp d (match w.heap[g]? with
    | some (.pending c elem) =>
      .go { frame := fr, callers := cs, status := .running, dying := dy } { w with heap := w.heap.setIfInBounds g (.cells c elem) }
    | _ => .ended (.stuck "early: the variable does not wait" (fr.pos p)) w) := by
    intro w h
    split
    · exact h
    · trivial
  unfold early
  simp only
  split
  · exact hny w hd
  · split
    · trivial
    · split
      · exact hny w hd
      · split
        · exact hny w hd
        · split
          · trivial
          · exact hd
          · trivial
          · exact hny w hd
          · split
            · exact hd
            · split
              · exact hny w hd
              · split
                · rename_i h; exact hny _ (Nat.le_trans hd (ok_up h))
                · rename_i h; exact Nat.le_trans hd (ok_up (by assumption))
                · trivial
theorem apply_up (listen : Bool) (hd : d ≤ w.drawn) (fr : Frame) (cs : List Frame) (dy : Option Dying) (s : Sem Next) : GUp d (stepG.apply p listen fr cs dy s w) := by
  unfold stepG.apply
  simp only
  refine after_up ?_
  generalize hr : (if listen = true then s.runT p w #[] else (s.run p w, #[])) = r
  have hw : d ≤ (Result.w r.1).drawn := by
    subst hr
    split
    · exact Nat.le_trans hd (runT_up s w #[])
    · exact Nat.le_trans hd (run_up s w)
  clear hr
  obtain ⟨r, es⟩ := r
  simp only at hw ⊢
  split
  all_goals first
    | trivial
    | exact hw
    | exact endFatal_up hw _ _ _ _
    | exact endThrow_up hw _ _
    | exact early_up hw _ _ _ _
    | (split <;> first | exact hw | exact endThrow_up hw _ _ | (split <;> exact hw))
theorem oper_up (listen : Bool) (hd : d ≤ w.drawn) (fr : Frame) (cs : List Frame) (dy : Option Dying) : GUp d (stepG.oper p listen fr cs dy w) := by
  unfold stepG.oper
  repeat' split
  all_goals first | trivial | exact apply_up listen hd _ _ _ _
theorem exec_up (main listen : Bool) (hd : d ≤ w.drawn) (fr : Frame) (cs : List Frame) (dy : Option Dying) : GUp d (stepG.exec p main listen fr cs dy w) := by
  have hleave : ∀ (c : Prop) [Decidable c] (jump : Option Code), GUp d (match fr.roundOf with
      | none => if c then .go { frame := { fr with mode := .returning }, callers := cs, status := .running, dying := dy } w else .ended (.stuck "exit, goto: no such block or label" (fr.pos p)) w
      | some l =>
        GStep.after (seen p fr.fn ((Instr.endRound l jump).runT p w #[]).2) (match ((Instr.endRound l jump).runT p w #[]).1 with
        | .ok v w => doReturn p main fr cs dy v w
        | .halt _ w => .ended (.stuck "range over a function: no such loop" (fr.pos p)) w)) := by
    intro c _ jump
    split
    · split
      · exact hd
      · trivial
    · refine after_up ?_
      split
      · rename_i h
        exact doReturn_up (Nat.le_trans hd (okF_up h)) _ _ _ _ _
      · trivial
  unfold stepG.exec
  simp only
  split
  all_goals first
    | trivial
    | exact hd
    | exact hleave _ _
    | exact apply_up listen hd _ _ _ _
    | exact oper_up listen hd _ _ _
    | (split <;> first | trivial | exact hd | exact apply_up listen hd _ _ _ _ | exact oper_up listen hd _ _ _ | (split <;> first | trivial | exact Nat.le_trans hd (ok_up (by assumption))))
    | (refine after_up ?_; split <;> first | trivial | exact Nat.le_trans hd (okF_up (by assumption)) | exact apply_up listen (Nat.le_trans hd (okF_up (by assumption))) _ _ _ _ | exact Nat.le_trans hd (haltF_up (by assumption)))
    | (generalize exitTo _ _ = o; cases o <;> first | exact hleave _ _ | exact hd)
    | (generalize gotoIn _ _ = o; cases o <;> first | exact hleave _ _ | exact hd)
    | (generalize Extern.next _ = o; cases o <;> first | trivial | exact apply_up listen hd _ _ _ _)
theorem stepG_up (main : Bool) (g : Goroutine) (hd : d ≤ w.drawn) (listen : Bool) : GUp d (stepG p main g w listen) := by
  unfold stepG
  simp only
  split
  · exact die_up hd _ _
  · exact exec_up main listen hd _ _ _
  · exact unwind_up hd _ _ _ _
def MUp (d : Nat) : Stepped → Prop
  | .next m => d ≤ m.world.drawn
  | _ => True
def VUp (d : Nat) : Move → Prop
  | .goroutine m _ => d ≤ m.world.drawn
  | .machine s _ => MUp d s
theorem waitingAt_up {rest : Rest} {cases : Array CommCase} {w' : World} (h : waitingAt rest cases w = some w') : w'.drawn = w.drawn := by
  unfold waitingAt at h
  split at h
  · split at h
    · injection h with h; subst h; rfl
    · cases h
  · injection h with h; subst h; rfl
theorem communicate_up (hd : d ≤ w.drawn) (rest : Rest) (gs : Array Goroutine) (i : Nat) (g : Goroutine) (cs : Array CommCase) (b : Bool) (shape : CommShape) : MUp d (communicate p rest gs i g cs b shape w).1 := by
  unfold communicate
  simp only
  generalize cs.any _ = c1
  generalize List.filter _ _ = ready
  generalize hr : Sem.run p _ w = r
  cases c1
  · simp only [Bool.false_eq_true, if_false]
    split
    · split
      · split
        · rename_i h; exact Nat.le_trans hd (Nat.le_of_eq (waitingAt_up h).symm)
        · trivial
      · exact hd
    · split
      · trivial
      · rename_i k c way w1
        have h1 := Nat.le_trans hd (ok_up hr)
        clear hr
        generalize w1.heap[(_ : Nat)]? = ho
        generalize c.send = cse
        split
        · generalize hr2 : Sem.run p (runtimePanic _) w1 = r2
          split
          · exact Nat.le_trans h1 (halt_up hr2)
          · trivial
        · exact h1
        · exact h1
        · generalize partners gs _ true = ps
          split
          · exact h1
          · rename_i ps _ 
            generalize hr2 : Sem.run p (choose _) w1 = r2
            split
            · have h2 := ok_up hr2; exact Nat.le_trans h1 h2
            · trivial
        · exact h1
        · exact h1
        · trivial
  · trivial
theorem look_up (hd : d ≤ w.drawn) (gs : Array Goroutine) (rest : Rest) : MUp d (look p gs rest w) := by
  unfold look
  split
  · simp only
    generalize (_ || _ : Bool) = c1
    cases c1
    · simp only [Bool.false_eq_true, if_false]
      split
      · trivial
      · generalize hr : Sem.run p _ w = r
        cases r with
        | ok a w' => have h2 := ok_up hr; exact Nat.le_trans hd h2
        | halt h w' => cases h <;> trivial
    · trivial
  · trivial
theorem serve_up (m : Machine) (hd : d ≤ m.world.drawn) (k : Nat) : MUp d (serve p m k) := by
  unfold serve
  simp only
  repeat' (first | trivial | exact hd | split)
theorem drain_drawn (w : World) (c : Nat) : (drain w c).2.drawn = w.drawn := by
  unfold drain
  split <;> rfl
theorem retime_up (m : Machine) (k : Nat) (t : Timer) (a b : Nat) : (retime m k t a b).2.world.drawn = m.world.drawn := by
  unfold retime
  simp only
  split
  · exact drain_drawn _ _
  · rfl
theorem timerOp_up (m : Machine) (op : TimerOp) {v : Value} {m' : Machine} (h : timerOp m op = .ok (v, m')) : m'.world.drawn = m.world.drawn := by
  have hn : ∀ (var : Addr) (f : Nat → Timer → Value × Machine), (∀ k t, (f k t).2.world.drawn = m.world.drawn) → ∀ v m', timerOp.named m var f = .ok (v, m') → m'.world.drawn = m.world.drawn := by
    intro var f hf v m' h
    unfold timerOp.named at h
    split at h
    · injection h with h
      rename_i c _
      have := hf c (m.rest.timers.getD c default)
      rw [h] at this
      exact this
    · cases h
  unfold timerOp at h
  split at h
  · split at h
    · injection h with h; injection h with h1 h2; subst h2; rfl
    · split at h
      · split at h
        · cases h
        · injection h with h; injection h with h1 h2; subst h2; rfl
      · cases h
  · exact hn _ _ (fun k t => retime_up _ _ _ _ _) _ _ h
  · split at h
    · rename_i m1 e
      have h1 : m1.world.drawn = m.world.drawn := by
        unfold timerOp.opened at e
        split at e
        · split at e
          · injection e with e; subst e; rfl
          · cases e
        · injection e with e; subst e; rfl
      exact hn _ _ (fun k t => (retime_up _ _ _ _ _).trans h1) _ _ h
    · cases h
  · injection h with h; injection h with h1 h2; subst h2; rfl
theorem runT_mup (m : Machine) (i : Nat) (listen : Bool) (hd : d ≤ m.world.drawn) : MUp d (runT p m i listen).1 := by
  unfold runT
  simp only
  have h := fun g => stepG_up (p := p) (w := m.world) (i == 0) g hd listen
  generalize (m.gs.swapAt! i { (default : Goroutine) with status := .finished }) = gg at *
  obtain ⟨g, gs⟩ := gg
  simp only
  have h := h g
  generalize stepG p (i == 0) g m.world listen = s at *
  cases s with
  | ended o w _ => trivial
  | comm g cs b sh w _ => exact communicate_up h _ _ _ _ _ _ _
  | go g w _ => exact h
  | spawn g c w _ => exact h
  | count g w _ => simp only; split <;> first | trivial | exact h
  | alone g on w _ => exact h
  | collect g w _ => exact look_up h _ _
  | watch g w _ => exact h
  | newcoro g c df w _ => exact h
  | coroswitch g c e w _ =>
    simp only
    split
    · exact h
    · split
      · rename_i e; have := endThrow_up h g.frame "coroswitch on exited coro"; rw [e] at this; exact this
      · trivial
    · trivial
  | timer g op w _ =>
    simp only
    split
    · rename_i e; exact Nat.le_trans h (Nat.le_of_eq (timerOp_up _ _ e).symm)
    · split
      · rename_i msg _ _ _ _ _ e; have := endThrow_up h g.frame msg; rw [e] at this; exact this
      · trivial
    · trivial
    · trivial
theorem askOn_up (m : Machine) (hd : d ≤ m.world.drawn) : VUp d (askOn p m) := by
  have hpick : ∀ (m : Machine) (rs : List Nat), d ≤ m.world.drawn → VUp d (match (choose (.sched rs.length)).run p m.world with
      | .halt _ w => .machine (.ended (.stuck "sched" "") w)
      | .ok k world =>
        if rs.length ≤ 1 then .goroutine { m with world } (rs.getD k 0) else
        match (choose (.extern "sched.slice" 65536)).run p world with
        | .halt _ w => .machine (.ended (.stuck "sched.slice" "") w)
        | .ok n world => .goroutine { m with world, rest := { m.rest with slice := if n = 0 then none else some (rs.getD k 0, n) } } (rs.getD k 0)) := by
    intro m rs hd
    split
    · trivial
    · rename_i e
      split
      · exact Nat.le_trans hd (ok_up e)
      · split
        · trivial
        · rename_i e2; exact Nat.le_trans (Nat.le_trans hd (ok_up e)) (ok_up e2)
  unfold askOn
  simp only
  split
  · trivial
  · rename_i e
    have h1 := Nat.le_trans hd (ok_up e)
    split
    · exact serve_up _ h1 _
    · split
      · split
        · exact h1
        · split
          · exact h1
          · split <;> trivial
      · split
        · exact hpick { m with world := _ } _ h1
        · split
          · trivial
          · rename_i e2; exact hpick { m with world := _ } _ (Nat.le_trans h1 (ok_up e2))
          · rename_i e2; have h2 := ok_up e2; exact Nat.le_trans h1 h2
          · rename_i e2; have h2 := ok_up e2; exact hpick (Machine.advanceTo { m with world := _ } _) _ (Nat.le_trans h1 h2)
theorem ask_mup (m : Machine) (hd : d ≤ m.world.drawn) : VUp d (ask p m) := by
  unfold ask
  split
  · split
    · trivial
    · rename_i e
      have h1 := look_up (p := p) (Nat.le_trans hd (ok_up e)) m.gs m.rest
      split
      · rename_i e2
        rw [e2] at h1
        exact askOn_up _ h1
      · exact h1
    · rename_i e; exact askOn_up _ (Nat.le_trans hd (ok_up (by assumption)))
  · exact askOn_up _ hd
theorem step_up {m m' : Machine} (h : step p m = .next m') : m.world.drawn ≤ m'.world.drawn := by
  have hm : VUp m.world.drawn (move p m) := by
    unfold move
    split
    · split
      · exact Nat.le_refl _
      · trivial
    · split
      · split
        · exact Nat.le_refl _
        · exact ask_mup _ (Nat.le_refl _)
      · exact ask_mup _ (Nat.le_refl _)
  unfold step stepT at h
  split at h
  · rename_i e
    rw [e] at hm
    have := runT_mup (p := p) _ (by assumption) true hm
    rw [h] at this
    exact this
  · rename_i e
    rw [e] at hm
    simp only at h
    subst h
    exact hm
theorem runN_up : ∀ (n : Nat) {m m' : Machine}, runN p n m = .next m' → m.world.drawn ≤ m'.world.drawn
  | 0, m, m', h => by
    unfold runN at h
    injection h with h
    subst h
    exact Nat.le_refl _
  | n + 1, m, m', h => by
    unfold runN at h
    split at h
    · rename_i e
      exact Nat.le_trans (step_up e) (runN_up n h)
    · rename_i e
      exact absurd h (e _)
/-- WHAT WAS DRAWN STAYS DRAWN, OVER ANY CALL THAT RETURNS. -/
theorem calls_up {f : FuncId} {args : Array Value} {w : World} {R : Ending → World → Prop} (h : Calls p f args w R) : Calls p f args w fun e w' => R e w' ∧ ((∃ v, e = .returned v) → w.drawn ≤ w'.drawn) := by
  intro cs
  obtain ⟨e, w', fr, h1, h2, h3, h4⟩ := h cs
  refine ⟨e, w', fr, ⟨h1, ?_⟩, h2, h3, h4⟩
  rintro ⟨v, rfl⟩
  obtain ⟨n, hn⟩ := h2
  exact runN_up n hn
end Go.Av
