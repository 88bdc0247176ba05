import Derived.Test.YtjfaafnngloblaaUp2
import Derived.Lib.QuietBelow
/- The tape is never asked backwards: a step of the machine, many steps, a call. -/
namespace Go.Proofs.Ytjfaafnngloblaa.Up
open Go Go.Sort Go.RowKit
set_option linter.unusedVariables false
set_option linter.unusedSimpArgs false

theorem gup_ifp {n : Nat} {c : Prop} [Decidable c] {a b : Result Next × Array Event} {P : Result Next × Array Event → Prop} (ha : P a) (hb : P b) : P (if c then a else b) := by
  split
  · exact ha
  · exact hb

theorem apply_up {p : Program} {main listen : Bool} {fr : Frame} {cs : List Frame} {d : Option Dying} {s : Sem Next} {w : World} {n : Nat} (hn : n ≤ w.drawn) : GUp n (stepG.apply p listen fr cs d s w) := by
  unfold stepG.apply
  rcases hr : (if listen = true then s.runT p w #[] else (s.run p w, #[])) with ⟨r, es⟩
  have hw : n ≤ (Result.world r).drawn := by
    have h1 : (if listen = true then s.runT p w #[] else (s.run p w, #[])).1 = s.run p w := by
      split
      · exact runT_fst _ _ _ _
      · rfl
    rw [hr] at h1
    have h2 := run_up p s w
    rw [← h1] at h2
    exact Nat.le_trans hn h2
  clear hr
  refine GUp.after ?_
  cases r with
  | ok v w' =>
    cases v <;> first | exact hw | trivial | skip
    case recover => simp only; split <;> exact hw
    case spawn => exact gup_ite (fun _ => endThrow_up hw) fun _ => hw
    case callThen => simp only; split <;> exact hw
    case row => simp only; split <;> exact hw
    case stack => simp only; split <;> exact hw
  | halt h w' =>
    cases h <;> first | exact hw | trivial | exact endFatal_up hw | exact endThrow_up hw | skip
    case unsupported u => cases u <;> first | trivial | exact early_up hw

theorem oper_up {p : Program} {listen : Bool} {fr : Frame} {cs : List Frame} {d : Option Dying} {w : World} {n : Nat} (hn : n ≤ w.drawn) : GUp n (stepG.oper p listen fr cs d w) := by
  unfold stepG.oper
  split
  · trivial
  · split
    · exact apply_up (main := false) hn
    · exact apply_up (main := false) hn

theorem gup_elim {α : Type} {n : Nat} {o : Option α} {a : GStep} {f : α → GStep} (ha : GUp n a) (hf : ∀ x, GUp n (f x)) : GUp n (o.elim a f) := by
  cases o with
  | none => exact ha
  | some x => exact hf x

theorem exec_up {p : Program} {main listen : Bool} {fr : Frame} {cs : List Frame} {d : Option Dying} {w : World} {n : Nat} (hn : n ≤ w.drawn) : GUp n (stepG.exec p main listen fr cs d w) := by
  unfold stepG.exec
  dsimp only
  split
  all_goals repeat' (first
    | exact hn
    | trivial
    | exact apply_up (main := main) hn
    | exact oper_up hn
    | (rename_i h; exact doReturn_up (okT_up h hn))
    | (rename_i h; exact apply_up (main := main) (okT_up h hn))
    | (rename_i h; exact (okT_up h hn : n ≤ World.drawn _))
    | (rename_i h; exact (haltT_up h hn : n ≤ World.drawn _))
    | (rename_i h; exact (ok_up h hn : n ≤ World.drawn _))
    | refine GUp.after ?_
    | refine gup_elim ?_ fun _ => ?_
    | refine gup_ite (fun _ => ?_) fun _ => ?_
    | split)

theorem stepG_up {p : Program} {main listen : Bool} {g : Goroutine} {w : World} : GUp w.drawn (stepG p main g w listen) := by
  unfold stepG
  simp only
  split
  · exact die_up (Nat.le_refl _)
  · exact exec_up (Nat.le_refl _)
  · exact unwind_up (Nat.le_refl _)

/-- What the machine has stepped to: nothing is said of a program that has ended. -/
def SUp (n : Nat) : Stepped → Prop
  | .next m => n ≤ m.world.drawn
  | .ended _ _ => True

theorem sup_ite {n : Nat} {c : Prop} [Decidable c] {a b : Stepped × Array MemOp} (ha : c → SUp n a.1) (hb : ¬ c → SUp n b.1) : SUp n (if c then a else b).1 := by
  split
  · exact ha (by assumption)
  · exact hb (by assumption)

theorem waitingAt_up {rest : Rest} {cases_ : Array CommCase} {w w' : World} (h : waitingAt rest cases_ w = some w') : w'.drawn = w.drawn := by
  unfold waitingAt at h
  split at h
  · split at h
    · cases h; rfl
    · cases h
  · cases h; rfl

theorem communicate_up {p : Program} {rest : Rest} {gs : Array Goroutine} {i : Nat} {g : Goroutine} {cases_ : Array CommCase} {blocking : Bool} {shape : CommShape} {w : World} {n : Nat} (hn : n ≤ w.drawn) :
    SUp n (communicate p rest gs i g cases_ blocking shape w).1 := by
  unfold communicate
  refine sup_ite (fun _ => trivial) fun _ => ?_
  refine sup_ite (fun _ => sup_ite (fun _ => ?_) fun _ => hn) fun _ => ?_
  · split
    · rename_i h; have := waitingAt_up h; exact (by rw [this]; exact hn : n ≤ World.drawn _)
    · trivial
  · simp only
    split
    · trivial
    · rename_i h
      have h1 := ok_up h hn
      clear h
      split
      · split
        · rename_i h; exact halt_up h h1
        · trivial
      · exact h1
      · exact h1
      · split
        · exact h1
        · split
          · rename_i h; have h2 := ok_up h h1; exact h2
          · trivial
      · exact h1
      · exact h1
      · trivial

theorem look_up {p : Program} {gs : Array Goroutine} {rest : Rest} {w : World} {n : Nat} (hn : n ≤ w.drawn) : SUp n (look p gs rest w) := by
  simp only [look]
  repeat' (first | trivial | (rename_i h; exact (ok_up h hn : n ≤ World.drawn _)) | split)

theorem serve_up {p : Program} {m : Machine} {k : Nat} {n : Nat} (hn : n ≤ m.world.drawn) : SUp n (serve p m k) := by
  unfold serve
  split
  · trivial
  · exact hn
  · simp only
    split
    · trivial
    · exact hn

theorem drain_up (w : World) (c : Nat) : (drain w c).2.drawn = w.drawn := by
  unfold drain; split <;> rfl

theorem retime_up (m : Machine) (k : Nat) (t : Timer) (a b : Nat) : (retime m k t a b).2.world.drawn = m.world.drawn := by
  unfold retime
  cases h : t.chan with
  | none => rfl
  | some c => exact drain_up _ _

theorem timerOp_up {m m' : Machine} {op : TimerOp} {v : Value} (h : timerOp m op = .ok (v, m')) : m'.world.drawn = m.world.drawn := by
  have hnamed : ∀ (m0 m : Machine) (var : Addr) (a : Nat) (b : Timer → Nat) (v : Value) (m' : Machine), timerOp.named m0 var (fun k t => retime m k t a (b t)) = .ok (v, m') → m'.world.drawn = m.world.drawn := by
    intro m0 m var a b v m' h
    unfold timerOp.named at h
    split at h
    · rename_i k hk
      have : m' = (retime m k (m0.rest.timers.getD k default) a (b (m0.rest.timers.getD k default))).2 := by
        injection h with h
        have h2 : retime m k (m0.rest.timers.getD k default) a (b (m0.rest.timers.getD k default)) = (v, m') := h
        rw [h2]
      rw [this]
      exact retime_up _ _ _ _ _
    · cases h
  cases op with
  | new t =>
    simp only [timerOp] at h
    split at h
    · cases h; rfl
    · split at h
      · split at h
        · cases h
        · cases h; rfl
      · cases h
  | stop var => exact hnamed m m var 0 (fun t => t.period) v m' h
  | reset var a b =>
    simp only [timerOp] at h
    split at h
    · rename_i m1 h1
      have e1 : m1.world.drawn = m.world.drawn := by
        unfold timerOp.opened at h1
        split at h1
        · split at h1
          · cases h1; rfl
          · cases h1
        · cases h1; rfl
      rw [← e1]
      exact hnamed m m1 var a (fun _ => b) v m' h
    · cases h
  | deadline => simp only [timerOp] at h; cases h; rfl

theorem runT_machine_up {p : Program} {m : Machine} {i : Nat} {listen : Bool} : SUp m.world.drawn (runT p m i listen).1 := by
  have hg := fun g => @stepG_up p (i == 0) listen g m.world
  unfold runT
  dsimp only
  have h := hg (m.gs.swapAt! i { (default : Goroutine) with status := .finished }).1
  generalize stepG p (i == 0) (m.gs.swapAt! i { (default : Goroutine) with status := .finished }).1 m.world listen = s at h ⊢
  split
  · trivial
  · exact communicate_up h
  · exact h
  · exact h
  · show SUp _ (if _ then _ else _)
    split
    · trivial
    · exact h
  · exact h
  · exact look_up h
  · exact h
  · exact h
  · split
    · exact h
    · exact h
    · trivial
  · split
    · rename_i h1
      have := timerOp_up h1
      exact (by rw [this]; exact h : m.world.drawn ≤ World.drawn _)
    · exact h
    · trivial
    · trivial

/-- What a move has brought. -/
def MUp (n : Nat) : Move → Prop
  | .goroutine m _ => n ≤ m.world.drawn
  | .machine s _ => SUp n s

theorem mup_ite {n : Nat} {c : Prop} [Decidable c] {a b : Move} (ha : c → MUp n a) (hb : ¬ c → MUp n b) : MUp n (if c then a else b) := by
  split
  · exact ha (by assumption)
  · exact hb (by assumption)

theorem askOn_up {p : Program} {m : Machine} {n : Nat} (hn : n ≤ m.world.drawn) : MUp n (askOn p m) := by
  have hpick : ∀ m' : Machine, n ≤ m'.world.drawn → MUp n (match (choose (.sched (runnable m.gs m.world.os.mono).length)).run p m'.world with
      | .halt _ w => .machine (.ended (.stuck "sched" "") w)
      | .ok k world =>
        if (runnable m.gs m.world.os.mono).length ≤ 1 then .goroutine { m' with world } ((runnable m.gs m.world.os.mono).getD k 0) else
        match (choose (.extern "sched.slice" 65536)).run p world with
        | .halt _ w => .machine (.ended (.stuck "sched.slice" "") w)
        | .ok n world => .goroutine { m' with world, rest := { m'.rest with slice := if n = 0 then none else some ((runnable m.gs m.world.os.mono).getD k 0, n) } } ((runnable m.gs m.world.os.mono).getD k 0)) := by
    intro m' hn
    split
    · trivial
    · rename_i h
      have h1 := ok_up h hn
      refine mup_ite (fun _ => h1) fun _ => ?_
      split
      · trivial
      · rename_i h; exact ok_up h h1
  unfold askOn
  dsimp only
  split
  · trivial
  · rename_i h
    have h1 := ok_up h hn
    clear h
    refine mup_ite (fun _ => serve_up h1) fun _ => ?_
    split
    · split
      · exact h1
      · refine mup_ite (fun _ => h1) fun _ => ?_
        split
        · trivial
        · trivial
    · split
      · exact hpick { m with world := _ } h1
      · split
        · trivial
        · rename_i h; exact hpick { m with world := _ } (ok_up h h1)
        · rename_i h; have h2 := ok_up h h1; exact h2
        · rename_i h; have h2 := ok_up h h1; exact hpick _ h2

theorem ask_up' {p : Program} {m : Machine} {n : Nat} (hn : n ≤ m.world.drawn) : MUp n (ask p m) := by
  unfold ask
  refine mup_ite (fun _ => ?_) fun _ => askOn_up hn
  split
  · trivial
  · rename_i h
    have h1 := ok_up h hn
    clear h
    have h2 := @look_up p m.gs m.rest _ n h1
    split
    · rename_i h3; rw [h3] at h2; exact askOn_up h2
    · exact h2
  · rename_i h
    exact askOn_up (ok_up h hn)

theorem move_up {p : Program} {m : Machine} : MUp m.world.drawn (move p m) := by
  unfold move
  split
  · exact mup_ite (fun _ => Nat.le_refl _) fun _ => trivial
  · split
    · exact mup_ite (fun _ => Nat.le_refl _) fun _ => ask_up' (Nat.le_refl _)
    · exact ask_up' (Nat.le_refl _)

theorem step_up {p : Program} {m m' : Machine} (h : step p m = .next m') : m.world.drawn ≤ m'.world.drawn := by
  have hm := @move_up p m
  unfold step stepT at h
  split at h
  · rename_i m1 i h1
    rw [h1] at hm
    have h2 := @runT_machine_up p m1 i true
    rw [h] at h2
    exact Nat.le_trans hm h2
  · rename_i s ops h1
    rw [h1] at hm
    simp only at h
    rw [h] at hm
    exact hm

theorem steps_up {p : Program} {m m' : Machine} (h : Steps p m m') : m.world.drawn ≤ m'.world.drawn := by
  obtain ⟨k, hk⟩ := h
  induction k generalizing m with
  | zero => cases hk; exact Nat.le_refl _
  | succ k ih =>
    simp only [runN] at hk
    split at hk
    · rename_i m1 h1
      exact Nat.le_trans (step_up h1) (ih hk)
    · rename_i h1
      rw [hk] at h1
      exact absurd rfl (h1 m')

theorem calls_up {P : Program} {f : FuncId} {args : Array Value} {w : World} {R : Ending → World → Prop} (h : Calls P f args w R) (hr : ∀ e w', R e w' → ∃ v, e = .returned v) :
    Calls P f args w fun e w' => R e w' ∧ w.drawn ≤ w'.drawn := by
  intro cs
  obtain ⟨e, w', fr, hR, hc, hf, hl⟩ := h cs
  obtain ⟨v, rfl⟩ := hr e w' hR
  exact ⟨_, w', fr, ⟨hR, steps_up hc⟩, hc, hf, hl⟩

/-- A call that leaves what was there as it was: how often the tape has been asked, and which blocks have been laid. -/
theorem calls_grown {P : Program} {f : FuncId} {args : Array Value} {w : World} {v : Value} (h : Calls P f args w fun e w' => e = .returned v ∧ Below w.heap.size w w') :
    Calls P f args w fun e w' => e = .returned v ∧ ∃ q os', w' = grow (w.drewN q) os' := by
  refine (calls_up h fun e w' h => ⟨v, h.1⟩).mono ?_
  rintro e w' ⟨⟨rfl, hb⟩, hu⟩
  refine ⟨rfl, w'.drawn - w.drawn, ?_⟩
  obtain ⟨⟨d, os'⟩, hp⟩ := regrown_of_below hb
  refine ⟨os', ?_⟩
  have hd : w'.drawn = d := by rw [hp]; rfl
  have hq : w.drawn + (w'.drawn - w.drawn) = d := by omega
  have e1 : w.drewN (w'.drawn - w.drawn) = redrawn w d := by
    simp only [World.drewN, redrawn, hq]
  rw [e1]
  exact hp

end Go.Proofs.Ytjfaafnngloblaa.Up
