import Derived.Test.YtjfaafnngloblaaUp
/- The tape is never asked backwards: a step of one goroutine. -/
namespace Go.Proofs.Ytjfaafnngloblaa.Up
open Go
set_option linter.unusedVariables false
set_option linter.unusedSimpArgs false

/-- A goroutine's step, whose world has been asked at least 'n' times (nothing is said of a program that has ended). -/
def GUp (n : Nat) : GStep → Prop
  | .go _ w _ => n ≤ w.drawn
  | .comm _ _ _ _ w _ => n ≤ w.drawn
  | .spawn _ _ w _ => n ≤ w.drawn
  | .count _ w _ => n ≤ w.drawn
  | .timer _ _ w _ => n ≤ w.drawn
  | .alone _ _ w _ => n ≤ w.drawn
  | .newcoro _ _ _ w _ => n ≤ w.drawn
  | .coroswitch _ _ _ w _ => n ≤ w.drawn
  | .collect _ w _ => n ≤ w.drawn
  | .watch _ w _ => n ≤ w.drawn
  | .ended _ _ _ => True

theorem GUp.after {n : Nat} {es : Array Event} {g : GStep} (h : GUp n g) : GUp n (g.after es) := by
  cases g <;> exact h

theorem gup_ite {n : Nat} {c : Prop} [Decidable c] {a b : GStep} (ha : c → GUp n a) (hb : ¬ c → GUp n b) : GUp n (if c then a else b) := by
  split
  · exact ha (by assumption)
  · exact hb (by assumption)

theorem ok_up {α : Type} {p : Program} {s : Sem α} {w w' : World} {a : α} {n : Nat} (h : s.run p w = .ok a w') (hn : n ≤ w.drawn) : n ≤ w'.drawn := by
  have := run_up p s w
  rw [h] at this
  exact Nat.le_trans hn this

theorem halt_up {α : Type} {p : Program} {s : Sem α} {w w' : World} {a : Halt} {n : Nat} (h : s.run p w = .halt a w') (hn : n ≤ w.drawn) : n ≤ w'.drawn := by
  have := run_up p s w
  rw [h] at this
  exact Nat.le_trans hn this

theorem okT_up {α : Type} {p : Program} {s : Sem α} {w w' : World} {es : Array Event} {a : α} {n : Nat} (h : (s.runT p w es).1 = .ok a w') (hn : n ≤ w.drawn) : n ≤ w'.drawn := by
  rw [runT_fst] at h; exact ok_up h hn

theorem haltT_up {α : Type} {p : Program} {s : Sem α} {w w' : World} {es : Array Event} {a : Halt} {n : Nat} (h : (s.runT p w es).1 = .halt a w') (hn : n ≤ w.drawn) : n ≤ w'.drawn := by
  rw [runT_fst] at h; exact halt_up h hn

theorem dieOf_up {fr : Frame} {a : List ByteArray} {m : String} {b : Bool} {w : World} {n : Nat} (hn : n ≤ w.drawn) : GUp n (dieOf fr a m b w) := hn
theorem endThrow_up {fr : Frame} {m : String} {w : World} {n : Nat} (hn : n ≤ w.drawn) : GUp n (endThrow fr m w) := hn

theorem endWith_up {w : World} {fd : Nat} {t : ByteArray} {o : Outcome} {n : Nat} : GUp n (endWith w fd t o) := by
  simp only [endWith]
  repeat' (first | trivial | split)

theorem endPrinting_up {p : Program} {fr : Frame} {v : Value} {w : World} {n : Nat} (hn : n ≤ w.drawn) : GUp n (endPrinting p fr v w) := by
  simp only [endPrinting]
  split
  · exact endThrow_up hn
  · trivial

theorem endFatal_up {p : Program} {fr : Frame} {cs : List Frame} {d : Option Dying} {m : String} {w : World} {n : Nat} (hn : n ≤ w.drawn) : GUp n (endFatal p fr cs d m w) := by
  simp only [endFatal]
  split
  · rename_i h; exact dieOf_up (ok_up h hn)
  · trivial
  · trivial

theorem writeOn_up {p : Program} {fr : Frame} {d : Dying} {f : Fatal} {w : World} {n : Nat} (hn : n ≤ w.drawn) : GUp n (writeOn p fr d f w) := by
  simp only [writeOn]
  split
  · trivial
  · split
    · rename_i h; exact okT_up (congrArg Prod.fst h) hn
    · rename_i h; exact haltT_up (congrArg Prod.fst h) hn
    · trivial
    · trivial

theorem die_up {p : Program} {fr : Frame} {d : Dying} {w : World} {n : Nat} (hn : n ≤ w.drawn) : GUp n (die p fr d w) := by
  unfold die
  split
  · exact writeOn_up hn
  · split
    · split
      · exact hn
      · exact endWith_up
    · simp only
      split
      · exact hn
      · split
        · rename_i h; exact ok_up h hn
        · trivial
      · refine GUp.after ?_
        split
        · rename_i h; exact okT_up h hn
        · rename_i h; exact okT_up h hn
        · trivial
        · rename_i h; exact endPrinting_up (haltT_up h hn)
        · trivial
      · trivial

theorem doReturn_up {p : Program} {main : Bool} {fr : Frame} {cs : List Frame} {d : Option Dying} {v : Value} {w : World} {n : Nat} (hn : n ≤ w.drawn) : GUp n (doReturn p main fr cs d v w) := by
  unfold doReturn
  split
  · split <;> exact hn
  · split
    · exact hn
    · trivial
    · split
      · exact hn
      · split
        · exact hn
        · trivial

theorem callDeferred_up {p : Program} {fr : Frame} {cs : List Frame} {d : Option Dying} {df : Deferred} {w : World} {n : Nat} (hn : n ≤ w.drawn) : GUp n (callDeferred p fr cs d df w) := by
  unfold callDeferred
  refine gup_ite (fun _ => trivial) fun _ => ?_
  · rcases hr : (invoke df.target df.args).runT p w #[] with ⟨r, es⟩
    have hw : n ≤ (Result.world r).drawn := by
      have h1 := runT_fst p (invoke df.target df.args) w #[]
      rw [hr] at h1
      have h2 := run_up p (invoke df.target df.args) w
      rw [← h1] at h2
      exact Nat.le_trans hn h2
    clear hr
    refine GUp.after ?_
    cases r with
    | ok v w' =>
      cases v <;> first | exact hw | trivial | skip
      case recover => simp only; split <;> exact hw
      case coroswitch c e => cases e <;> first | exact hw | trivial
      case alone e v => cases e <;> first | exact hw | trivial
    | halt h w' =>
      cases h <;> first | exact hw | trivial | exact endFatal_up hw | exact endThrow_up hw

theorem unwind_up {p : Program} {main : Bool} {fr : Frame} {cs : List Frame} {d : Option Dying} {w : World} {n : Nat} (hn : n ≤ w.drawn) : GUp n (unwind p main fr cs d w) := by
  unfold unwind
  split
  · refine GUp.after ?_
    split
    · rename_i h; exact okT_up h hn
    · trivial
  · exact callDeferred_up hn
  · split
    · trivial
    · split
      · trivial
      · split
        · exact hn
        · split
          · split
            · exact hn
            · split
              · rename_i h; exact ok_up h hn
              · trivial
              · trivial
          · split
            · exact endPrinting_up hn
            · trivial
    · split
      · exact doReturn_up hn
      · refine GUp.after ?_
        split
        · rename_i h; exact doReturn_up (okT_up h hn)
        · trivial
        · trivial

theorem early_up {p : Program} {fr : Frame} {cs : List Frame} {d : Option Dying} {g : Nat} {w : World} {n : Nat} (hn : n ≤ w.drawn) : GUp n (early p fr cs d g w) := by
  have ny : ∀ w : World, n ≤ w.drawn → GUp n (match w.heap[g]? with
    | some (.pending c elem) => .go { frame := fr, callers := cs, status := .running, dying := d } { w with heap := w.heap.setIfInBounds g (.cells c elem) }
    | _ => .ended (.stuck "early: the variable does not wait" (fr.pos p)) w) := by
    intro w hn
    split
    · exact hn
    · trivial
  simp only [early]
  repeat' (first | exact ny _ hn | trivial | exact hn | (rename_i h; exact ny _ (ok_up h hn)) | (rename_i h; exact (ok_up h hn : n ≤ World.drawn _)) | split)
end Go.Proofs.Ytjfaafnngloblaa.Up
