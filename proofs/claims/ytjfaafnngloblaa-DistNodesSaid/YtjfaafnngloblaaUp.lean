import Derived.Calls
/- The tape is never asked backwards: a step of the machine never makes the count of draws smaller. -/
namespace Go.Proofs.Ytjfaafnngloblaa.Up
open Go
set_option linter.unusedVariables false
set_option linter.unusedSimpArgs false

theorem ask_up {α : Type} (q : Ask α) (w : World) : w.drawn ≤ (w.ask q).2.drawn := by
  induction q generalizing w with
  | done a => simp [World.ask]
  | ask what range k ih =>
    simp only [World.ask]
    split
    · exact ih _ _
    · exact Nat.le_trans (Nat.le_succ _) (ih _ { w with drawn := w.drawn + 1 })

theorem sys_up (w : World) (c : Sys) : w.drawn ≤ (w.sys c).2.drawn := by
  have h := ask_up (Kernel.perform c w.os) w
  unfold World.sys
  split
  · exact Nat.le_refl _
  · rename_i r os w2 h2
    rw [h2] at h
    exact h

theorem viewStore_up {p : Program} {w w' : World} {a : Addr} {u : TypeId} {k : Addr} {v : Value} {at_ : Bool} {l : List Addr} (h : w.viewStore p a u k v at_ = .ok (w', l)) : w'.drawn = w.drawn := by
  unfold World.viewStore at h
  simp only [bind, Except.bind, pure, Except.pure, throw, throwThe, MonadExceptOf.throw] at h
  repeat' (split at h <;> try contradiction)
  all_goals (cases h; rfl)

theorem farStore_up {p : Program} {w w' : World} {a : Addr} {v : Value} {at_ : Bool} {l : List Addr} (h : w.farStore p a v at_ = .ok (w', l)) : w'.drawn = w.drawn := by
  unfold World.farStore at h
  split at h
  · split at h
    · rename_i r h1
      cases h
      exact viewStore_up h1
    · cases h
  · cases h

theorem freeze_up (w : World) (a : Addr) (n : Nat) : (w.freeze a n).drawn = w.drawn := by
  unfold World.freeze; split <;> rfl

def Result.world {α : Type} : Result α → World
  | .ok _ w => w
  | .halt _ w => w

theorem run_up {α : Type} (p : Program) (s : Sem α) (w : World) : w.drawn ≤ (Result.world (s.run p w)).drawn := by
  induction s generalizing w with
  | pure a => exact Nat.le_refl _
  | load m a k ih =>
    simp only [Sem.run]
    split
    · exact ih _ _
    · split
      · exact ih _ _
      · exact Nat.le_refl _
  | store m a v k ih =>
    have key : w.drawn ≤ (Result.world (match w.cell? a with
      | some _ => if w.frozen? a then .halt (.unsupported (.unsafePointer "a write to bytes that a string shares")) w else k.run p (w.setCell a v)
      | none => match w.farStore p a v (m == .atomic) with
        | .ok (w, _) => k.run p w
        | .error h => .halt h w)).drawn := by
      split
      · split
        · exact Nat.le_refl _
        · exact ih (w.setCell a v)
      · split
        · rename_i w' l h2
          have := farStore_up h2
          have := ih w'
          omega
        · exact Nat.le_refl _
    cases v <;> simp only [Sem.run] <;> first | exact Nat.le_refl _ | exact key
  | new o k ih => simp only [Sem.run]; exact ih _ { w with heap := w.heap.push o }
  | shape r k ih => simp only [Sem.run]; exact ih _ _
  | freeze a n k ih => simp only [Sem.run]; have := ih (w.freeze a n); rw [freeze_up] at this; exact this
  | frozen a k ih => simp only [Sem.run]; exact ih _ _
  | getObj r k ih =>
    simp only [Sem.run]
    split
    · exact Nat.le_refl _
    · exact ih _ _
    · exact Nat.le_refl _
  | setObj r o k ih =>
    simp only [Sem.run]
    split
    · exact Nat.le_refl _
    · exact ih { w with heap := w.heap.setIfInBounds r o }
    · exact Nat.le_refl _
  | choose q k ih =>
    simp only [Sem.run]
    split
    · exact ih _ _
    · exact Nat.le_trans (Nat.le_succ _) (ih _ { w with drawn := w.drawn + 1 })
  | sys c k ih => simp only [Sem.run]; exact Nat.le_trans (sys_up w c) (ih _ _)
  | program k ih => simp only [Sem.run]; exact ih _ _
  | mark m k ih => simp only [Sem.run]; exact ih _
  | halt h => exact Nat.le_refl _

theorem runT_fst {α : Type} (p : Program) (s : Sem α) (w : World) (es : Array Event) : (s.runT p w es).1 = s.run p w := by
  induction s generalizing w es with
  | pure a => rfl
  | load m a k ih =>
    simp only [Sem.run, Sem.runT]
    split
    · exact ih _ _ _
    · split
      · exact ih _ _ _
      · rfl
  | store m a v k ih =>
    cases v <;> simp only [Sem.run, Sem.runT] <;> first | rfl | (split <;> (first | rfl | (split <;> first | rfl | exact ih _ _)))
  | new o k ih => simp only [Sem.run, Sem.runT]; exact ih _ _ _
  | shape r k ih => simp only [Sem.run, Sem.runT]; exact ih _ _ _
  | freeze a n k ih => simp only [Sem.run, Sem.runT]; exact ih _ _
  | frozen a k ih => simp only [Sem.run, Sem.runT]; exact ih _ _ _
  | getObj r k ih =>
    simp only [Sem.run, Sem.runT]
    split
    · rfl
    · exact ih _ _ _
    · rfl
  | setObj r o k ih =>
    simp only [Sem.run, Sem.runT]
    split
    · rfl
    · exact ih _ _
    · rfl
  | choose q k ih =>
    simp only [Sem.run, Sem.runT]
    split
    · exact ih _ _ _
    · exact ih _ _ _
  | sys c k ih => simp only [Sem.run, Sem.runT]; exact ih _ _ _
  | program k ih => simp only [Sem.run, Sem.runT]; exact ih _ _ _
  | mark m k ih => simp only [Sem.run, Sem.runT]; exact ih _ _
  | halt h => rfl
end Go.Proofs.Ytjfaafnngloblaa.Up
