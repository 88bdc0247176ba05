/- Timers: a row of one's own is shortened, its rest cleared. No condition. -/
import Derived.Test.YtldkdndgnojepaaWWords
import Derived.Test.YtldkdndgnojepaaWLast
import Derived.Test.YtldkdndgnojepaaWMore
import Derived.Test.YtldkdndgnojepaaWShare
import Derived.Test.YtldkdndgnojepaaWNEv
import Derived.Deep.RegionHeld3
import Derived.Test.YtldkdndgnojepaaProg
import Derived.Below
import Derived.Deep.Draws
import Derived.Deep.AppendLies
import Derived.Maps.AppendAt
import Derived.OwnWalk
import Derived.Laws.BytesArg
import Derived.Laws.MakeOwn
import Derived.Laws.OwnMore
import Derived.Deep.OwnRows
import Derived.Tactics
import Derived.Lib.ConvBytes
import Derived.Laws.Slices
import Derived.WalkKit
import Derived.KernelRfl
import Derived.RowKit3
import Derived.Deep.LoopGhost
import Derived.Deep.QuietTactic
import Derived.BigQuiet
import Derived.WideLaws
import Derived.Deep.DeepCutAuto
import Derived.Deep.CutBlock
import Derived.Laws.Rows
import Derived.Lib.AppendStr
import Derived.ArgAppend
import Derived.Laws.IdiomCopy
import Derived.OrdersHeld
import Derived.Laws.BitsLemmas
import Derived.RowKit
import Derived.Test.YtldkdndgnojepaaWTab
import Derived.Test.YtldkdndgnojepaaWFour
import Derived.Test.YtldkdndgnojepaaWQPut
import Derived.Test.YtldkdndgnojepaaWApart
import Derived.Test.YtldkdndgnojepaaWArr
import Derived.Test.YtldkdndgnojepaaWZeros
import Derived.Test.YtldkdndgnojepaaWFoot
import Derived.Test.YtldkdndgnojepaaWKept
import Derived.Test.YtldkdndgnojepaaWN
import Derived.Test.YtldkdndgnojepaaWFootNe
import Derived.Test.YtldkdndgnojepaaWAt
import Derived.Test.YtldkdndgnojepaaWEqStruct
import Derived.Test.YtldkdndgnojepaaWRepsOne
import Derived.Test.YtldkdndgnojepaaWInv
import Derived.Test.YtldkdndgnojepaaWInvWords
import Derived.Test.YtldkdndgnojepaaWGuard
import Derived.Outline
import Derived.Test.YtldkdndgnojepaaXOpen
import Derived.RangeFuncNested
import Derived.RangeFuncBox
import Derived.RangeFuncLeaves
import Derived.Shelf.Abstract
import Derived.OwnWalkIn
import Derived.TacticsInMore
import Derived.LoopNIn
import Derived.LoopIn
import Derived.Calls
import Derived.Lib.QuietBelow
import Derived.Shelf.SlSortCmp.NoneTotal
import Derived.Ground.SlsfProg
import Derived.Lib.SliceRun
namespace Go.Proofs.Ytldkdndgnojepaa.Own
open Go Go.RowKit Go.Proofs.YtldkdndgnojepaaW.PrintWords Go.Proofs.YtldkdndgnojepaaW.PrintLast Go.Proofs.YtldkdndgnojepaaW.PrintMore
set_option linter.unusedVariables false
/-- What may have been done: outside of F nothing has turned; what is new in F' is new in memory. -/
structure Moved (F F' : Nat → Prop) (w w' : World) : Prop where
  os : w'.os = w.os
  tape : w'.tape = w.tape
  output : w'.output = w.output
  size : w.heap.size ≤ w'.heap.size
  block : ∀ k, k < w.heap.size → ¬ F k → w'.heap[k]? = w.heap[k]?
  fresh : ∀ k, F' k → F k ∨ w.heap.size ≤ k
/-- A thing: what it says of a world, its own blocks F, and the blocks P that it may read beside them; it hangs on these alone. -/
structure Thing where
  holds : World → (Nat → Prop) → (Nat → Prop) → Prop
  lt : ∀ {w F P}, holds w F P → ∀ k, F k → k < w.heap.size
  mono : ∀ {w F P P'}, holds w F P → (∀ k, P k → P' k) → holds w F P'
  kept : ∀ {w w' F P}, holds w F P → (∀ k, F k ∨ P k → k < w.heap.size → w'.heap[k]? = w.heap[k]?) → w.heap.size ≤ w'.heap.size → holds w' F (fun k => P k ∧ k < w.heap.size)
/-- Things side by side. -/
def SepF : List Thing → World → (Nat → Prop) → (Nat → Prop) → Prop
  | [], _, F, _ => ∀ k, ¬ F k
  | t :: ts, w, F, P => ∃ F1 F2 : Nat → Prop, (∀ k, F k ↔ F1 k ∨ F2 k) ∧ t.holds w F1 P ∧ (∀ k, F1 k → ¬ F2 k) ∧ SepF ts w F2 P
theorem SepF.lt {w : World} : ∀ {ts : List Thing} {F P : Nat → Prop}, SepF ts w F P → ∀ k, F k → k < w.heap.size
  | [], F, P, h, k, hk => (h k hk).elim
  | t :: ts, F, P, ⟨F1, F2, h1, h2, h3, h4⟩, k, hk => ((h1 k).mp hk).elim (fun a => t.lt h2 k a) (fun a => h4.lt k a)
theorem SepF.mono {w : World} : ∀ {ts : List Thing} {F P P' : Nat → Prop}, SepF ts w F P → (∀ k, P k → P' k) → SepF ts w F P'
  | [], F, P, P', h, _ => h
  | t :: ts, F, P, P', ⟨F1, F2, h1, h2, h3, h4⟩, hP => ⟨F1, F2, h1, t.mono h2 hP, h3, h4.mono hP⟩
theorem SepF.kept {w w' : World} (hs : w.heap.size ≤ w'.heap.size) : ∀ {ts : List Thing} {F P : Nat → Prop}, SepF ts w F P → (∀ k, F k ∨ P k → k < w.heap.size → w'.heap[k]? = w.heap[k]?) → SepF ts w' F (fun k => P k ∧ k < w.heap.size)
  | [], F, P, h, _ => h
  | t :: ts, F, P, ⟨F1, F2, h1, h2, h3, h4⟩, hk =>
    ⟨F1, F2, h1, t.kept h2 (fun k a => hk k (a.imp (fun b => (h1 k).mpr (.inl b)) id)) hs, h3, h4.kept hs (fun k a => hk k (a.imp (fun b => (h1 k).mpr (.inr b)) id))⟩
theorem SepF.split {w : World} : ∀ {ts1 ts2 : List Thing} {F P : Nat → Prop}, SepF (ts1 ++ ts2) w F P → ∃ F1 F2, (∀ k, F k ↔ F1 k ∨ F2 k) ∧ SepF ts1 w F1 P ∧ (∀ k, F1 k → ¬ F2 k) ∧ SepF ts2 w F2 P
  | [], ts2, F, P, h => ⟨fun _ => False, F, fun k => by simp, fun k => id, fun k a => a.elim, h⟩
  | t :: ts1, ts2, F, P, ⟨F1, F2, h1, h2, h3, h4⟩ => by
    obtain ⟨G1, G2, g1, g2, g3, g4⟩ := SepF.split h4
    refine ⟨fun k => F1 k ∨ G1 k, G2, fun k => by rw [h1, g1]; exact or_assoc.symm, ⟨F1, G1, fun k => Iff.rfl, h2, fun k a b => h3 k a ((g1 k).mpr (.inl b)), g2⟩, fun k a => ?_, g4⟩
    rcases a with a | a
    · exact fun b => h3 k a ((g1 k).mpr (.inr b))
    · exact g3 k a
theorem SepF.join {w : World} : ∀ {ts1 ts2 : List Thing} {F1 F2 P : Nat → Prop}, SepF ts1 w F1 P → SepF ts2 w F2 P → (∀ k, F1 k → ¬ F2 k) → SepF (ts1 ++ ts2) w (fun k => F1 k ∨ F2 k) P
  | [], ts2, F1, F2, P, h, g, _ => by
    have e : F2 = fun k => F1 k ∨ F2 k := funext fun k => propext ⟨.inr, fun a => a.elim (fun b => (h k b).elim) id⟩
    rw [← e]; exact g
  | t :: ts1, ts2, F1, F2, P, ⟨G1, G2, g1, g2, g3, g4⟩, g, hd =>
    ⟨G1, fun k => G2 k ∨ F2 k, fun k => (or_congr_left (g1 k)).trans or_assoc, g2, fun k a b => b.elim (g3 k a) (hd k ((g1 k).mpr (.inl a))), SepF.join g4 g (fun k a => hd k ((g1 k).mpr (.inr a)))⟩
theorem SepF.swap {w : World} {a b : Thing} {ts : List Thing} {F P : Nat → Prop} (h : SepF (a :: b :: ts) w F P) : SepF (b :: a :: ts) w F P := by
  obtain ⟨F1, F2, h1, h2, h3, G1, G2, g1, g2, g3, g4⟩ := h
  refine ⟨G1, fun k => F1 k ∨ G2 k, fun k => by rw [h1, g1]; exact or_left_comm, g2, fun k a b => b.elim (fun c => h3 k c ((g1 k).mpr (.inl a))) (g3 k a), F1, G2, fun k => Iff.rfl, h2, fun k a b => h3 k a ((g1 k).mpr (.inr b)), g4⟩
/-- The world, as it stands, since it was w0: the things in F0 and what may be read in P0 were there then. -/
structure St (w0 : World) (F0 P0 : Nat → Prop) (ts : List Thing) (w : World) : Prop where
  sep : ∃ F, SepF ts w F (fun k => (P0 k ∨ F0 k ∨ w0.heap.size ≤ k) ∧ ¬ F k) ∧ Moved F0 F w0 w
section
variable {w0 w w' : World} {F0 P0 : Nat → Prop} {t u : Thing} {ts ts1 ts2 : List Thing}
theorem Moved.below {B : Nat} {F F' : Nat → Prop} (h : Moved F F' w w') (hB : ∀ k, F k → B ≤ k) (hs : B ≤ w.heap.size) : Below B w w' :=
  ⟨h.os, h.tape, h.output, h.size, fun k hk => h.block k (by omega) (fun hF => by have := hB k hF; omega)⟩
theorem Moved.of_below {F F' : Nat → Prop} (h : Below w.heap.size w w') (hf : ∀ k, F' k → F k ∨ w.heap.size ≤ k) : Moved F F' w w' :=
  ⟨h.os, h.tape, h.output, h.size, fun k hk _ => h.block k hk, hf⟩
theorem Moved.refl (F : Nat → Prop) (w : World) : Moved F F w w := ⟨rfl, rfl, rfl, Nat.le_refl _, fun _ _ _ => rfl, fun _ h => .inl h⟩
theorem Moved.trans {F1 F2 F3 : Nat → Prop} {w1 w2 w3 : World} (h : Moved F1 F2 w1 w2) (k : Moved F2 F3 w2 w3) : Moved F1 F3 w1 w3 :=
  ⟨k.os.trans h.os, k.tape.trans h.tape, k.output.trans h.output, Nat.le_trans h.size k.size, fun q hq hF => (k.block q (Nat.lt_of_lt_of_le hq h.size) (fun h2 => by rcases h.fresh q h2 with h3 | h3; exact hF h3; omega)).trans (h.block q hq hF),
    fun q hq => by rcases k.fresh q hq with h2 | h2; exact h.fresh q h2; exact .inr (Nat.le_trans h.size h2)⟩
theorem St.size (h : St w0 F0 P0 ts w) : w0.heap.size ≤ w.heap.size := by
  obtain ⟨F, -, hm⟩ := h
  exact hm.size
theorem St.bel (h : St w0 (fun _ => False) P0 ts w) : Below w0.heap.size w0 w := by
  obtain ⟨F, -, hm⟩ := h
  exact hm.below (fun _ a => a.elim) (Nat.le_refl _)
theorem St.start (w0 : World) (P0 : Nat → Prop) : St w0 (fun _ => False) P0 [] w0 := ⟨⟨fun _ => False, fun _ => id, Moved.refl _ _⟩⟩
theorem St.init {F P : Nat → Prop} (h : SepF ts w F (fun k => P k ∧ ¬ F k)) : St w F P ts w := ⟨⟨F, h.mono (fun k a => ⟨.inl a.1, a.2⟩), Moved.refl _ _⟩⟩
/-- THE FRAME: what is done to ts1, told from w on, beside ts. -/
theorem St.part (h : St w0 F0 P0 (ts1 ++ ts) w) : ∃ F1 P1, St w F1 P1 ts1 w ∧ ∀ (w' : World) (ts' : List Thing), St w F1 P1 ts' w' → St w0 F0 P0 (ts' ++ ts) w' := by
  obtain ⟨F, hF, hm⟩ := h
  obtain ⟨F1, F2, h1, h2, h3, h4⟩ := hF.split
  refine ⟨F1, fun k => (P0 k ∨ F0 k ∨ w0.heap.size ≤ k) ∧ ¬ F k, St.init (h2.mono (fun k a => ⟨a, fun b => a.2 ((h1 k).mpr (.inl b))⟩)), fun w' ts' hw' => ?_⟩
  obtain ⟨F', hF', hm'⟩ := hw'
  have hlt := h4.lt
  have hd : ∀ k, F' k → ¬ F2 k := fun k a b => by
    rcases hm'.fresh k a with c | c
    · exact h3 k c b
    · have := hlt k b; omega
  refine ⟨⟨fun k => F' k ∨ F2 k, (hF'.mono (fun k a => ?_)).join ((h4.kept hm'.size (fun k a hk => hm'.block k hk (fun b => ?_))).mono (fun k a => ⟨a.1.1, fun b => ?_⟩)) hd, ?_⟩⟩
  · obtain ⟨a, b⟩ := a
    rcases a with a | a | a
    · exact ⟨a.1, fun c => c.elim b (fun d => a.2 ((h1 k).mpr (.inr d)))⟩
    · refine ⟨(hm.fresh k ((h1 k).mpr (.inl a))).elim (fun c => .inr (.inl c)) (fun c => .inr (.inr c)), fun c => c.elim b (h3 k a)⟩
    · exact ⟨.inr (.inr (Nat.le_trans hm.size a)), fun c => c.elim b (fun d => by have := hlt k d; omega)⟩
  · rcases a with a | a
    · exact h3 k b a
    · exact a.2 ((h1 k).mpr (.inl b))
  · rcases b with b | b
    · rcases hm'.fresh k b with c | c
      · exact a.1.2 ((h1 k).mpr (.inl c))
      · have := a.2; omega
    · exact a.1.2 ((h1 k).mpr (.inr b))
  · have e1 : Moved F (fun k => F1 k ∨ F2 k) w w := ⟨rfl, rfl, rfl, Nat.le_refl _, fun _ _ _ => rfl, fun k a => .inl ((h1 k).mpr a)⟩
    refine (hm.trans e1).trans ⟨hm'.os, hm'.tape, hm'.output, hm'.size, fun k hk a => hm'.block k hk (fun b => a (.inl b)), fun k a => ?_⟩
    rcases a with a | a
    · exact (hm'.fresh k a).imp .inl id
    · exact .inl (.inr a)
theorem St.below (h : St w0 F0 P0 ts w) (hb : Below w.heap.size w w') : St w0 F0 P0 ts w' := by
  obtain ⟨F, hF, hm⟩ := h
  exact ⟨⟨F, (hF.kept hb.size (fun k _ hk => hb.block k hk)).mono (fun k a => a.1), hm.trans (Moved.of_below hb (fun k a => .inl a))⟩⟩
theorem St.drawn (h : St w0 F0 P0 ts w) (hd : Drawn0 w w') : St w0 F0 P0 ts w' := h.below hd.below
theorem St.drewN (h : St w0 F0 P0 ts w) (n : Nat) : St w0 F0 P0 ts (w.drewN n) := h.drawn ⟨n, rfl⟩
theorem St.swap (h : St w0 F0 P0 (t :: u :: ts) w) : St w0 F0 P0 (u :: t :: ts) w := by
  obtain ⟨F, hF, hm⟩ := h
  exact ⟨⟨F, hF.swap, hm⟩⟩
theorem St.drop (h : St w0 F0 P0 (t :: ts) w) : St w0 F0 P0 ts w := by
  obtain ⟨F, ⟨F1, F2, h1, h2, h3, h4⟩, hm⟩ := h
  exact ⟨⟨F2, h4.mono (fun k a => ⟨a.1, fun b => a.2 ((h1 k).mpr (.inr b))⟩), ⟨hm.os, hm.tape, hm.output, hm.size, hm.block, fun k a => hm.fresh k ((h1 k).mpr (.inr a))⟩⟩⟩
theorem St.nth2 {a b c : Thing} (h : St w0 F0 P0 (a :: b :: c :: ts) w) : St w0 F0 P0 (c :: a :: b :: ts) w := by
  obtain ⟨F1, P1, h1, hk⟩ := St.part (ts1 := [a]) h
  have h2 : St w0 F0 P0 (b :: a :: c :: ts) w := h.swap
  obtain ⟨F2, P2, h3, hk2⟩ := St.part (ts1 := [b, a, c]) h2
  exact hk2 w [c, a, b] (by
    obtain ⟨F, hF, hm⟩ := h3
    obtain ⟨G1, G2, g1, g2, g3, g4⟩ := hF
    have h5 := SepF.swap g4
    exact ⟨⟨F, SepF.swap (a := a) (b := c) (ts := [b]) (by
      obtain ⟨H1, H2, e1, e2, e3, e4⟩ := h5
      obtain ⟨I1, I2, i1, i2, i3, i4⟩ := e4
      refine ⟨I1, fun k => H1 k ∨ G1 k, fun k => ?_, i2, fun k x y => ?_, H1, G1, fun k => Iff.rfl, e2, fun k x y => ?_, G1, fun _ => False, fun k => by simp, g2, fun k _ => id, fun k => id⟩
      · rw [g1, e1, i1]
        have := i4 k
        constructor
        · rintro (x | x | x | x)
          · exact .inr (.inr x)
          · exact .inr (.inl x)
          · exact .inl x
          · exact absurd x this
        · rintro (x | x | x)
          · exact .inr (.inr (.inl x))
          · exact .inr (.inl x)
          · exact .inl x
      · rcases y with y | y
        · exact e3 k y ((i1 k).mpr (.inl x))
        · exact g3 k y ((e1 k).mpr (.inr ((i1 k).mpr (.inl x))))
      · exact g3 k y ((e1 k).mpr (.inl x))), hm⟩⟩)
/-- A new thing, or a value, that lies in what is new, or may be read. -/
theorem St.made (h : St w0 F0 P0 ts w) (hb : Below w.heap.size w w') (ht : ∀ P : Nat → Prop, (∀ k, P k → k < w.heap.size) → ∃ F', t.holds w' F' (fun k => P k ∨ w.heap.size ≤ k ∧ ¬ F' k) ∧ ∀ k, F' k → w.heap.size ≤ k) : St w0 F0 P0 (t :: ts) w' := by
  obtain ⟨F1, P1, h1, hk⟩ := St.part (ts1 := []) (ts := ts) h
  refine hk w' [t] ?_
  obtain ⟨F', h2, h3⟩ := ht (fun _ => False) (fun k a => a.elim)
  have hm1 := h1.sep
  obtain ⟨F, hF, hm⟩ := hm1
  refine ⟨⟨F', ⟨F', fun _ => False, fun k => by simp, t.mono h2 (fun k a => ?_), fun k _ => id, fun k => id⟩, Moved.of_below hb (fun k a => .inr (h3 k a))⟩⟩
  rcases a with a | a
  · exact a.elim
  · exact ⟨.inr (.inr a.1), a.2⟩
end
/-- A value that is only read: Q says how it reads. -/
def valT (Q : World → Prop) : Thing where
  holds w F P := (∀ k, ¬ F k) ∧ Foot Q w P
  lt h k hk := (h.1 k hk).elim
  mono h hP := ⟨h.1, Foot.mono h.2 hP⟩
  kept h hk hs := ⟨h.1, Foot.step (Foot.bound h.2) (fun k a _ => hk k (.inr a.1) a.2)⟩
section
variable {w0 w w' : World} {F0 P0 : Nat → Prop} {t u : Thing} {ts ts1 ts2 : List Thing} {Q Q' : World → Prop}
theorem St.now (h : St w0 F0 P0 (valT Q :: ts) w) : Q w := by
  obtain ⟨F, ⟨F1, F2, h1, h2, h3, h4⟩, hm⟩ := h
  exact Foot.now h2.2
theorem St.imp (h : St w0 F0 P0 (valT Q :: ts) w) (hi : ∀ W, Q W → Q' W) : St w0 F0 P0 (valT Q' :: ts) w := by
  obtain ⟨F, ⟨F1, F2, h1, h2, h3, h4⟩, hm⟩ := h
  exact ⟨⟨F, ⟨F1, F2, h1, ⟨h2.1, Foot.imp h2.2 hi⟩, h3, h4⟩, hm⟩⟩
theorem St.dup (h : St w0 F0 P0 (valT Q :: ts) w) : St w0 F0 P0 (valT Q :: valT Q :: ts) w := by
  obtain ⟨F, ⟨F1, F2, h1, h2, h3, h4⟩, hm⟩ := h
  exact ⟨⟨F, ⟨F1, F, fun k => ⟨.inr, fun a => a.elim (fun b => (h2.1 k b).elim) id⟩, h2, fun k a => (h2.1 k a).elim, ⟨F1, F2, h1, h2, h3, h4⟩⟩, hm⟩⟩
theorem St.and (h : St w0 F0 P0 (valT Q :: valT Q' :: ts) w) : St w0 F0 P0 (valT (fun W => Q W ∧ Q' W) :: ts) w := by
  obtain ⟨F, ⟨F1, F2, h1, h2, h3, F3, F4, g1, g2, g3, g4⟩, hm⟩ := h
  refine ⟨⟨F, ⟨F1, F4, fun k => ?_, ⟨h2.1, fun W' hW => ⟨h2.2 W' hW, g2.2 W' hW⟩⟩, fun k a => (h2.1 k a).elim, g4⟩, hm⟩⟩
  rw [h1, g1]
  exact ⟨fun a => a.elim .inl (fun b => b.elim (fun c => (g2.1 k c).elim) .inr), fun a => a.elim .inl (fun b => .inr (.inr b))⟩
/-- A value without anything in memory. -/
theorem St.pure (h : St w0 F0 P0 ts w) (hQ : ∀ W, Q W) : St w0 F0 P0 (valT Q :: ts) w := by
  obtain ⟨F, hF, hm⟩ := h
  exact ⟨⟨F, ⟨fun _ => False, F, fun k => by simp, ⟨fun _ => id, fun W' _ => hQ W'⟩, fun k a => a.elim, hF⟩, hm⟩⟩
/-- A value of an elder world's (a law's argument). -/
theorem St.arg (h : St w0 F0 P0 ts w) (hF : ∀ k, F0 k → False) (hP : ∀ k, k < w0.heap.size → P0 k) (hQ : Foot Q w0 (fun k => k < w0.heap.size)) : St w0 F0 P0 (valT Q :: ts) w := by
  obtain ⟨F, hS, hm⟩ := h
  refine ⟨⟨F, ⟨fun _ => False, F, fun k => by simp, ⟨fun _ => id, Foot.mono (Foot.step (Foot.bound hQ) (fun k a hlt => hm.block k hlt (fun b => hF k b))) (fun k a => ⟨.inl (hP k a.2), fun b => ?_⟩)⟩, fun k a => a.elim, hS⟩, hm⟩⟩
  rcases hm.fresh k b with c | c
  · exact hF k c
  · have := a.2; omega
/-- A value that a call has made, out of what it may read and what is new. -/
theorem St.val (h : St w0 F0 P0 (valT Q :: ts) w) : ∃ P : Nat → Prop, Foot Q w P ∧ ∀ (w' : World) (Q' : World → Prop), Below w.heap.size w w' → Foot Q' w' (fun k => P k ∨ w.heap.size ≤ k) → St w0 F0 P0 (valT Q' :: valT Q :: ts) w' := by
  obtain ⟨F, ⟨F1, F2, h1, h2, h3, h4⟩, hm⟩ := h
  refine ⟨_, h2.2, fun w' Q' hb hQ => ?_⟩
  have hS : SepF (valT Q :: ts) w F (fun k => (P0 k ∨ F0 k ∨ w0.heap.size ≤ k) ∧ ¬ F k) := ⟨F1, F2, h1, h2, h3, h4⟩
  have hlt := hS.lt
  refine ⟨⟨F, ⟨fun _ => False, F, fun k => by simp, ⟨fun _ => id, Foot.mono hQ (fun k a => ?_)⟩, fun k a => a.elim, (hS.kept hb.size (fun k _ hk => hb.block k hk)).mono (fun k a => a.1)⟩, hm.trans (Moved.of_below hb (fun k a => .inl a))⟩⟩
  rcases a with a | a
  · exact a
  · exact ⟨.inr (.inr (Nat.le_trans hm.size a)), fun b => by have := hlt k b; omega⟩
end
end Go.Proofs.Ytldkdndgnojepaa.Own
namespace Go.Proofs.Ytldkdndgnojepaa.Own
open Go Go.RowKit Go.Proofs.YtldkdndgnojepaaW.PrintWords Go.Proofs.YtldkdndgnojepaaW.PrintLast Go.Proofs.YtldkdndgnojepaaW.PrintMore
set_option linter.unusedVariables false
/-- A row (elements of type e) of one's own; what its elements lead to is only read. -/
def rowT {α : Type} (d : Kd α) (e : Nat) (v : Value) (xs : List α) : Thing where
  holds w F P := (∀ k, F k ↔ v.ownBlock = some k) ∧ Kd.N d e w 0 (fun k => F k ∨ P k) v xs
  lt h k hk := Kd.N_lt h.2 k ((h.1 k).mp hk)
  mono h hP := ⟨h.1, Kd.N_mono h.2 (fun k a => a.imp id (hP k))⟩
  kept h hk hs := ⟨h.1, Kd.N_mono (Kd.N_step (Kd.N_bound h.2) (fun k a _ => hk k a.1 a.2)) (fun k a => a.1.imp id (fun b => ⟨b, a.2⟩))⟩
/-- A block of one's own, known whole. -/
def boxT (b e : Nat) (cells : Array Value) : Thing where
  holds w F P := (∀ k, F k ↔ k = b) ∧ w.heap[b]? = some (.cells cells e (0, 0))
  lt h k hk := by
    have := (h.1 k).mp hk
    subst this
    exact (Array.getElem?_eq_some_iff.mp h.2).1
  mono h hP := h
  kept h hk hs := ⟨h.1, (hk _ (.inl ((h.1 _).mpr rfl)) (Array.getElem?_eq_some_iff.mp h.2).1).trans h.2⟩
section
variable {w0 w w' : World} {F0 P0 : Nat → Prop} {t u : Thing} {ts ts1 : List Thing} {α : Type} {d : Kd α} {e : Nat} {v : Value} {xs : List α}
/-- A call, told by itself, beside other things. -/
theorem St.call {P : Program} {n : Nat} {args : Array Value} {β : Type} {R : Ending → β → Prop} {T : β → List Thing} (h : St w0 F0 P0 (ts1 ++ ts) w) (hc : ∀ F1 P1, St w F1 P1 ts1 w → Calls P n args w fun e w' => ∃ x, R e x ∧ St w F1 P1 (T x) w') : Calls P n args w fun e w' => ∃ x, R e x ∧ St w0 F0 P0 (T x ++ ts) w' := by
  obtain ⟨F1, P1, h1, hk⟩ := h.part
  refine (hc F1 P1 h1).mono ?_
  rintro e w' ⟨x, hR, hS⟩
  exact ⟨x, hR, hk w' _ hS⟩
theorem St.rot {a b c : Thing} (h : St w0 F0 P0 (a :: b :: c :: ts) w) : St w0 F0 P0 (b :: c :: a :: ts) w := h.nth2.nth2
theorem St.nil (h : St w0 F0 P0 ts w) (d : Kd α) (e : Nat) : St w0 F0 P0 (rowT d e (.slice none 0 0) [] :: ts) w := by
  obtain ⟨F, hF, hm⟩ := h
  exact ⟨⟨F, ⟨fun _ => False, F, fun k => by simp, ⟨fun k => by simp [Value.ownBlock], Kd.N_nil _ _ _ _ _⟩, fun k a => a.elim, hF⟩, hm⟩⟩
theorem St.row (h : St w0 F0 P0 (rowT d e v xs :: ts) w) : ∃ ok, Kd.N d e w 0 ok v xs := by
  obtain ⟨F, ⟨F1, F2, h1, h2, h3, h4⟩, hm⟩ := h
  exact ⟨_, h2.2⟩
theorem St.slice (h : St w0 F0 P0 (rowT d e v xs :: ts) w) : ∃ A c, v = .slice A xs.length c := by
  obtain ⟨ok, hN⟩ := h.row
  exact Kd.N_slice hN
theorem St.reads {A : Option Addr} {n c : Nat} (h : St w0 F0 P0 (rowT d e (.slice A n c) xs :: ts) w) : n = xs.length ∧ xs.length ≤ c ∧ d.C w A xs.length xs := by
  obtain ⟨ok, hN⟩ := h.row
  obtain ⟨h1, h2, h3⟩ := Kd.N_reads' hN
  exact ⟨h1, by omega, h3⟩
/-- A row that is written no more. -/
theorem St.freeze {A : Option Addr} {n c : Nat} (h : St w0 F0 P0 (rowT d e (.slice A n c) xs :: ts) w) : n = xs.length ∧ xs.length ≤ c ∧ St w0 F0 P0 (valT (fun W => d.C W A xs.length xs) :: ts) w := by
  obtain ⟨r1, r2, r3⟩ := h.reads
  obtain ⟨F, ⟨F1, F2, h1, h2, h3, h4⟩, hm⟩ := h
  subst r1
  have hf : ∀ k, F k → F0 k ∨ w0.heap.size ≤ k := hm.fresh
  refine ⟨rfl, r2, ⟨⟨F2, ⟨fun _ => False, F2, fun k => by simp, ⟨fun _ => id, Kd.F_mono (Kd.N_F h2.2) (fun k a => ?_)⟩, fun k a => a.elim, h4.mono (fun k a => ⟨a.1, fun b => a.2 ((h1 k).mpr (.inr b))⟩)⟩, ⟨hm.os, hm.tape, hm.output, hm.size, hm.block, fun k a => hf k ((h1 k).mpr (.inr a))⟩⟩⟩⟩
  rcases a with a | a
  · exact ⟨.inr (hf k ((h1 k).mpr (.inl a))), h3 k a⟩
  · exact ⟨a.1, fun b => a.2 ((h1 k).mpr (.inr b))⟩
/-- A row that a call has made. -/
theorem St.got (h : St w0 F0 P0 ts w) {base : Nat} {ok : Nat → Prop} (hr : d.R e w' base ok v xs) (hb : Below w.heap.size w w') (hbase : w.heap.size ≤ base) : St w0 F0 P0 (rowT d e v xs :: ts) w' := by
  have hN := Kd.R_N (Kd.R_bound hr)
  refine h.made hb (fun P hP => ⟨fun k => v.ownBlock = some k, ⟨fun k => Iff.rfl, Kd.N_mono (Kd.N_lower hN (Nat.zero_le _)) (fun k a => ?_)⟩, fun k a => ?_⟩)
  · by_cases hv : v.ownBlock = some k
    · exact .inl hv
    · exact .inr (.inr ⟨Nat.le_trans hbase a.2.1, hv⟩)
  · exact Nat.le_trans hbase (Kd.N_base hN k a)
/-- A new box. -/
theorem St.box (h : St w0 F0 P0 ts w) (cells : Array Value) (e : Nat) : St w0 F0 P0 (boxT w.heap.size e cells :: ts) (w.alloc (.cells cells e)) := by
  refine h.made (below_alloc (Below.refl _ _) _) (fun P hP => ⟨fun k => k = w.heap.size, ⟨fun k => Iff.rfl, ?_⟩, fun k a => by omega⟩)
  show (w.heap.push _)[w.heap.size]? = _
  rw [Array.getElem?_push, if_pos rfl]
theorem St.boxed {b : Nat} {cells : Array Value} (h : St w0 F0 P0 (boxT b e cells :: ts) w) : w.heap[b]? = some (.cells cells e (0, 0)) ∧ b < w.heap.size := by
  obtain ⟨F, ⟨F1, F2, h1, h2, h3, h4⟩, hm⟩ := h
  exact ⟨h2.2, (Array.getElem?_eq_some_iff.mp h2.2).1⟩
theorem St.box_cell {b : Nat} {cells : Array Value} (h : St w0 F0 P0 (boxT b e cells :: ts) w) (j : Nat) (u : Value) (hj : cells[j]? = some u) : w.cell? ⟨b, j, none⟩ = some u ∧ w.frozen? ⟨b, j, none⟩ = false := by
  have hb := h.boxed.1
  constructor
  · simp [World.cell?, hb, hj]
  · simp [World.frozen?, hb]
theorem St.box_set {b : Nat} {cells : Array Value} (h : St w0 F0 P0 (boxT b e cells :: ts) w) (j : Nat) (u : Value) : St w0 F0 P0 (boxT b e (cells.setIfInBounds j u) :: ts) (w.setCell ⟨b, j, none⟩ u) := by
  obtain ⟨F1, P1, h1, hk⟩ := St.part (ts1 := [boxT b e cells]) h
  refine hk _ [_] ?_
  obtain ⟨F, ⟨G1, G2, g1, g2, g3, g4⟩, hm⟩ := h1
  refine ⟨⟨F, ⟨G1, G2, g1, ⟨g2.1, ?_⟩, g3, g4⟩, ⟨rfl, rfl, rfl, by simp, fun k hk hF => Below.heap_setCell w _ _ _ (fun e => hF ?_), fun k a => hm.fresh k a⟩⟩⟩
  · simp [World.setCell, Array.getElem?_modify, g2.2, Array.setIfInBounds]
  · have hF1 : F k := (g1 k).mpr (.inl ((g2.1 k).mpr e))
    rcases hm.fresh k hF1 with c | c
    · exact c
    · exact absurd hk (by omega)
end
section
variable {P : Program} {ops : Array Oper} {rest : List Oper} {o : Oper} {a : Act} {Q : Exit → Act → World → Prop} {α : Type}
variable {W W0 : World} {F0 P0 : Nat → Prop} {ts : List Thing}
/-- append(v, x) onto a row of one's own. -/
theorem St.append (d : Kd α) (hgd : o.guard = none) (s x : Operand) (t e : TypeId) (z : Value) (bytes : Nat)
    (ho : o.op = .call { callee := .builtin .append, args := #[s, x], argTypes := #[t, t] })
    (ht : P.underlying t = some (.slice e)) (hinfo : (P.info? e).map (fun i => (i.zero, i.size, i.bytes)) = some (some z, d.sz, bytes)) (hz : z.cells.size = d.sz) (hs0 : 0 < d.sz) (hb0 : 0 < bytes)
    (v : Value) (xs : List α) (p : α) (cs : List Value) (hs : a.eval s = v) (hx : a.eval x = .slice (some ⟨W.heap.size, 0, none⟩) 1 1)
    (HS : St W0 F0 P0 (valT (fun W => d.K W p cs) :: rowT d e v xs :: ts) W) (hl : (xs.length + 1) * bytes ≤ 140737488355328)
    (h : ∀ v1 w1, St W0 F0 P0 (rowT d e v1 (xs ++ [p]) :: ts) w1 → wpList P ops Q rest (a.put o.dst v1) w1) :
    wpList P ops Q (o :: rest) a (W.alloc (.cells cs.toArray e)) := by
  obtain ⟨F1, P1, h1, hk⟩ := St.part (ts1 := [valT (fun W => d.K W p cs), rowT d e v xs]) HS
  obtain ⟨F, ⟨A1, A2, a1, a2, a3, B1, B2, b1, b2, b3, b4⟩, hm⟩ := h1
  have hown : ∀ k, v.ownBlock = some k → F k := fun k hk => (a1 k).mpr (.inr ((b1 k).mpr (.inl ((b2.1 k).mpr hk))))
  have hF1 : ∀ k, F k → k < W.heap.size → F1 k := fun k hk hlt => (hm.fresh k hk).elim id (fun c => by omega)
  refine Kd.N_append d (w0 := W) 0 hgd s x t e z bytes ho ht hinfo hz hs0 hb0 v xs p cs (fun k => B1 k ∨ ((P1 k ∨ F1 k ∨ W.heap.size ≤ k) ∧ ¬ F k) ∨ W.heap.size ≤ k) (fun k => (P1 k ∨ F1 k ∨ W.heap.size ≤ k) ∧ ¬ F k) hs hx a2.2 (fun k hk => ⟨.inr (.inl hk), fun e => hk.2 (hown k e.symm)⟩) (fun k hk => .inr (.inr hk)) (Kd.N_mono b2.2 (fun k c => c.imp id .inl)) (Below.refl 0 W) (Nat.zero_le _) hl ?_
  intro v1 w1 hN hb hg hat
  refine h v1 w1 (hk w1 [rowT d e v1 (xs ++ [p])] ⟨⟨fun k => v1.ownBlock = some k, ⟨fun k => v1.ownBlock = some k, fun _ => False, fun k => by simp, ⟨fun k => Iff.rfl, Kd.N_mono hN (fun k c => ?_)⟩, fun k _ => id, fun k => id⟩, ⟨hg.os, hg.tape, hg.output, hg.size, fun k hk hnF => hg.block k hk (fun e1 => hnF (hF1 k (hown k e1.symm) hk)), fun k hk => ?_⟩⟩⟩)
  · by_cases hv : v1.ownBlock = some k
    · exact .inl hv
    · refine .inr ⟨?_, hv⟩
      rcases c with c | c | c
      · have h2 := Kd.N_lt b2.2 k ((b2.1 k).mp c)
        exact .inr (.inl (hF1 k (hown k ((b2.1 k).mp c)) h2))
      · exact c.1
      · exact .inr (.inr c)
  · rcases hat with c | ⟨b, c, hle⟩
    · rw [c] at hk
      exact .inl (hF1 k (hown k hk) (Kd.N_lt b2.2 k hk))
    · rw [c] at hk
      injection hk with hk
      subst hk
      exact .inr hle
/-- append(v, ys...) onto a row of one's own; ys is read. -/
theorem St.append_rows (d : Kd α) (hgd : o.guard = none) (s x : Operand) (t e : TypeId) (z : Value) (bytes : Nat)
    (ho : o.op = .call { callee := .builtin .append, args := #[s, x], argTypes := #[t, t] })
    (ht : P.underlying t = some (.slice e)) (hinfo : (P.info? e).map (fun i => (i.zero, i.size, i.bytes)) = some (some z, d.sz, bytes)) (hz : z.cells.size = d.sz) (hs0 : 0 < d.sz) (hb0 : 0 < bytes)
    (v : Value) (xs ys : List α) (A : Option Addr) (m c : Nat) (hs : a.eval s = v) (hx : a.eval x = .slice A m c)
    (HS : St W0 F0 P0 (valT (fun W => d.C W A m ys) :: rowT d e v xs :: ts) W) (hl : (xs.length + m) * bytes ≤ 140737488355328)
    (h : ∀ v1 w1, St W0 F0 P0 (rowT d e v1 (xs ++ ys) :: ts) w1 → wpList P ops Q rest (a.put o.dst v1) w1) :
    wpList P ops Q (o :: rest) a W := by
  obtain ⟨F1, P1, h1, hk⟩ := St.part (ts1 := [valT (fun W => d.C W A m ys), rowT d e v xs]) HS
  obtain ⟨F, ⟨A1, A2, a1, a2, a3, B1, B2, b1, b2, b3, b4⟩, hm⟩ := h1
  have hown : ∀ k, v.ownBlock = some k → F k := fun k hk => (a1 k).mpr (.inr ((b1 k).mpr (.inl ((b2.1 k).mpr hk))))
  have hF1 : ∀ k, F k → k < W.heap.size → F1 k := fun k hk hlt => (hm.fresh k hk).elim id (fun c => by omega)
  refine Kd.N_append_rows d (w0 := W) 0 hgd s x t e z bytes ho ht hinfo hz hs0 hb0 v xs ys A m c (fun k => B1 k ∨ ((P1 k ∨ F1 k ∨ W.heap.size ≤ k) ∧ ¬ F k) ∨ W.heap.size ≤ k) (fun k => (P1 k ∨ F1 k ∨ W.heap.size ≤ k) ∧ ¬ F k) hs hx (Kd.N_mono b2.2 (fun k c => c.imp id .inl)) a2.2 (fun k hk => ⟨.inr (.inl hk), fun e => hk.2 (hown k e.symm)⟩) (fun k hk => .inr (.inr hk)) (Below.refl 0 W) (Nat.zero_le _) hl ?_
  intro v1 w1 hN hb hg hat
  refine h v1 w1 (hk w1 [rowT d e v1 (xs ++ ys)] ⟨⟨fun k => v1.ownBlock = some k, ⟨fun k => v1.ownBlock = some k, fun _ => False, fun k => by simp, ⟨fun k => Iff.rfl, Kd.N_mono hN (fun k c => ?_)⟩, fun k _ => id, fun k => id⟩, ⟨hg.os, hg.tape, hg.output, hg.size, fun k hk hnF => hg.block k hk (fun e1 => hnF (hF1 k (hown k e1.symm) hk)), fun k hk => ?_⟩⟩⟩)
  · by_cases hv : v1.ownBlock = some k
    · exact .inl hv
    · refine .inr ⟨?_, hv⟩
      rcases c with c | c | c
      · have h2 := Kd.N_lt b2.2 k ((b2.1 k).mp c)
        exact .inr (.inl (hF1 k (hown k ((b2.1 k).mp c)) h2))
      · exact c.1
      · exact .inr (.inr c)
  · rcases hat with c | ⟨b, c, hle⟩
    · rw [c] at hk
      exact .inl (hF1 k (hown k hk) (Kd.N_lt b2.2 k hk))
    · rw [c] at hk
      injection hk with hk
      subst hk
      exact .inr hle
end
end Go.Proofs.Ytldkdndgnojepaa.Own
namespace Go.Proofs.Ytldkdndgnojepaa.Own
open Go Go.RowKit Go.Proofs.YtldkdndgnojepaaW.PrintWords Go.Proofs.YtldkdndgnojepaaW.PrintLast Go.Proofs.YtldkdndgnojepaaW.PrintMore
set_option linter.unusedVariables false
section
variable {P : Program} {ops : Array Oper} {rest : List Oper} {o : Oper} {a : Act} {Q : Exit → Act → World → Prop} {Kc : Act → World → Prop} {α : Type}
variable {W W0 : World} {F0 P0 : Nat → Prop} {ts : List Thing}
/-- Element i of a row of one's own is written. -/
theorem St.put (d : Kd α) {e g n cap i : Nat} {xs : List α} {x' : α} {cs : List Value} (HS : St W0 F0 P0 (valT (fun W => d.K W x' cs) :: rowT d e (.slice (some ⟨g, 0, none⟩) n cap) xs :: ts) W) (hi : i < xs.length) :
    St W0 F0 P0 (rowT d e (.slice (some ⟨g, 0, none⟩) n cap) (xs.set i x') :: ts) (W.setCells g (i * d.sz) cs) ∧ ∃ cur, W.heap[g]? = some (.cells cur e (0, 0)) ∧ i * d.sz + cs.length ≤ cur.size := by
  obtain ⟨F1, P1, h1, hk⟩ := St.part (ts1 := [valT (fun W => d.K W x' cs), rowT d e (.slice (some ⟨g, 0, none⟩) n cap) xs]) HS
  obtain ⟨F, ⟨A1, A2, a1, a2, a3, B1, B2, b1, b2, b3, b4⟩, hm⟩ := h1
  obtain ⟨r1, r2, r3⟩ := Kd.N_reads' b2.2
  obtain ⟨ad, c, e1, hcl, hK, hcc⟩ := Kd.C_get r3 x' (i : Int) (by omega) (by omega)
  injection e1 with e1
  subst e1
  have hcc' : ∀ j u, c[j]? = some u → W.cell? ⟨g, (i : Int).toNat * d.sz + j, none⟩ = some u := fun j u hj => by
    have h2 := hcc j u hj
    have h3 : (⟨g, 0, none⟩ : Addr).add ((i : Int).toNat * d.sz + j) = ⟨g, (i : Int).toNat * d.sz + j, none⟩ := by simp only [Addr.add]; split <;> simp_all
    rw [h3] at h2
    exact h2
  have hcs : cs.length = d.sz := d.K_len (Foot.now a2.2)
  have hown : ∀ k, (Value.slice (some ⟨g, 0, none⟩) n cap).ownBlock = some k → F k := fun k hk => (a1 k).mpr (.inr ((b1 k).mpr (.inl ((b2.1 k).mpr hk))))
  have hgF : F g := hown g rfl
  have hF1 : ∀ k, F k → k < W.heap.size → F1 k := fun k hk hlt => (hm.fresh k hk).elim id (fun c => by omega)
  have hlt : g < W.heap.size := Kd.N_lt b2.2 g rfl
  have hM : Kd.FK d W (fun k => (P1 k ∨ F1 k ∨ W.heap.size ≤ k) ∧ ¬ F k) x' (c.take 0 ++ cs ++ c.drop (0 + cs.length)) := by
    have h4 : c.take 0 ++ cs ++ c.drop (0 + cs.length) = cs := by rw [List.take_zero, List.drop_of_length_le (by omega)]; simp
    rw [h4]; exact a2.2
  obtain ⟨hN, hg⟩ := Kd.N_seg b2.2 (i : Int) (by omega) (by omega) (seg := cs) (j := 0) hcl hcc' (by omega) hM (fun k hk => ⟨.inr hk, fun e => hk.2 (by rw [e]; exact hgF)⟩)
  have e3 : (i : Int).toNat * d.sz + 0 = i * d.sz := by simp
  rw [e3] at hN hg
  rw [Int.toNat_natCast] at hN
  refine ⟨hk _ [_] ⟨⟨F, ⟨B1, fun _ => False, fun k => ?_, ⟨b2.1, Kd.N_mono hN (fun k c => c)⟩, fun k _ => id, fun k => id⟩, ⟨hg.os, hg.tape, hg.output, hg.size, fun k hk hnF => hg.block k hk (fun e1 => hnF ?_), fun k hk => .inl (hF1 k hk ?_)⟩⟩⟩, ?_⟩
  · rw [a1, b1]
    exact ⟨fun c => c.elim (fun q => (a2.1 k q).elim) (fun q => q.elim .inl (fun r => (b4 k r).elim)), fun c => c.elim (fun q => .inr (.inl q)) (fun q => q.elim)⟩
  · injection e1 with e1
    subst e1
    exact hF1 _ hgF hk
  · rw [a1, b1] at hk
    rcases hk with hk | hk | hk
    · exact (a2.1 k hk).elim
    · have := (b2.1 k).mp hk
      exact Kd.N_lt b2.2 k this
    · exact (b4 k hk).elim
  · obtain ⟨h0, rows, hl, hR, hf⟩ := b2.2
    obtain ⟨-, inner, ho, -⟩ := hR
    rcases ho.2 with ⟨hv, _⟩ | ⟨g', cap', cur, hv, hb, hh, hnc, hcm, hcz, _⟩
    · cases hv
    · injection hv with q1 _ q3
      injection q1 with q1
      injection q1 with q1
      subst q1; subst q3
      refine ⟨cur, hh, ?_⟩
      have h2 : i * d.sz + d.sz ≤ n * d.sz := by rw [← Nat.succ_mul]; exact Nat.mul_le_mul_right _ (by omega)
      have h3 : n * d.sz ≤ cap * d.sz := Nat.mul_le_mul_right _ (by omega)
      have hcz' : cur.size = cap * d.sz := hcz
      omega
/-- .. as an operation of a region: a store. -/
theorem St.store_wp (d : Kd α) {e g n cap i o' : Nat} (t : TypeId) (p x : Operand) (hN : o.dst = none) (ho : o.op = .store t p x) (xs : List α) (x' : α) (u : Value)
    (hp : a.eval p = .pointer (some ⟨g, o', none⟩)) (hoff : o' = i * d.sz) (hx : a.eval x = u) (ht : (P.info? t).map (·.size) = some d.sz)
    (HS : St W0 F0 P0 (valT (fun W => d.K W x' u.cells.toList) :: rowT d e (.slice (some ⟨g, 0, none⟩) n cap) xs :: ts) W) (hi : i < xs.length)
    (h : ∀ w1, St W0 F0 P0 (rowT d e (.slice (some ⟨g, 0, none⟩) n cap) (xs.set i x') :: ts) w1 → Kc a w1) : Oper.wp P o a W Kc Q := by
  obtain ⟨hS, cur, hh, hsz⟩ := St.put d HS hi
  have hK := St.now HS
  subst hoff
  have hrun : (Instr.storeAt t (.pointer (some ⟨g, i * d.sz, none⟩)) u).run P W = .ok () (W.setCells g (i * d.sz) u.cells.toList) := run_store_run t u u.cells.toList hh rfl (by rw [d.K_len hK]; exact ht) hsz (d.K_one hK)
  unfold Oper.wp execOp
  simp only [ho, hp, hx, Sem.run_bind, Sem.run_pure, Result.andThen_ok, hrun]
  show Kc (a.put o.dst undef) _
  rw [hN]
  exact h _ hS
theorem St.store_step (d : Kd α) {e g n cap i o' : Nat} (hw : Region.wanted o (yielded ops a.tmps) = true) (t : TypeId) (p x : Operand) (hN : o.dst = none) (ho : o.op = .store t p x) (xs : List α) (x' : α) (u : Value)
    (hp : a.eval p = .pointer (some ⟨g, o', none⟩)) (hoff : o' = i * d.sz) (hx : a.eval x = u) (ht : (P.info? t).map (·.size) = some d.sz)
    (HS : St W0 F0 P0 (valT (fun W => d.K W x' u.cells.toList) :: rowT d e (.slice (some ⟨g, 0, none⟩) n cap) xs :: ts) W) (hi : i < xs.length)
    (h : ∀ w1, St W0 F0 P0 (rowT d e (.slice (some ⟨g, 0, none⟩) n cap) (xs.set i x') :: ts) w1 → Kc a w1) : if Region.wanted o (yielded ops a.tmps) = true then Oper.wp P o a W Kc Q else Kc (a.put none undef) W := by
  rw [if_pos hw]
  exact St.store_wp d t p x hN ho xs x' u hp hoff hx ht HS hi h
/-- append(v, x) in a region that draws its order. -/
theorem St.append_step (d : Kd α) (hw : Region.wanted o (yielded ops a.tmps) = true) (s x : Operand) (t e : TypeId) (z : Value) (bytes : Nat)
    (ho : o.op = .call { callee := .builtin .append, args := #[s, x], argTypes := #[t, t] })
    (ht : P.underlying t = some (.slice e)) (hinfo : (P.info? e).map (fun i => (i.zero, i.size, i.bytes)) = some (some z, d.sz, bytes)) (hz : z.cells.size = d.sz) (hs0 : 0 < d.sz) (hb0 : 0 < bytes)
    (v : Value) (xs : List α) (p : α) (cs : List Value) (hs : a.eval s = v) (hx : a.eval x = .slice (some ⟨W.heap.size, 0, none⟩) 1 1)
    (HS : St W0 F0 P0 (valT (fun W => d.K W p cs) :: rowT d e v xs :: ts) W) (hl : (xs.length + 1) * bytes ≤ 140737488355328)
    (h : ∀ v1 w1, St W0 F0 P0 (rowT d e v1 (xs ++ [p]) :: ts) w1 → Kc (a.put o.dst v1) w1) :
    if Region.wanted o (yielded ops a.tmps) = true then Oper.wp P o a (W.alloc (.cells cs.toArray e)) Kc Q else Kc (a.put o.dst undef) (W.alloc (.cells cs.toArray e)) := by
  obtain ⟨F1, P1, h1, hk⟩ := St.part (ts1 := [valT (fun W => d.K W p cs), rowT d e v xs]) HS
  obtain ⟨F, ⟨A1, A2, a1, a2, a3, B1, B2, b1, b2, b3, b4⟩, hm⟩ := h1
  have hown : ∀ k, v.ownBlock = some k → F k := fun k hk => (a1 k).mpr (.inr ((b1 k).mpr (.inl ((b2.1 k).mpr hk))))
  have hF1 : ∀ k, F k → k < W.heap.size → F1 k := fun k hk hlt => (hm.fresh k hk).elim id (fun c => by omega)
  refine Kd.N_append_step d (w0 := W) 0 hw s x t e z bytes ho ht hinfo hz hs0 hb0 v xs p cs (fun k => B1 k ∨ ((P1 k ∨ F1 k ∨ W.heap.size ≤ k) ∧ ¬ F k) ∨ W.heap.size ≤ k) (fun k => (P1 k ∨ F1 k ∨ W.heap.size ≤ k) ∧ ¬ F k) hs hx a2.2 (fun k hk => ⟨.inr (.inl hk), fun e => hk.2 (hown k e.symm)⟩) (fun k hk => .inr (.inr hk)) (Kd.N_mono b2.2 (fun k c => c.imp id .inl)) (Below.refl 0 W) (Nat.zero_le _) hl ?_
  intro v1 w1 hN hb hg hat
  refine h v1 w1 (hk w1 [rowT d e v1 (xs ++ [p])] ⟨⟨fun k => v1.ownBlock = some k, ⟨fun k => v1.ownBlock = some k, fun _ => False, fun k => by simp, ⟨fun k => Iff.rfl, Kd.N_mono hN (fun k c => ?_)⟩, fun k _ => id, fun k => id⟩, ⟨hg.os, hg.tape, hg.output, hg.size, fun k hk hnF => hg.block k hk (fun e1 => hnF (hF1 k (hown k e1.symm) hk)), fun k hk => ?_⟩⟩⟩)
  · by_cases hv : v1.ownBlock = some k
    · exact .inl hv
    · refine .inr ⟨?_, hv⟩
      rcases c with c | c | c
      · have h2 := Kd.N_lt b2.2 k ((b2.1 k).mp c)
        exact .inr (.inl (hF1 k (hown k ((b2.1 k).mp c)) h2))
      · exact c.1
      · exact .inr (.inr c)
  · rcases hat with c | ⟨b, c, hle⟩
    · rw [c] at hk
      exact .inl (hF1 k (hown k hk) (Kd.N_lt b2.2 k hk))
    · rw [c] at hk
      injection hk with hk
      subst hk
      exact .inr hle
end
end Go.Proofs.Ytldkdndgnojepaa.Own
namespace Go.Proofs.Ytldkdndgnojepaa.PCompare
open Go.RowKit Go.Proofs.YtldkdndgnojepaaW.PrintWords Go.Proofs.YtldkdndgnojepaaW.PrintLast Go.Proofs.YtldkdndgnojepaaW.PrintMore
attribute [local go_sem] max2_int min2_int max_two min_two max_three min_three max_four min_four   -- for this text's walks alone
set_option linter.unusedVariables false
set_option linter.unusedSimpArgs false



def errW : Option Int → Value
  | none => .nilIface
  | some c => .iface 0 (.int .i64 c)
theorem errW_none : errW none = .nilIface := rfl
theorem errW_some (c : Int) : errW (some c) = .iface 0 (.int .i64 c) := rfl

theorem info3 : (Try.prog.info? 3).map (fun i => (i.zero, i.size, i.bytes)) = some (some (.int .i64 0), 1, 8) := by kernel_rfl
-- the values' own types

end Go.Proofs.Ytldkdndgnojepaa.PCompare
namespace Go.Proofs.Ytldkdndgnojepaa.PCompare
open Go.RowKit Go.Proofs.YtldkdndgnojepaaW.PrintWords Go.Proofs.YtldkdndgnojepaaW.PrintLast Go.Proofs.YtldkdndgnojepaaW.PrintMore
attribute [local go_sem] max2_int min2_int max_two min_two max_three min_three max_four min_four   -- for this text's walks alone
set_option linter.unusedVariables false
set_option linter.unusedSimpArgs false

/-! ### cmp_Or_int: function 42 -/
def cmp_Or_int.l0 : Nat → Int → List Int → Int → Int → Option (Int)
  | 0, _, _, _, _ => none
  | k + 1, x3, x6, x7, x8 => if x8 < x7 then (if 0 ≤ x8 then (if x8 < (x6.length : Int) then (if (rd x6 x8) = x3 then (cmp_Or_int.l0 k x3 x6 x7 (wrap64 (x8 + 1))) else (some (rd x6 x8))) else (none)) else (none)) else (some x3)
def cmp_Or_int.f (k : Nat) (l0 : List Int) : Option (Int) := cmp_Or_int.l0 k 0 l0 (l0.length : Int) 0
theorem cmp_Or_int.mono_l : ∀ k, (∀ y0 y1 y2 y3, LeO (cmp_Or_int.l0 k y0 y1 y2 y3) (cmp_Or_int.l0 (k + 1) y0 y1 y2 y3))
  | 0 => fun _ _ _ _ r h => by simp [cmp_Or_int.l0] at h
  | k + 1 => by
    have ih0 := cmp_Or_int.mono_l k
    · intro y0 y1 y2 y3
      unfold cmp_Or_int.l0
      repeat' first
      | (with_reducible exact ih0 _ _ _ _)
      | (with_reducible exact LeO.refl _)
      | (with_reducible exact LeO.none _)
      | (with_reducible refine LeO.ite ?_ ?_)
      | (with_reducible refine LeO.bind ?_ (fun _ => ?_))
      | exact ih0 _ _ _ _
      | exact LeO.none _
      | refine LeO.ite ?_ ?_
      | refine LeO.bind ?_ (fun _ => ?_)
theorem cmp_Or_int.mono : ∀ a0 k, LeO (cmp_Or_int.f k a0) (cmp_Or_int.f (k + 1) a0) := by
  intro a0 k
  have ih0 := cmp_Or_int.mono_l k
  unfold cmp_Or_int.f
  repeat' first
      | (with_reducible exact ih0 _ _ _ _)
      | (with_reducible exact LeO.refl _)
      | (with_reducible exact LeO.none _)
      | (with_reducible refine LeO.ite ?_ ?_)
      | (with_reducible refine LeO.bind ?_ (fun _ => ?_))
      | exact ih0 _ _ _ _
      | exact LeO.none _
      | refine LeO.ite ?_ ?_
      | refine LeO.bind ?_ (fun _ => ?_)
set_option maxHeartbeats 8000000 in
set_option maxRecDepth 100000 in
theorem cmp_Or_int.calls (k : Nat) (A0 : Option Addr) (c0 : Nat) (l0 : List Int) (r : Int) (w : World) (hr0 : Kd.C (Kd.int .i64) w A0 l0.length l0) (hc0 : l0.length ≤ c0) (h : cmp_Or_int.f k l0 = some r) :
    Calls Try.prog 42 #[.slice A0 l0.length c0] w fun e w' => e = .returned (.int .i64 r) ∧ Drawn0 w w' := by
  have HR0 := Aside0.mk hr0
  have HC0 := Aside0.mk hc0
  clear hr0 hc0
  have H : (cmp_Or_int.l0 k 0 l0 (l0.length : Int) 0) = some r := h
  clear h
  have H' := Aside0.mk H
  clear H
  go_enter Try.func42, Try.ntmps42
  go_wp2
  go_loopg [8] k (fun kq v8 w' => ∃ (x8_1 : Int), v8 = .int .i64 x8_1 ∧ Aside0 (cmp_Or_int.l0 kq 0 l0 (l0.length : Int) x8_1 = some r) ∧ Aside0 (kq ≤ k) ∧ Drawn0 w w')
  case atStart => exact ⟨(0), (by first | rfl | (simp; done) | (simp [*]; done)), H', ⟨Nat.le_refl _⟩, by repeat (first | exact Drawn0.refl _ | apply Drawn0.step)⟩
  case round =>
    clear H'
    obtain ⟨x8_1, rfl, HA, HK1, ⟨m1, rfl⟩⟩ := hrel
    cases gk with
    | zero => exact absurd HA.out (by simp [cmp_Or_int.l0])
    | succ k1 =>
      have H := HA.out
      clear HA
      simp only [cmp_Or_int.l0] at H
      by_cases c2 : x8_1 < (l0.length : Int)
      · rw [if_pos c2] at H
        have c2b0 : decide (x8_1 < (l0.length : Int)) = true := decide_eq_true c2
        clear c2
        by_cases c3 : 0 ≤ x8_1
        · rw [if_pos c3] at H
          have c3b0 : decide (0 ≤ x8_1) = true := decide_eq_true c3
          clear c3
          by_cases c4 : x8_1 < (l0.length : Int)
          · rw [if_pos c4] at H
            have c4b0 : decide (x8_1 < (l0.length : Int)) = true := decide_eq_true c4
            clear c4
            by_cases c5 : (rd l0 x8_1) = 0
            · rw [if_pos c5] at H
              have c5b0 : ((rd l0 x8_1) == 0) = true := beq_iff_eq.mpr c5
              have c5b1 : ((rd l0 x8_1) != 0) = false := bne_eq_false_iff_eq.mpr c5
              clear c5
              have H' := Aside0.mk H
              clear H
              have p101 : 0 ≤ (x8_1 : Int) := of_decide_eq_true (by first | (with_reducible assumption) | assumption)
              have q101 : x8_1 < (l0.length : Int) := of_decide_eq_true (by first | (with_reducible assumption) | assumption)
              obtain ⟨ad101, e101, hx101_0⟩ := Kd.at_int HR0.out x8_1 p101 q101
              cases e101
              replace p101 := eq_true p101
              replace q101 := eq_true q101
              go_wp2
              go_roundg k1
              case measure => have := HK1.out; omega
              case rel => exact ⟨(wrap64 (x8_1 + 1)), (by first | rfl | (simp; done) | (simp [*]; done)), H', ⟨by have := HK1.out; omega⟩, by repeat (first | exact Drawn0.refl _ | apply Drawn0.step)⟩
            · rw [if_neg c5] at H
              have c5b0 : ((rd l0 x8_1) == 0) = false := beq_eq_false_iff_ne.mpr c5
              have c5b1 : ((rd l0 x8_1) != 0) = true := bne_iff_ne.mpr c5
              obtain rfl := Option.some.inj H
              have p101 : 0 ≤ (x8_1 : Int) := of_decide_eq_true (by first | (with_reducible assumption) | assumption)
              have q101 : x8_1 < (l0.length : Int) := of_decide_eq_true (by first | (with_reducible assumption) | assumption)
              obtain ⟨ad101, e101, hx101_0⟩ := Kd.at_int HR0.out x8_1 p101 q101
              cases e101
              replace p101 := eq_true p101
              replace q101 := eq_true q101
              go_wp2
              go_ret
              exact ⟨by first | rfl | (simp; done) | (simp [*]; done), by repeat (first | exact Drawn0.refl _ | apply Drawn0.step)⟩
          · rw [if_neg c4] at H
            exact absurd H (by simp)
        · rw [if_neg c3] at H
          exact absurd H (by simp)
      · rw [if_neg c2] at H
        have c2b0 : decide (x8_1 < (l0.length : Int)) = false := decide_eq_false c2
        clear c2
        obtain rfl := Option.some.inj H
        go_wp2
        go_ret
        exact ⟨by first | rfl | (simp; done) | (simp [*]; done), by repeat (first | exact Drawn0.refl _ | apply Drawn0.step)⟩

/-! ### cmp_isNaN_int64: function 49 -/
def cmp_isNaN_int64.f (a0 : Int) : Option (Bool) := some (a0 != a0)
set_option maxHeartbeats 8000000 in
set_option maxRecDepth 100000 in
theorem cmp_isNaN_int64.calls (a0 : Int) (r : Bool) (w : World) (h : cmp_isNaN_int64.f a0 = some r) :
    Calls Try.prog 49 #[.int .i64 a0] w fun e w' => e = .returned (.bool r) ∧ Drawn0 w w' := by
  have H : (some (a0 != a0)) = some r := h
  clear h
  obtain rfl := Option.some.inj H
  go_enter Try.func49, Try.ntmps49
  go_wp2
  go_ret
  exact ⟨by first | rfl | (simp; done) | (simp [*]; done), by repeat (first | exact Drawn0.refl _ | apply Drawn0.step)⟩

/-! ### cmp_Compare_int64: function 43 -/
def cmp_Compare_int64.f (a0 : Int) (a1 : Int) : Option (Int) := (cmp_isNaN_int64.f a0).bind fun t102 => ((cmp_isNaN_int64.f a1).bind fun t103 => (if t102 = true then (if t103 = true then (some 0) else (some (-1))) else (if t103 = true then (some 1) else (if a0 < a1 then (some (-1)) else (if a0 > a1 then (some 1) else (some 0))))))
set_option maxHeartbeats 8000000 in
set_option maxRecDepth 100000 in
theorem cmp_Compare_int64.calls (a0 : Int) (a1 : Int) (r : Int) (w : World) (h : cmp_Compare_int64.f a0 a1 = some r) :
    Calls Try.prog 43 #[.int .i64 a0, .int .i64 a1] w fun e w' => e = .returned (.int .i64 r) ∧ Drawn0 w w' := by
  have H : ((cmp_isNaN_int64.f a0).bind fun t102 => ((cmp_isNaN_int64.f a1).bind fun t103 => (if t102 = true then (if t103 = true then (some 0) else (some (-1))) else (if t103 = true then (some 1) else (if a0 < a1 then (some (-1)) else (if a0 > a1 then (some 1) else (some 0))))))) = some r := h
  clear h
  replace H := Option.bind_eq_some_iff.mp H
  obtain ⟨t102, A30, H⟩ := H
  replace H : ((cmp_isNaN_int64.f a1).bind fun t103 => (if t102 = true then (if t103 = true then (some 0) else (some (-1))) else (if t103 = true then (some 1) else (if a0 < a1 then (some (-1)) else (if a0 > a1 then (some 1) else (some 0)))))) = some r := H
  have A3 := Aside0.mk A30
  clear A30
  replace H := Option.bind_eq_some_iff.mp H
  obtain ⟨t103, A40, H⟩ := H
  replace H : (if t102 = true then (if t103 = true then (some 0) else (some (-1))) else (if t103 = true then (some 1) else (if a0 < a1 then (some (-1)) else (if a0 > a1 then (some 1) else (some 0))))) = some r := H
  have A4 := Aside0.mk A40
  clear A40
  by_cases c5 : t102 = true
  · subst c5
    have H1 : (if t103 = true then (some 0) else (some (-1))) = some r := by rw [if_pos rfl] at H; exact H
    clear H
    have H := H1
    clear H1
    by_cases c6 : t103 = true
    · subst c6
      have H1 : (some 0) = some r := by rw [if_pos rfl] at H; exact H
      clear H
      have H := H1
      clear H1
      obtain rfl := Option.some.inj H
      go_enter Try.func43, Try.ntmps43
      go_wp2_with (first | ((with_reducible refine gate_callee (f := 49) rfl ?_); refine goesL_ (some 8) rfl rfl Try.func49 (by kernel_rfl) rfl #[.int .i64 a0] rfl (by (try simp only [List.map_toArray, List.map_cons, List.map_nil]); first | done | rfl | (simp only [List.length_drop, List.length_take]; rfl)) ?_; (with_reducible refine (cmp_isNaN_int64.calls a0 true _ A3.out).mono ?_); rintro e w' ⟨rfl, ⟨nd, rfl⟩⟩; refine ⟨_, rfl, ?_⟩) | ((with_reducible refine gate_callee (f := 49) rfl ?_); refine goesL_ (some 10) rfl rfl Try.func49 (by kernel_rfl) rfl #[.int .i64 a1] rfl (by (try simp only [List.map_toArray, List.map_cons, List.map_nil]); first | done | rfl | (simp only [List.length_drop, List.length_take]; rfl)) ?_; (with_reducible refine (cmp_isNaN_int64.calls a1 true _ A4.out).mono ?_); rintro e w' ⟨rfl, ⟨nd, rfl⟩⟩; refine ⟨_, rfl, ?_⟩))
      go_ret
      exact ⟨by first | rfl | (simp; done) | (simp [*]; done), by repeat (first | exact Drawn0.refl _ | apply Drawn0.step)⟩
    · replace c6 := Bool.eq_false_iff.mpr c6
      subst c6
      have H1 : (some (-1)) = some r := by rw [if_neg (show ¬ (false = true) by decide)] at H; exact H
      clear H
      have H := H1
      clear H1
      obtain rfl := Option.some.inj H
      go_enter Try.func43, Try.ntmps43
      go_wp2_with (first | ((with_reducible refine gate_callee (f := 49) rfl ?_); refine goesL_ (some 8) rfl rfl Try.func49 (by kernel_rfl) rfl #[.int .i64 a0] rfl (by (try simp only [List.map_toArray, List.map_cons, List.map_nil]); first | done | rfl | (simp only [List.length_drop, List.length_take]; rfl)) ?_; (with_reducible refine (cmp_isNaN_int64.calls a0 true _ A3.out).mono ?_); rintro e w' ⟨rfl, ⟨nd, rfl⟩⟩; refine ⟨_, rfl, ?_⟩) | ((with_reducible refine gate_callee (f := 49) rfl ?_); refine goesL_ (some 10) rfl rfl Try.func49 (by kernel_rfl) rfl #[.int .i64 a1] rfl (by (try simp only [List.map_toArray, List.map_cons, List.map_nil]); first | done | rfl | (simp only [List.length_drop, List.length_take]; rfl)) ?_; (with_reducible refine (cmp_isNaN_int64.calls a1 false _ A4.out).mono ?_); rintro e w' ⟨rfl, ⟨nd, rfl⟩⟩; refine ⟨_, rfl, ?_⟩))
      go_ret
      exact ⟨by first | rfl | (simp; done) | (simp [*]; done), by repeat (first | exact Drawn0.refl _ | apply Drawn0.step)⟩
  · replace c5 := Bool.eq_false_iff.mpr c5
    subst c5
    have H1 : (if t103 = true then (some 1) else (if a0 < a1 then (some (-1)) else (if a0 > a1 then (some 1) else (some 0)))) = some r := by rw [if_neg (show ¬ (false = true) by decide)] at H; exact H
    clear H
    have H := H1
    clear H1
    by_cases c7 : t103 = true
    · subst c7
      have H1 : (some 1) = some r := by rw [if_pos rfl] at H; exact H
      clear H
      have H := H1
      clear H1
      obtain rfl := Option.some.inj H
      go_enter Try.func43, Try.ntmps43
      go_wp2_with (first | ((with_reducible refine gate_callee (f := 49) rfl ?_); refine goesL_ (some 8) rfl rfl Try.func49 (by kernel_rfl) rfl #[.int .i64 a0] rfl (by (try simp only [List.map_toArray, List.map_cons, List.map_nil]); first | done | rfl | (simp only [List.length_drop, List.length_take]; rfl)) ?_; (with_reducible refine (cmp_isNaN_int64.calls a0 false _ A3.out).mono ?_); rintro e w' ⟨rfl, ⟨nd, rfl⟩⟩; refine ⟨_, rfl, ?_⟩) | ((with_reducible refine gate_callee (f := 49) rfl ?_); refine goesL_ (some 10) rfl rfl Try.func49 (by kernel_rfl) rfl #[.int .i64 a1] rfl (by (try simp only [List.map_toArray, List.map_cons, List.map_nil]); first | done | rfl | (simp only [List.length_drop, List.length_take]; rfl)) ?_; (with_reducible refine (cmp_isNaN_int64.calls a1 true _ A4.out).mono ?_); rintro e w' ⟨rfl, ⟨nd, rfl⟩⟩; refine ⟨_, rfl, ?_⟩))
      go_ret
      exact ⟨by first | rfl | (simp; done) | (simp [*]; done), by repeat (first | exact Drawn0.refl _ | apply Drawn0.step)⟩
    · replace c7 := Bool.eq_false_iff.mpr c7
      subst c7
      have H1 : (if a0 < a1 then (some (-1)) else (if a0 > a1 then (some 1) else (some 0))) = some r := by rw [if_neg (show ¬ (false = true) by decide)] at H; exact H
      clear H
      have H := H1
      clear H1
      by_cases c8 : a0 < a1
      · rw [if_pos c8] at H
        have c8b0 : decide (a0 < a1) = true := decide_eq_true c8
        clear c8
        obtain rfl := Option.some.inj H
        go_enter Try.func43, Try.ntmps43
        go_wp2_with (first | ((with_reducible refine gate_callee (f := 49) rfl ?_); refine goesL_ (some 8) rfl rfl Try.func49 (by kernel_rfl) rfl #[.int .i64 a0] rfl (by (try simp only [List.map_toArray, List.map_cons, List.map_nil]); first | done | rfl | (simp only [List.length_drop, List.length_take]; rfl)) ?_; (with_reducible refine (cmp_isNaN_int64.calls a0 false _ A3.out).mono ?_); rintro e w' ⟨rfl, ⟨nd, rfl⟩⟩; refine ⟨_, rfl, ?_⟩) | ((with_reducible refine gate_callee (f := 49) rfl ?_); refine goesL_ (some 10) rfl rfl Try.func49 (by kernel_rfl) rfl #[.int .i64 a1] rfl (by (try simp only [List.map_toArray, List.map_cons, List.map_nil]); first | done | rfl | (simp only [List.length_drop, List.length_take]; rfl)) ?_; (with_reducible refine (cmp_isNaN_int64.calls a1 false _ A4.out).mono ?_); rintro e w' ⟨rfl, ⟨nd, rfl⟩⟩; refine ⟨_, rfl, ?_⟩))
        go_ret
        exact ⟨by first | rfl | (simp; done) | (simp [*]; done), by repeat (first | exact Drawn0.refl _ | apply Drawn0.step)⟩
      · rw [if_neg c8] at H
        have c8b0 : decide (a0 < a1) = false := decide_eq_false c8
        clear c8
        by_cases c9 : a0 > a1
        · rw [if_pos c9] at H
          have c9b0 : decide (a1 < a0) = true := decide_eq_true c9
          clear c9
          obtain rfl := Option.some.inj H
          go_enter Try.func43, Try.ntmps43
          go_wp2_with (first | ((with_reducible refine gate_callee (f := 49) rfl ?_); refine goesL_ (some 8) rfl rfl Try.func49 (by kernel_rfl) rfl #[.int .i64 a0] rfl (by (try simp only [List.map_toArray, List.map_cons, List.map_nil]); first | done | rfl | (simp only [List.length_drop, List.length_take]; rfl)) ?_; (with_reducible refine (cmp_isNaN_int64.calls a0 false _ A3.out).mono ?_); rintro e w' ⟨rfl, ⟨nd, rfl⟩⟩; refine ⟨_, rfl, ?_⟩) | ((with_reducible refine gate_callee (f := 49) rfl ?_); refine goesL_ (some 10) rfl rfl Try.func49 (by kernel_rfl) rfl #[.int .i64 a1] rfl (by (try simp only [List.map_toArray, List.map_cons, List.map_nil]); first | done | rfl | (simp only [List.length_drop, List.length_take]; rfl)) ?_; (with_reducible refine (cmp_isNaN_int64.calls a1 false _ A4.out).mono ?_); rintro e w' ⟨rfl, ⟨nd, rfl⟩⟩; refine ⟨_, rfl, ?_⟩))
          go_ret
          exact ⟨by first | rfl | (simp; done) | (simp [*]; done), by repeat (first | exact Drawn0.refl _ | apply Drawn0.step)⟩
        · rw [if_neg c9] at H
          have c9b0 : decide (a1 < a0) = false := decide_eq_false c9
          clear c9
          obtain rfl := Option.some.inj H
          go_enter Try.func43, Try.ntmps43
          go_wp2_with (first | ((with_reducible refine gate_callee (f := 49) rfl ?_); refine goesL_ (some 8) rfl rfl Try.func49 (by kernel_rfl) rfl #[.int .i64 a0] rfl (by (try simp only [List.map_toArray, List.map_cons, List.map_nil]); first | done | rfl | (simp only [List.length_drop, List.length_take]; rfl)) ?_; (with_reducible refine (cmp_isNaN_int64.calls a0 false _ A3.out).mono ?_); rintro e w' ⟨rfl, ⟨nd, rfl⟩⟩; refine ⟨_, rfl, ?_⟩) | ((with_reducible refine gate_callee (f := 49) rfl ?_); refine goesL_ (some 10) rfl rfl Try.func49 (by kernel_rfl) rfl #[.int .i64 a1] rfl (by (try simp only [List.map_toArray, List.map_cons, List.map_nil]); first | done | rfl | (simp only [List.length_drop, List.length_take]; rfl)) ?_; (with_reducible refine (cmp_isNaN_int64.calls a1 false _ A4.out).mono ?_); rintro e w' ⟨rfl, ⟨nd, rfl⟩⟩; refine ⟨_, rfl, ?_⟩))
          go_ret
          exact ⟨by first | rfl | (simp; done) | (simp [*]; done), by repeat (first | exact Drawn0.refl _ | apply Drawn0.step)⟩

/-! ### cmp_isNaN_int: function 50 -/
def cmp_isNaN_int.f (a0 : Int) : Option (Bool) := some (a0 != a0)
set_option maxHeartbeats 8000000 in
set_option maxRecDepth 100000 in
theorem cmp_isNaN_int.calls (a0 : Int) (r : Bool) (w : World) (h : cmp_isNaN_int.f a0 = some r) :
    Calls Try.prog 50 #[.int .i64 a0] w fun e w' => e = .returned (.bool r) ∧ Drawn0 w w' := by
  have H : (some (a0 != a0)) = some r := h
  clear h
  obtain rfl := Option.some.inj H
  go_enter Try.func50, Try.ntmps50
  go_wp2
  go_ret
  exact ⟨by first | rfl | (simp; done) | (simp [*]; done), by repeat (first | exact Drawn0.refl _ | apply Drawn0.step)⟩

/-! ### cmp_Compare_int: function 44 -/
def cmp_Compare_int.f (a0 : Int) (a1 : Int) : Option (Int) := (cmp_isNaN_int.f a0).bind fun t104 => ((cmp_isNaN_int.f a1).bind fun t105 => (if t104 = true then (if t105 = true then (some 0) else (some (-1))) else (if t105 = true then (some 1) else (if a0 < a1 then (some (-1)) else (if a0 > a1 then (some 1) else (some 0))))))
set_option maxHeartbeats 8000000 in
set_option maxRecDepth 100000 in
theorem cmp_Compare_int.calls (a0 : Int) (a1 : Int) (r : Int) (w : World) (h : cmp_Compare_int.f a0 a1 = some r) :
    Calls Try.prog 44 #[.int .i64 a0, .int .i64 a1] w fun e w' => e = .returned (.int .i64 r) ∧ Drawn0 w w' := by
  have H : ((cmp_isNaN_int.f a0).bind fun t104 => ((cmp_isNaN_int.f a1).bind fun t105 => (if t104 = true then (if t105 = true then (some 0) else (some (-1))) else (if t105 = true then (some 1) else (if a0 < a1 then (some (-1)) else (if a0 > a1 then (some 1) else (some 0))))))) = some r := h
  clear h
  replace H := Option.bind_eq_some_iff.mp H
  obtain ⟨t104, A30, H⟩ := H
  replace H : ((cmp_isNaN_int.f a1).bind fun t105 => (if t104 = true then (if t105 = true then (some 0) else (some (-1))) else (if t105 = true then (some 1) else (if a0 < a1 then (some (-1)) else (if a0 > a1 then (some 1) else (some 0)))))) = some r := H
  have A3 := Aside0.mk A30
  clear A30
  replace H := Option.bind_eq_some_iff.mp H
  obtain ⟨t105, A40, H⟩ := H
  replace H : (if t104 = true then (if t105 = true then (some 0) else (some (-1))) else (if t105 = true then (some 1) else (if a0 < a1 then (some (-1)) else (if a0 > a1 then (some 1) else (some 0))))) = some r := H
  have A4 := Aside0.mk A40
  clear A40
  by_cases c5 : t104 = true
  · subst c5
    have H1 : (if t105 = true then (some 0) else (some (-1))) = some r := by rw [if_pos rfl] at H; exact H
    clear H
    have H := H1
    clear H1
    by_cases c6 : t105 = true
    · subst c6
      have H1 : (some 0) = some r := by rw [if_pos rfl] at H; exact H
      clear H
      have H := H1
      clear H1
      obtain rfl := Option.some.inj H
      go_enter Try.func44, Try.ntmps44
      go_wp2_with (first | ((with_reducible refine gate_callee (f := 50) rfl ?_); refine goesL_ (some 8) rfl rfl Try.func50 (by kernel_rfl) rfl #[.int .i64 a0] rfl (by (try simp only [List.map_toArray, List.map_cons, List.map_nil]); first | done | rfl | (simp only [List.length_drop, List.length_take]; rfl)) ?_; (with_reducible refine (cmp_isNaN_int.calls a0 true _ A3.out).mono ?_); rintro e w' ⟨rfl, ⟨nd, rfl⟩⟩; refine ⟨_, rfl, ?_⟩) | ((with_reducible refine gate_callee (f := 50) rfl ?_); refine goesL_ (some 10) rfl rfl Try.func50 (by kernel_rfl) rfl #[.int .i64 a1] rfl (by (try simp only [List.map_toArray, List.map_cons, List.map_nil]); first | done | rfl | (simp only [List.length_drop, List.length_take]; rfl)) ?_; (with_reducible refine (cmp_isNaN_int.calls a1 true _ A4.out).mono ?_); rintro e w' ⟨rfl, ⟨nd, rfl⟩⟩; refine ⟨_, rfl, ?_⟩))
      go_ret
      exact ⟨by first | rfl | (simp; done) | (simp [*]; done), by repeat (first | exact Drawn0.refl _ | apply Drawn0.step)⟩
    · replace c6 := Bool.eq_false_iff.mpr c6
      subst c6
      have H1 : (some (-1)) = some r := by rw [if_neg (show ¬ (false = true) by decide)] at H; exact H
      clear H
      have H := H1
      clear H1
      obtain rfl := Option.some.inj H
      go_enter Try.func44, Try.ntmps44
      go_wp2_with (first | ((with_reducible refine gate_callee (f := 50) rfl ?_); refine goesL_ (some 8) rfl rfl Try.func50 (by kernel_rfl) rfl #[.int .i64 a0] rfl (by (try simp only [List.map_toArray, List.map_cons, List.map_nil]); first | done | rfl | (simp only [List.length_drop, List.length_take]; rfl)) ?_; (with_reducible refine (cmp_isNaN_int.calls a0 true _ A3.out).mono ?_); rintro e w' ⟨rfl, ⟨nd, rfl⟩⟩; refine ⟨_, rfl, ?_⟩) | ((with_reducible refine gate_callee (f := 50) rfl ?_); refine goesL_ (some 10) rfl rfl Try.func50 (by kernel_rfl) rfl #[.int .i64 a1] rfl (by (try simp only [List.map_toArray, List.map_cons, List.map_nil]); first | done | rfl | (simp only [List.length_drop, List.length_take]; rfl)) ?_; (with_reducible refine (cmp_isNaN_int.calls a1 false _ A4.out).mono ?_); rintro e w' ⟨rfl, ⟨nd, rfl⟩⟩; refine ⟨_, rfl, ?_⟩))
      go_ret
      exact ⟨by first | rfl | (simp; done) | (simp [*]; done), by repeat (first | exact Drawn0.refl _ | apply Drawn0.step)⟩
  · replace c5 := Bool.eq_false_iff.mpr c5
    subst c5
    have H1 : (if t105 = true then (some 1) else (if a0 < a1 then (some (-1)) else (if a0 > a1 then (some 1) else (some 0)))) = some r := by rw [if_neg (show ¬ (false = true) by decide)] at H; exact H
    clear H
    have H := H1
    clear H1
    by_cases c7 : t105 = true
    · subst c7
      have H1 : (some 1) = some r := by rw [if_pos rfl] at H; exact H
      clear H
      have H := H1
      clear H1
      obtain rfl := Option.some.inj H
      go_enter Try.func44, Try.ntmps44
      go_wp2_with (first | ((with_reducible refine gate_callee (f := 50) rfl ?_); refine goesL_ (some 8) rfl rfl Try.func50 (by kernel_rfl) rfl #[.int .i64 a0] rfl (by (try simp only [List.map_toArray, List.map_cons, List.map_nil]); first | done | rfl | (simp only [List.length_drop, List.length_take]; rfl)) ?_; (with_reducible refine (cmp_isNaN_int.calls a0 false _ A3.out).mono ?_); rintro e w' ⟨rfl, ⟨nd, rfl⟩⟩; refine ⟨_, rfl, ?_⟩) | ((with_reducible refine gate_callee (f := 50) rfl ?_); refine goesL_ (some 10) rfl rfl Try.func50 (by kernel_rfl) rfl #[.int .i64 a1] rfl (by (try simp only [List.map_toArray, List.map_cons, List.map_nil]); first | done | rfl | (simp only [List.length_drop, List.length_take]; rfl)) ?_; (with_reducible refine (cmp_isNaN_int.calls a1 true _ A4.out).mono ?_); rintro e w' ⟨rfl, ⟨nd, rfl⟩⟩; refine ⟨_, rfl, ?_⟩))
      go_ret
      exact ⟨by first | rfl | (simp; done) | (simp [*]; done), by repeat (first | exact Drawn0.refl _ | apply Drawn0.step)⟩
    · replace c7 := Bool.eq_false_iff.mpr c7
      subst c7
      have H1 : (if a0 < a1 then (some (-1)) else (if a0 > a1 then (some 1) else (some 0))) = some r := by rw [if_neg (show ¬ (false = true) by decide)] at H; exact H
      clear H
      have H := H1
      clear H1
      by_cases c8 : a0 < a1
      · rw [if_pos c8] at H
        have c8b0 : decide (a0 < a1) = true := decide_eq_true c8
        clear c8
        obtain rfl := Option.some.inj H
        go_enter Try.func44, Try.ntmps44
        go_wp2_with (first | ((with_reducible refine gate_callee (f := 50) rfl ?_); refine goesL_ (some 8) rfl rfl Try.func50 (by kernel_rfl) rfl #[.int .i64 a0] rfl (by (try simp only [List.map_toArray, List.map_cons, List.map_nil]); first | done | rfl | (simp only [List.length_drop, List.length_take]; rfl)) ?_; (with_reducible refine (cmp_isNaN_int.calls a0 false _ A3.out).mono ?_); rintro e w' ⟨rfl, ⟨nd, rfl⟩⟩; refine ⟨_, rfl, ?_⟩) | ((with_reducible refine gate_callee (f := 50) rfl ?_); refine goesL_ (some 10) rfl rfl Try.func50 (by kernel_rfl) rfl #[.int .i64 a1] rfl (by (try simp only [List.map_toArray, List.map_cons, List.map_nil]); first | done | rfl | (simp only [List.length_drop, List.length_take]; rfl)) ?_; (with_reducible refine (cmp_isNaN_int.calls a1 false _ A4.out).mono ?_); rintro e w' ⟨rfl, ⟨nd, rfl⟩⟩; refine ⟨_, rfl, ?_⟩))
        go_ret
        exact ⟨by first | rfl | (simp; done) | (simp [*]; done), by repeat (first | exact Drawn0.refl _ | apply Drawn0.step)⟩
      · rw [if_neg c8] at H
        have c8b0 : decide (a0 < a1) = false := decide_eq_false c8
        clear c8
        by_cases c9 : a0 > a1
        · rw [if_pos c9] at H
          have c9b0 : decide (a1 < a0) = true := decide_eq_true c9
          clear c9
          obtain rfl := Option.some.inj H
          go_enter Try.func44, Try.ntmps44
          go_wp2_with (first | ((with_reducible refine gate_callee (f := 50) rfl ?_); refine goesL_ (some 8) rfl rfl Try.func50 (by kernel_rfl) rfl #[.int .i64 a0] rfl (by (try simp only [List.map_toArray, List.map_cons, List.map_nil]); first | done | rfl | (simp only [List.length_drop, List.length_take]; rfl)) ?_; (with_reducible refine (cmp_isNaN_int.calls a0 false _ A3.out).mono ?_); rintro e w' ⟨rfl, ⟨nd, rfl⟩⟩; refine ⟨_, rfl, ?_⟩) | ((with_reducible refine gate_callee (f := 50) rfl ?_); refine goesL_ (some 10) rfl rfl Try.func50 (by kernel_rfl) rfl #[.int .i64 a1] rfl (by (try simp only [List.map_toArray, List.map_cons, List.map_nil]); first | done | rfl | (simp only [List.length_drop, List.length_take]; rfl)) ?_; (with_reducible refine (cmp_isNaN_int.calls a1 false _ A4.out).mono ?_); rintro e w' ⟨rfl, ⟨nd, rfl⟩⟩; refine ⟨_, rfl, ?_⟩))
          go_ret
          exact ⟨by first | rfl | (simp; done) | (simp [*]; done), by repeat (first | exact Drawn0.refl _ | apply Drawn0.step)⟩
        · rw [if_neg c9] at H
          have c9b0 : decide (a1 < a0) = false := decide_eq_false c9
          clear c9
          obtain rfl := Option.some.inj H
          go_enter Try.func44, Try.ntmps44
          go_wp2_with (first | ((with_reducible refine gate_callee (f := 50) rfl ?_); refine goesL_ (some 8) rfl rfl Try.func50 (by kernel_rfl) rfl #[.int .i64 a0] rfl (by (try simp only [List.map_toArray, List.map_cons, List.map_nil]); first | done | rfl | (simp only [List.length_drop, List.length_take]; rfl)) ?_; (with_reducible refine (cmp_isNaN_int.calls a0 false _ A3.out).mono ?_); rintro e w' ⟨rfl, ⟨nd, rfl⟩⟩; refine ⟨_, rfl, ?_⟩) | ((with_reducible refine gate_callee (f := 50) rfl ?_); refine goesL_ (some 10) rfl rfl Try.func50 (by kernel_rfl) rfl #[.int .i64 a1] rfl (by (try simp only [List.map_toArray, List.map_cons, List.map_nil]); first | done | rfl | (simp only [List.length_drop, List.length_take]; rfl)) ?_; (with_reducible refine (cmp_isNaN_int.calls a1 false _ A4.out).mono ?_); rintro e w' ⟨rfl, ⟨nd, rfl⟩⟩; refine ⟨_, rfl, ?_⟩))
          go_ret
          exact ⟨by first | rfl | (simp; done) | (simp [*]; done), by repeat (first | exact Drawn0.refl _ | apply Drawn0.step)⟩

/-! ### heap_Compare: function 33 -/
def heap_Compare.f (k : Nat) (a0_0 : Int) (a0_1 : Int) (a0_2 : Int) (a1_0 : Int) (a1_1 : Int) (a1_2 : Int) : Option (Int) := (cmp_Compare_int64.f a0_0 a1_0).bind fun t108 => ((cmp_Compare_int64.f a0_1 a1_1).bind fun t109 => ((cmp_Compare_int.f a0_2 a1_2).bind fun t110 => ((cmp_Or_int.f k (([t108, t109, t110] : List Int))).bind fun t114 => (some t114))))
theorem heap_Compare.mono : ∀ a0 a1 a2 a3 a4 a5 k, LeO (heap_Compare.f k a0 a1 a2 a3 a4 a5) (heap_Compare.f (k + 1) a0 a1 a2 a3 a4 a5) := by
  intro a0 a1 a2 a3 a4 a5 k
  unfold heap_Compare.f
  repeat' first
      | (with_reducible exact cmp_Or_int.mono _ _)
      | (with_reducible exact LeO.refl _)
      | (with_reducible exact LeO.none _)
      | (with_reducible refine LeO.ite ?_ ?_)
      | (with_reducible refine LeO.bind ?_ (fun _ => ?_))
      | exact cmp_Or_int.mono _ _
      | exact LeO.none _
      | refine LeO.ite ?_ ?_
      | refine LeO.bind ?_ (fun _ => ?_)
def heap_Compare.T1 : Bool × List (List Nat × List Nat) := (true, [([], []), ([0], [0]), ([], []), ([2], [2]), ([1, 3], [1, 3]), ([], []), ([5], [5]), ([], []), ([7], [7]), ([6, 8, 4], [6, 8]), ([], []), ([10], [10]), ([], []), ([12], [12]), ([11, 13, 9], [11, 13]), ([4, 9, 14], [4, 9, 14]), ([15, 14], [15]), ([16, 16, 0, 1, 2, 3, 4, 5, 6, 7, 8, 9, 10, 11, 12, 13, 14, 15, 16], [16])])
def heap_Compare.B1 : List Nat := [0, 1, 0, 4, 15, 0, 32, 0, 128, 511, 0, 1024, 0, 4096, 16383, 32767, 65535, 131071]
theorem heap_Compare.tab1 : rtab .any (opsOf Try.f33 1) = heap_Compare.T1 := by kernel_rfl
theorem heap_Compare.bits1 : waitsOk heap_Compare.T1.2 heap_Compare.B1 = true := by kernel_rfl
set_option maxHeartbeats 8000000 in
set_option maxRecDepth 100000 in
theorem heap_Compare.calls (k : Nat) (a0_0 : Int) (a0_1 : Int) (a0_2 : Int) (a1_0 : Int) (a1_1 : Int) (a1_2 : Int) (r : Int) (w : World) (h : heap_Compare.f k a0_0 a0_1 a0_2 a1_0 a1_1 a1_2 = some r) :
    Calls Try.prog 33 #[.agg #[.int .i64 a0_0, .int .i64 a0_1, .int .i64 a0_2], .agg #[.int .i64 a1_0, .int .i64 a1_1, .int .i64 a1_2]] w fun e w' => e = .returned (.int .i64 r) ∧ Below w.heap.size w w' := by
  have hu61 := Try.underlying61
  have HB := Aside0.mk (Below.refl w.heap.size w)
  have H : ((cmp_Compare_int64.f a0_0 a1_0).bind fun t108 => ((cmp_Compare_int64.f a0_1 a1_1).bind fun t109 => ((cmp_Compare_int.f a0_2 a1_2).bind fun t110 => ((cmp_Or_int.f k (([t108, t109, t110] : List Int))).bind fun t114 => (some t114))))) = some r := h
  clear h
  replace H := Option.bind_eq_some_iff.mp H
  obtain ⟨t108, A30, H⟩ := H
  replace H : ((cmp_Compare_int64.f a0_1 a1_1).bind fun t109 => ((cmp_Compare_int.f a0_2 a1_2).bind fun t110 => ((cmp_Or_int.f k (([t108, t109, t110] : List Int))).bind fun t114 => (some t114)))) = some r := H
  have A3 := Aside0.mk A30
  clear A30
  replace H := Option.bind_eq_some_iff.mp H
  obtain ⟨t109, A40, H⟩ := H
  replace H : ((cmp_Compare_int.f a0_2 a1_2).bind fun t110 => ((cmp_Or_int.f k (([t108, t109, t110] : List Int))).bind fun t114 => (some t114))) = some r := H
  have A4 := Aside0.mk A40
  clear A40
  replace H := Option.bind_eq_some_iff.mp H
  obtain ⟨t110, A50, H⟩ := H
  replace H : ((cmp_Or_int.f k (([t108, t109, t110] : List Int))).bind fun t114 => (some t114)) = some r := H
  have A5 := Aside0.mk A50
  clear A50
  obtain ⟨y111, hy111⟩ : ∃ y_ : List Int, y_ = (([t108, t109, t110] : List Int)) := ⟨_, rfl⟩
  replace H : ((cmp_Or_int.f k y111).bind fun t114 => (some t114)) = some r := by first | (rw [hy111]; with_reducible exact H) | (have H2_ := (Option.bind_some _ _).symm.trans H; rw [hy111]; with_reducible exact H2_) | (have H2_ := (Option.bind_some _ _).symm.trans H; with_reducible exact H2_) | with_reducible exact H | (rw [hy111]; exact H) | exact H
  have Ny111 := Aside0.mk hy111
  clear hy111
  replace H := Option.bind_eq_some_iff.mp H
  obtain ⟨t114, A60, H⟩ := H
  replace H : (some t114) = some r := H
  have A6 := Aside0.mk A60
  clear A60
  obtain rfl := Option.some.inj H
  go_enter Try.func33, Try.ntmps33
  try go_wp2_with (first | ((with_reducible refine gate_dst (N := 2) rfl ?_); refine box_event ?hg (N := 2) ?hd (cs := #[.int .i64 a0_0, .int .i64 a0_1, .int .i64 a0_2]) (t := 61) ?hr ?_; (case hd => rfl); (case hg => rfl); (case hr => first | (go_simp; done) | (go_simp; rfl)); intro gb106 hg w7 hbox hb; have n0_ := Aside0.mk (below_step (by repeat (first | (with_reducible first | exact HB.out | apply below_alloc | apply pw_below_drewN | apply below_drew1) | exact HB.out)) hb); have n1_ := Aside0.mk (hbox); have n2_ := Aside0.mk ((by rw [hg]; exact (below_size (by repeat (first | (with_reducible first | exact HB.out | apply below_alloc | apply pw_below_drewN | apply below_drew1) | exact HB.out))) : w.heap.size ≤ gb106)); have n3_ := Aside0.mk ((by rw [hg]; exact (below_size (by repeat (first | (with_reducible first | exact HB.out | apply below_alloc | apply pw_below_drewN | apply below_drew1) | exact HB.out))) : w.heap.size ≤ gb106)); clear HB; have HB := n0_; have BK106 := n1_; have GW106 := n2_; have GE106 := n3_; clear n0_ n1_ n2_ n3_; clear hb hbox hg) | ((with_reducible refine gate_dst (N := 3) rfl ?_); refine box_event ?hg (N := 3) ?hd (cs := #[.int .i64 a1_0, .int .i64 a1_1, .int .i64 a1_2]) (t := 61) ?hr ?_; (case hd => rfl); (case hg => rfl); (case hr => first | (go_simp; done) | (go_simp; rfl)); intro gb107 hg w8 hbox hb; have n0_ := Aside0.mk (blk_below (g := gb106) (o := .cells #[.int .i64 a0_0, .int .i64 a0_1, .int .i64 a0_2] 61 (0, 0)) (by (with_reducible repeat (first | refine blk_drewN ?_ _ | refine blk_drew ?_ | refine blk_alloc ?_ _)); exact BK106.out) hb); have n1_ := Aside0.mk (below_step (by repeat (first | (with_reducible first | exact HB.out | apply below_alloc | apply pw_below_drewN | apply below_drew1 | refine below_set ?_ GE106.out) | exact HB.out)) hb); have n2_ := Aside0.mk (hbox); have n3_ := Aside0.mk ((by rw [hg]; exact (below_size (by repeat (first | (with_reducible first | exact HB.out | apply below_alloc | apply pw_below_drewN | apply below_drew1 | refine below_set ?_ GE106.out) | exact HB.out))) : w.heap.size ≤ gb107)); have n4_ := Aside0.mk ((by rw [hg]; exact (below_size (by repeat (first | (with_reducible first | exact HB.out | apply below_alloc | apply pw_below_drewN | apply below_drew1 | refine below_set ?_ GE106.out) | exact HB.out))) : w.heap.size ≤ gb107)); have n5_ := Aside0.mk ((by rw [hg]; exact Nat.ne_of_lt (blk_lt (g := gb106) (o := .cells #[.int .i64 a0_0, .int .i64 a0_1, .int .i64 a0_2] 61 (0, 0)) (by (with_reducible repeat (first | refine blk_drewN ?_ _ | refine blk_drew ?_ | refine blk_alloc ?_ _)); exact BK106.out)) : gb106 ≠ gb107)); have n6_ := Aside0.mk ((by rw [hg]; exact Nat.ne_of_gt (blk_lt (g := gb106) (o := .cells #[.int .i64 a0_0, .int .i64 a0_1, .int .i64 a0_2] 61 (0, 0)) (by (with_reducible repeat (first | refine blk_drewN ?_ _ | refine blk_drew ?_ | refine blk_alloc ?_ _)); exact BK106.out)) : gb107 ≠ gb106)); clear BK106; clear HB; have BK106 := n0_; have HB := n1_; have BK107 := n2_; have GW107 := n3_; have GE107 := n4_; have NB106_107 := n5_; have NB107_106 := n6_; clear n0_ n1_ n2_ n3_ n4_ n5_ n6_; clear hb hbox hg))
  have n0_ := Aside0.mk (blk_drew BK106.out)
  have n1_ := Aside0.mk (blk_drew BK107.out)
  have n2_ := Aside0.mk (below_drew1 HB.out)
  clear BK106
  clear BK107
  clear HB
  have BK106 := n0_
  have BK107 := n1_
  have HB := n2_
  clear n0_ n1_ n2_
  refine start_ (n := 18) (S := fun w' => w'.cell? ⟨gb106, 0, none⟩ = some (.int .i64 a0_0) ∧ w'.cell? ⟨gb106, 1, none⟩ = some (.int .i64 a0_1) ∧ w'.cell? ⟨gb106, 2, none⟩ = some (.int .i64 a0_2) ∧ w'.cell? ⟨gb107, 0, none⟩ = some (.int .i64 a1_0) ∧ w'.cell? ⟨gb107, 1, none⟩ = some (.int .i64 a1_1) ∧ w'.cell? ⟨gb107, 2, none⟩ = some (.int .i64 a1_2)) (ds := []) #[false, false, false, false, false, false, false, false, false, false, false, false, false, false, false, false, false, false] (by kernel_rfl) rfl rfl ⟨(blk_cell BK106.out 0).trans rfl, (blk_cell BK106.out 1).trans rfl, (blk_cell BK106.out 2).trans rfl, (blk_cell BK107.out 0).trans rfl, (blk_cell BK107.out 1).trans rfl, (blk_cell BK107.out 2).trans rfl⟩ (fun hHeld => ?_); refine with_tabW heap_Compare.tab1 heap_Compare.bits1 (fun HT_ HW_ => ?_)
  generalize w8.drew = w9 at BK106 BK107 HB hHeld ⊢
  refine pure_ (i := 0) (N := some 5) (v := ?_) (a' := ?_) #[true, false, false, false, false, false, false, false, false, false, false, false, false, false, false, false, false, false] rfl rfl (any_of HT_.out (by kernel_rfl)) (fun _ _ _ h => h) (Or.inl ⟨by rfl, ?_⟩) ?_ ?_
  rotate_left
  · intro w'
    go_simp
    with_reducible rfl
  rotate_left
  · simp only [Act.put, List.setIfInBounds_toArray, List.set_cons_zero, List.set_cons_succ, i64_w, i32_w]
    rfl
  refine pure_ (i := 2) (N := some 7) (v := ?_) (a' := ?_) #[true, false, true, false, false, false, false, false, false, false, false, false, false, false, false, false, false, false] rfl rfl (any_of HT_.out (by kernel_rfl)) (fun _ _ _ h => h) (Or.inl ⟨by rfl, ?_⟩) ?_ ?_
  rotate_left
  · intro w'
    go_simp
    with_reducible rfl
  rotate_left
  · simp only [Act.put, List.setIfInBounds_toArray, List.set_cons_zero, List.set_cons_succ, i64_w, i32_w]
    rfl
  refine pure_ (i := 5) (N := some 10) (v := ?_) (a' := ?_) #[true, false, true, false, false, true, false, false, false, false, false, false, false, false, false, false, false, false] rfl rfl (any_of HT_.out (by kernel_rfl)) (fun _ _ _ h => h) (Or.inl ⟨by rfl, ?_⟩) ?_ ?_
  rotate_left
  · intro w'
    go_simp
    with_reducible rfl
  rotate_left
  · simp only [Act.put, List.setIfInBounds_toArray, List.set_cons_zero, List.set_cons_succ, i64_w, i32_w]
    rfl
  refine pure_ (i := 7) (N := some 12) (v := ?_) (a' := ?_) #[true, false, true, false, false, true, false, true, false, false, false, false, false, false, false, false, false, false] rfl rfl (any_of HT_.out (by kernel_rfl)) (fun _ _ _ h => h) (Or.inl ⟨by rfl, ?_⟩) ?_ ?_
  rotate_left
  · intro w'
    go_simp
    with_reducible rfl
  rotate_left
  · simp only [Act.put, List.setIfInBounds_toArray, List.set_cons_zero, List.set_cons_succ, i64_w, i32_w]
    rfl
  refine pure_ (i := 10) (N := some 15) (v := ?_) (a' := ?_) #[true, false, true, false, false, true, false, true, false, false, true, false, false, false, false, false, false, false] rfl rfl (any_of HT_.out (by kernel_rfl)) (fun _ _ _ h => h) (Or.inl ⟨by rfl, ?_⟩) ?_ ?_
  rotate_left
  · intro w'
    go_simp
    with_reducible rfl
  rotate_left
  · simp only [Act.put, List.setIfInBounds_toArray, List.set_cons_zero, List.set_cons_succ, i64_w, i32_w]
    rfl
  refine pure_ (i := 12) (N := some 17) (v := ?_) (a' := ?_) #[true, false, true, false, false, true, false, true, false, false, true, false, true, false, false, false, false, false] rfl rfl (any_of HT_.out (by kernel_rfl)) (fun _ _ _ h => h) (Or.inl ⟨by rfl, ?_⟩) ?_ ?_
  rotate_left
  · intro w'
    go_simp
    with_reducible rfl
  rotate_left
  · simp only [Act.put, List.setIfInBounds_toArray, List.set_cons_zero, List.set_cons_succ, i64_w, i32_w]
    rfl
  refine take_ (i := 1) (N := some 6) (v := ?_) (a' := ?_) #[true, true, true, false, false, true, false, true, false, false, true, false, true, false, false, false, false, false] rfl rfl (take_ofW HT_.out HW_.out (by kernel_rfl)) (fun _ _ _ h => h) (Or.inl ⟨by rfl, ?_⟩) hHeld ?_ ?_
  rotate_left
  · rintro w' ⟨s0, s1, s2, s3, s4, s5⟩
    go_simp
    with_reducible rfl
  rotate_left
  · simp only [Act.put, List.setIfInBounds_toArray, List.set_cons_zero, List.set_cons_succ, i64_w, i32_w]
    rfl
  refine take_ (i := 3) (N := some 8) (v := ?_) (a' := ?_) #[true, true, true, true, false, true, false, true, false, false, true, false, true, false, false, false, false, false] rfl rfl (take_ofW HT_.out HW_.out (by kernel_rfl)) (fun _ _ _ h => h) (Or.inl ⟨by rfl, ?_⟩) hHeld ?_ ?_
  rotate_left
  · rintro w' ⟨s0, s1, s2, s3, s4, s5⟩
    go_simp
    with_reducible rfl
  rotate_left
  · simp only [Act.put, List.setIfInBounds_toArray, List.set_cons_zero, List.set_cons_succ, i64_w, i32_w]
    rfl
  refine take_ (i := 6) (N := some 11) (v := ?_) (a' := ?_) #[true, true, true, true, false, true, true, true, false, false, true, false, true, false, false, false, false, false] rfl rfl (take_ofW HT_.out HW_.out (by kernel_rfl)) (fun _ _ _ h => h) (Or.inl ⟨by rfl, ?_⟩) hHeld ?_ ?_
  rotate_left
  · rintro w' ⟨s0, s1, s2, s3, s4, s5⟩
    go_simp
    with_reducible rfl
  rotate_left
  · simp only [Act.put, List.setIfInBounds_toArray, List.set_cons_zero, List.set_cons_succ, i64_w, i32_w]
    rfl
  refine take_ (i := 8) (N := some 13) (v := ?_) (a' := ?_) #[true, true, true, true, false, true, true, true, true, false, true, false, true, false, false, false, false, false] rfl rfl (take_ofW HT_.out HW_.out (by kernel_rfl)) (fun _ _ _ h => h) (Or.inl ⟨by rfl, ?_⟩) hHeld ?_ ?_
  rotate_left
  · rintro w' ⟨s0, s1, s2, s3, s4, s5⟩
    go_simp
    with_reducible rfl
  rotate_left
  · simp only [Act.put, List.setIfInBounds_toArray, List.set_cons_zero, List.set_cons_succ, i64_w, i32_w]
    rfl
  refine take_ (i := 11) (N := some 16) (v := ?_) (a' := ?_) #[true, true, true, true, false, true, true, true, true, false, true, true, true, false, false, false, false, false] rfl rfl (take_ofW HT_.out HW_.out (by kernel_rfl)) (fun _ _ _ h => h) (Or.inl ⟨by rfl, ?_⟩) hHeld ?_ ?_
  rotate_left
  · rintro w' ⟨s0, s1, s2, s3, s4, s5⟩
    go_simp
    with_reducible rfl
  rotate_left
  · simp only [Act.put, List.setIfInBounds_toArray, List.set_cons_zero, List.set_cons_succ, i64_w, i32_w]
    rfl
  refine take_ (i := 13) (N := some 18) (v := ?_) (a' := ?_) #[true, true, true, true, false, true, true, true, true, false, true, true, true, true, false, false, false, false] rfl rfl (take_ofW HT_.out HW_.out (by kernel_rfl)) (fun _ _ _ h => h) (Or.inl ⟨by rfl, ?_⟩) hHeld ?_ ?_
  rotate_left
  · rintro w' ⟨s0, s1, s2, s3, s4, s5⟩
    go_simp
    with_reducible rfl
  rotate_left
  · simp only [Act.put, List.setIfInBounds_toArray, List.set_cons_zero, List.set_cons_succ, i64_w, i32_w]
    rfl
  refine one_ (i := 4) (N := some 9) #[true, true, true, true, true, true, true, true, true, false, true, true, true, true, false, false, false, false] rfl rfl (one_of HT_.out (by kernel_rfl)) (by decide) (fun K hK => ?_)
  refine goes_ Try.func43 (by kernel_rfl) rfl #[.int .i64 a0_0, .int .i64 a1_0] (by rfl) rfl rfl (by (try simp only [List.map_toArray, List.map_cons, List.map_nil]); first | done | rfl | (simp only [List.length_drop, List.length_take]; rfl)) ?_
  with_reducible refine (cmp_Compare_int64.calls a0_0 a1_0 t108 _ A3.out).mono ?_
  rintro e w' ⟨rfl, ⟨nd, rfl⟩⟩
  refine ⟨_, rfl, ?_⟩
  refine hK.out _ _ ⟨(blk_cell BK106.out 0).trans rfl, (blk_cell BK106.out 1).trans rfl, (blk_cell BK106.out 2).trans rfl, (blk_cell BK107.out 0).trans rfl, (blk_cell BK107.out 1).trans rfl, (blk_cell BK107.out 2).trans rfl⟩ (fun hHeld => ?_)
  clear hK K
  refine norm_ (a' := ?_) ?_ ?_
  rotate_left
  · show Act.put _ (some 9) _ = _
    simp only [Act.put, List.setIfInBounds_toArray, List.set_cons_zero, List.set_cons_succ, i64_w, i32_w]
    rfl
  refine one_ (i := 9) (N := some 14) #[true, true, true, true, true, true, true, true, true, true, true, true, true, true, false, false, false, false] rfl rfl (one_of HT_.out (by kernel_rfl)) (by decide) (fun K hK => ?_)
  refine goes_ Try.func43 (by kernel_rfl) rfl #[.int .i64 a0_1, .int .i64 a1_1] (by rfl) rfl rfl (by (try simp only [List.map_toArray, List.map_cons, List.map_nil]); first | done | rfl | (simp only [List.length_drop, List.length_take]; rfl)) ?_
  with_reducible refine (cmp_Compare_int64.calls a0_1 a1_1 t109 _ A4.out).mono ?_
  rintro e w' ⟨rfl, ⟨nd, rfl⟩⟩
  refine ⟨_, rfl, ?_⟩
  refine hK.out _ _ ⟨(blk_cell BK106.out 0).trans rfl, (blk_cell BK106.out 1).trans rfl, (blk_cell BK106.out 2).trans rfl, (blk_cell BK107.out 0).trans rfl, (blk_cell BK107.out 1).trans rfl, (blk_cell BK107.out 2).trans rfl⟩ (fun hHeld => ?_)
  clear hK K
  refine norm_ (a' := ?_) ?_ ?_
  rotate_left
  · show Act.put _ (some 14) _ = _
    simp only [Act.put, List.setIfInBounds_toArray, List.set_cons_zero, List.set_cons_succ, i64_w, i32_w]
    rfl
  refine one_ (i := 14) (N := some 19) #[true, true, true, true, true, true, true, true, true, true, true, true, true, true, true, false, false, false] rfl rfl (one_of HT_.out (by kernel_rfl)) (by decide) (fun K hK => ?_)
  refine goes_ Try.func44 (by kernel_rfl) rfl #[.int .i64 a0_2, .int .i64 a1_2] (by rfl) rfl rfl (by (try simp only [List.map_toArray, List.map_cons, List.map_nil]); first | done | rfl | (simp only [List.length_drop, List.length_take]; rfl)) ?_
  with_reducible refine (cmp_Compare_int.calls a0_2 a1_2 t110 _ A5.out).mono ?_
  rintro e w' ⟨rfl, ⟨nd, rfl⟩⟩
  refine ⟨_, rfl, ?_⟩
  refine hK.out _ _ ⟨(blk_cell BK106.out 0).trans rfl, (blk_cell BK106.out 1).trans rfl, (blk_cell BK106.out 2).trans rfl, (blk_cell BK107.out 0).trans rfl, (blk_cell BK107.out 1).trans rfl, (blk_cell BK107.out 2).trans rfl⟩ (fun hHeld => ?_)
  clear hK K
  refine norm_ (a' := ?_) ?_ ?_
  rotate_left
  · show Act.put _ (some 19) _ = _
    simp only [Act.put, List.setIfInBounds_toArray, List.set_cons_zero, List.set_cons_succ, i64_w, i32_w]
    rfl
  refine one_ (i := 15) (N := some 20) #[true, true, true, true, true, true, true, true, true, true, true, true, true, true, true, true, false, false] rfl rfl (one_of HT_.out (by kernel_rfl)) (by decide) (fun K hK => ?_)
  refine Kd.R_lit_step (Kd.int .i64) _ 3 ?hg (N := 20) ?hd (xs := ([t108, t109, t110] : List Int)) (inner := [.int .i64 t108, .int .i64 t109, .int .i64 t110]) (ok := fun _ => True) (okp := fun _ => True) ?hr ?hp (fun _ hk => hk) trivial (Below.refl _ _) (Nat.le_refl _) (by simp) ?_; (case hd => rfl); (case hg => rfl); (case hr => first | (go_simp; done) | (go_simp; rfl)); (case hp => exact (Reps.one (show Kd.M (Kd.int .i64) _ _ _ t108 [.int .i64 t108] from rfl) (Reps.one (show Kd.M (Kd.int .i64) _ _ _ t109 [.int .i64 t109] from rfl) (Reps.one (show Kd.M (Kd.int .i64) _ _ _ t110 [.int .i64 t110] from rfl) (Reps.none _ _)))))
  intro v112 w10 ho11 hb hg_ hnew_
  clear hg_ hnew_
  (first | rw [← Ny111.out] at ho11 | (simp only [Int.reduceToNat] at ho11; rw [← Ny111.out] at ho11))
  have n0_ := Aside0.mk (Kd.R_lower ho11 (below_size (by repeat (first | (with_reducible first | exact HB.out | apply below_alloc | apply pw_below_drewN | apply below_drew1 | refine below_set ?_ GE106.out | refine below_set ?_ GE107.out) | exact HB.out))))
  have n1_ := Aside0.mk (blk_below (g := gb106) (o := .cells #[.int .i64 a0_0, .int .i64 a0_1, .int .i64 a0_2] 61 (0, 0)) (by (with_reducible repeat (first | refine blk_drewN ?_ _ | refine blk_drew ?_ | refine blk_alloc ?_ _)); exact BK106.out) hb)
  have n2_ := Aside0.mk (blk_below (g := gb107) (o := .cells #[.int .i64 a1_0, .int .i64 a1_1, .int .i64 a1_2] 61 (0, 0)) (by (with_reducible repeat (first | refine blk_drewN ?_ _ | refine blk_drew ?_ | refine blk_alloc ?_ _)); exact BK107.out) hb)
  have n3_ := Aside0.mk (below_step (by repeat (first | (with_reducible first | exact HB.out | apply below_alloc | apply pw_below_drewN | apply below_drew1 | refine below_set ?_ GE106.out | refine below_set ?_ GE107.out) | exact HB.out)) hb)
  clear BK106
  clear BK107
  clear HB
  have HO113 := n0_
  have BK106 := n1_
  have BK107 := n2_
  have HB := n3_
  clear n0_ n1_ n2_ n3_
  clear hb ho11
  obtain ⟨Ao12, co12, eo12⟩ := Kd.R_slice HO113.out
  (first | subst eo12 | (injection eo12 with f1_ f2_ f3_; have f4_ := f1_.symm; have f5_ := f3_.symm; clear f1_ f2_ f3_; subst f4_; subst f5_))
  refine hK.out _ _ ⟨(blk_cell BK106.out 0).trans rfl, (blk_cell BK106.out 1).trans rfl, (blk_cell BK106.out 2).trans rfl, (blk_cell BK107.out 0).trans rfl, (blk_cell BK107.out 1).trans rfl, (blk_cell BK107.out 2).trans rfl⟩ (fun hHeld => ?_)
  clear hK K
  refine norm_ (a' := ?_) ?_ ?_
  rotate_left
  · show Act.put _ (some 20) _ = _
    simp only [Act.put, List.setIfInBounds_toArray, List.set_cons_zero, List.set_cons_succ, i64_w, i32_w]
    rfl
  refine one_ (i := 16) (N := some 21) #[true, true, true, true, true, true, true, true, true, true, true, true, true, true, true, true, true, false] rfl rfl (one_of HT_.out (by kernel_rfl)) (by decide) (fun K hK => ?_)
  refine goes_ Try.func42 (by kernel_rfl) rfl #[.slice Ao12 y111.length co12] (by rfl) rfl rfl (by (try simp only [List.map_toArray, List.map_cons, List.map_nil]); first | done | rfl | (simp only [List.length_drop, List.length_take]; rfl)) ?_
  with_reducible refine (cmp_Or_int.calls k _ _ y111 t114 _ ?side1 ?side2 A6.out).mono ?_
  (case side1 => repeat (first | exact (Kd.R_reads' HO113.out).2.2 | (with_reducible refine Kd.C_alloc ?_ _) | (with_reducible refine Kd.C_drewN ?_ _) | (with_reducible refine Kd.C_drew ?_)))
  (case side2 => exact (Kd.R_reads' HO113.out).2.1)
  rintro e w' ⟨rfl, ⟨nd, rfl⟩⟩
  refine ⟨_, rfl, ?_⟩
  refine hK.out _ _ ⟨(blk_cell BK106.out 0).trans rfl, (blk_cell BK106.out 1).trans rfl, (blk_cell BK106.out 2).trans rfl, (blk_cell BK107.out 0).trans rfl, (blk_cell BK107.out 1).trans rfl, (blk_cell BK107.out 2).trans rfl⟩ (fun hHeld => ?_)
  clear hK K
  refine norm_ (a' := ?_) ?_ ?_
  rotate_left
  · show Act.put _ (some 21) _ = _
    simp only [Act.put, List.setIfInBounds_toArray, List.set_cons_zero, List.set_cons_succ, i64_w, i32_w]
    rfl
  refine pure_ (i := 17) (N := some 4) (v := ?_) (a' := ?_) #[true, true, true, true, true, true, true, true, true, true, true, true, true, true, true, true, true, true] rfl rfl (any_of HT_.out (by kernel_rfl)) (fun _ _ _ h => h) (Or.inl ⟨by rfl, ?_⟩) ?_ ?_
  rotate_left
  · intro w'
    go_simp
    with_reducible rfl
  rotate_left
  · simp only [Act.put, List.setIfInBounds_toArray, List.set_cons_zero, List.set_cons_succ, i64_w, i32_w]
    rfl
  refine done_ (done_of HT_.out (by kernel_rfl)) ?_
  try go_wp2
  go_ret
  exact ⟨by first | rfl | (simp [errW_none, errW_some] <;> rfl) | (simp [*, errW_none, errW_some] <;> rfl), by repeat (first | (with_reducible first | exact HB.out | apply below_alloc | apply pw_below_drewN | apply below_drew1 | refine below_set ?_ GE106.out | refine below_set ?_ GE107.out) | exact HB.out)⟩

end Go.Proofs.Ytldkdndgnojepaa.PCompare
namespace Go.Proofs.Ytldkdndgnojepaa.Heap
open Go Go.RowKit Go.Proofs.Ytldkdndgnojepaa.Own Go.Proofs.YtldkdndgnojepaaW.PrintWords Go.Proofs.YtldkdndgnojepaaW.PrintLast Go.Proofs.YtldkdndgnojepaaW.PrintMore
set_option linter.unusedVariables false
set_option linter.unusedSimpArgs false
structure Tm where
  t : Int
  s : Int
  g : Int
deriving DecidableEq
def Tm.cells (x : Tm) : List Value := [.int .i64 x.t, .int .i64 x.s, .int .i64 x.g]
def kTm : Kd Tm := Kd.iso (Kd.pair (Kd.int .i64) (Kd.pair (Kd.int .i64) (Kd.int .i64))) (fun x => (x.t, x.s, x.g))
theorem kTm_open {w : World} {x : Tm} {cs : List Value} (h : kTm.K w x cs) : cs = x.cells := by
  obtain ⟨_, _, rfl, rfl, _, _, rfl, rfl, rfl⟩ := h
  rfl
theorem kTm_mk (w : World) (x : Tm) : kTm.K w x x.cells := ⟨[_], [_, _], rfl, rfl, [_], [_], rfl, rfl, rfl⟩
def sgn (a b : Int) : Int := if a < b then -1 else if b < a then 1 else 0
def cmpT (x y : Tm) : Int := if sgn x.t y.t ≠ 0 then sgn x.t y.t else if sgn x.s y.s ≠ 0 then sgn x.s y.s else sgn x.g y.g
theorem cmp64 (a b : Int) : PCompare.cmp_Compare_int64.f a b = some (sgn a b) := by
  have h1 : (a != a) = false := by simp
  have h2 : (b != b) = false := by simp
  unfold PCompare.cmp_Compare_int64.f PCompare.cmp_isNaN_int64.f sgn
  simp only [Option.bind_some, h1, h2, Bool.false_eq_true, if_false]
  by_cases h3 : a < b
  · rw [if_pos h3, if_pos h3]
  · rw [if_neg h3, if_neg h3]
    by_cases h4 : b < a
    · rw [if_pos h4, if_pos h4]
    · rw [if_neg h4, if_neg h4]
theorem cmpi (a b : Int) : PCompare.cmp_Compare_int.f a b = some (sgn a b) := by
  have h1 : (a != a) = false := by simp
  have h2 : (b != b) = false := by simp
  unfold PCompare.cmp_Compare_int.f PCompare.cmp_isNaN_int.f sgn
  simp only [Option.bind_some, h1, h2, Bool.false_eq_true, if_false]
  by_cases h3 : a < b
  · rw [if_pos h3, if_pos h3]
  · rw [if_neg h3, if_neg h3]
    by_cases h4 : b < a
    · rw [if_pos h4, if_pos h4]
    · rw [if_neg h4, if_neg h4]
theorem cmp_f (x y : Tm) : PCompare.heap_Compare.f 5 x.t x.s x.g y.t y.s y.g = some (cmpT x y) := by
  unfold PCompare.heap_Compare.f cmpT
  rw [cmp64, cmp64, cmpi]
  simp only [Option.bind_some]
  generalize sgn x.t y.t = a
  generalize sgn x.s y.s = b
  generalize sgn x.g y.g = c
  have e1 : rd [a, b, c] 0 = a := rfl
  have e2 : rd [a, b, c] 1 = b := rfl
  have e3 : rd [a, b, c] 2 = c := rfl
  have w1 : wrap64 1 = 1 := by decide +kernel
  have w2 : wrap64 2 = 2 := by decide +kernel
  have w3 : wrap64 3 = 3 := by decide +kernel
  unfold PCompare.cmp_Or_int.f
  by_cases ha : a = 0
  · by_cases hb : b = 0
    · by_cases hc : c = 0
      · subst ha hb hc; simp [PCompare.cmp_Or_int.l0, e1, e2, e3, w1, w2, w3]
      · subst ha hb; simp [PCompare.cmp_Or_int.l0, e1, e2, e3, w1, w2, w3, hc]
    · subst ha; simp [PCompare.cmp_Or_int.l0, e1, e2, e3, w1, w2, w3, hb]
  · simp [PCompare.cmp_Or_int.l0, e1, e2, e3, w1, w2, w3, ha]
theorem cmp_calls (x y : Tm) (w : World) : Calls Try.prog 33 #[.agg #[.int .i64 x.t, .int .i64 x.s, .int .i64 x.g], .agg #[.int .i64 y.t, .int .i64 y.s, .int .i64 y.g]] w fun e w' => e = .returned (.int .i64 (cmpT x y)) ∧ Below w.heap.size w w' :=
  PCompare.heap_Compare.calls 5 _ _ _ _ _ _ _ w (cmp_f x y)
section
variable {w0 w w' : World} {F0 P0 : Nat → Prop} {ts : List Thing} {p eB : Nat} {cells : Array Value} {v : Value} {l : List Tm}
theorem cell_below {a : Addr} {v : Value} (h : w.cell? a = some v) (hb : Below w.heap.size w w') : w'.cell? a = some v := (hb.cell (World.block_lt_of_cell? w _ h)).trans h
theorem keep7 {a0 a1 a2 a3 a4 a5 a6 : Addr} {v0 v1 v2 v3 v4 v5 v6 : Value} {W : World} (h : w.cell? a0 = some v0 ∧ w.cell? a1 = some v1 ∧ w.cell? a2 = some v2 ∧ w.cell? a3 = some v3 ∧ w.cell? a4 = some v4 ∧ w.cell? a5 = some v5 ∧ w.cell? a6 = some v6 ∧ Aside0 (Below W.heap.size W w)) (hb : Below w.heap.size w w') :
    w'.cell? a0 = some v0 ∧ w'.cell? a1 = some v1 ∧ w'.cell? a2 = some v2 ∧ w'.cell? a3 = some v3 ∧ w'.cell? a4 = some v4 ∧ w'.cell? a5 = some v5 ∧ w'.cell? a6 = some v6 ∧ Aside0 (Below W.heap.size W w') := by
  obtain ⟨h0, h1, h2, h3, h4, h5, h6, h7⟩ := h
  exact ⟨cell_below h0 hb, cell_below h1 hb, cell_below h2 hb, cell_below h3 hb, cell_below h4 hb, cell_below h5 hb, cell_below h6 hb, ⟨h7.out.trans (hb.mono h7.out.size)⟩⟩
/-- The cells of an element. -/
theorem elem (h : St w0 F0 P0 (rowT kTm 61 v l :: ts) w) {i : Nat} (hi : i < l.length) : ∃ g c, v = .slice (some ⟨g, 0, none⟩) l.length c ∧ w.cell? ⟨g, i * 3, none⟩ = some (.int .i64 l[i].t) ∧ w.cell? ⟨g, i * 3 + 1, none⟩ = some (.int .i64 l[i].s) ∧ w.cell? ⟨g, i * 3 + 2, none⟩ = some (.int .i64 l[i].g) := by
  obtain ⟨ok, hN⟩ := h.row
  obtain ⟨g, c, rfl, -, -, -⟩ := Kd.N_form hN (by omega)
  obtain ⟨r1, r2, r3⟩ := h.reads
  obtain ⟨ad, cs, e1, hl, hK, hc⟩ := Kd.C_get r3 ⟨0, 0, 0⟩ (i : Int) (by omega) (by omega)
  injection e1 with e1
  subst e1
  have hx : l.getD (i : Int).toNat ⟨0, 0, 0⟩ = l[i] := by simp [List.getD_eq_getElem?_getD, List.getElem?_eq_getElem hi]
  rw [hx] at hK
  obtain rfl := kTm_open hK
  have h0 := hc 0 _ rfl
  have h1 := hc 1 _ rfl
  have h2 := hc 2 _ rfl
  have e : ∀ j : Nat, (⟨g, 0, none⟩ : Addr).add ((i : Int).toNat * kTm.sz + j) = ⟨g, i * 3 + j, none⟩ := fun j => by
    have e3 : kTm.sz = 3 := rfl
    simp [Addr.add, e3]
    omega
  rw [e] at h0 h1 h2
  exact ⟨g, c, rfl, h0, h1, h2⟩
set_option maxHeartbeats 1000000 in
theorem ahead_st (h : St w0 F0 P0 (boxT p eB cells :: rowT kTm 61 v l :: ts) w) (hv : cells[0]? = some v) {i k : Nat} (hi : i < l.length) (hk : k < l.length) (hlen : l.length ≤ 1000000) :
    Calls Try.prog 38 #[.pointer (some ⟨p, 0, none⟩), .int .i64 (i : Int), .int .i64 (k : Int)] w fun e w' => e = .returned (.bool (decide (cmpT l[i] l[k] < 0))) ∧ Below w.heap.size w w' := by
  obtain ⟨g, c, rfl, a0, a1, a2⟩ := elem h.drop hi
  obtain ⟨g', c', e1, b0, b1, b2⟩ := elem h.drop hk
  injection e1 with e1 e2 e3
  injection e1 with e1
  injection e1 with e1
  subst e1
  obtain ⟨ch, -⟩ := h.box_cell 0 _ hv
  have i0 : (0 : Int) ≤ (i : Int) := by omega
  have i1 : (i : Int) < (l.length : Int) := by omega
  have k0 : (0 : Int) ≤ (k : Int) := by omega
  have k1 : (k : Int) < (l.length : Int) := by omega
  have hcmp := Aside0.mk (fun w => cmp_calls l[i] l[k] w)
  generalize l[i] = x at *
  generalize l[k] = y at *
  go_enter Try.func38, Try.ntmps38
  go_wp2
  go_region_held3 (fun w' => w'.cell? ⟨p, 0, none⟩ = some (.slice (some ⟨g, 0, none⟩) l.length c) ∧ w'.cell? ⟨g, i * 3, none⟩ = some (.int .i64 x.t) ∧ w'.cell? ⟨g, i * 3 + 1, none⟩ = some (.int .i64 x.s) ∧ w'.cell? ⟨g, i * 3 + 2, none⟩ = some (.int .i64 x.g) ∧ w'.cell? ⟨g, k * 3, none⟩ = some (.int .i64 y.t) ∧ w'.cell? ⟨g, k * 3 + 1, none⟩ = some (.int .i64 y.s) ∧ w'.cell? ⟨g, k * 3 + 2, none⟩ = some (.int .i64 y.g) ∧ Aside0 (Below w.heap.size w w'))
    (first | exact hS' | exact keep7 (by assumption) (below_alloc (Below.refl _ _) _) | exact ⟨ch, a0, a1, a2, b0, b1, b2, ⟨below_drew1 (Below.refl _ _)⟩⟩ | assumption)
    ((go_at_call 33; (with_reducible refine (hcmp.out _).mono ?_); rintro e w' ⟨rfl, hb⟩; have hS' := keep7 (by assumption) hb; clear hb))
  go_wp2
  go_ret
  exact ⟨rfl, hS'.2.2.2.2.2.2.2.out⟩
theorem len_st (h : St w0 F0 P0 (boxT p eB cells :: ts) w) {A : Option Addr} {n c : Nat} (hv : cells[0]? = some (.slice A n c)) :
    Calls Try.prog 28 #[.pointer (some ⟨p, 0, none⟩)] w fun e w' => e = .returned (.int .i64 n) ∧ w' = w := by
  obtain ⟨ch, -⟩ := h.box_cell 0 _ hv
  go_enter Try.func28, Try.ntmps28
  go_wp2
  go_ret
  exact ⟨rfl, rfl⟩
theorem len_none (w : World) :
    Calls Try.prog 28 #[.pointer none] w fun e w' => e = .returned (.int .i64 0) ∧ w' = w := by
  go_enter Try.func28, Try.ntmps28
  go_wp2
  go_ret
  exact ⟨rfl, rfl⟩
end
end Go.Proofs.Ytldkdndgnojepaa.Heap
namespace Go.Proofs.Ytldkdndgnojepaa.Heap
open Go Go.RowKit Go.Proofs.Ytldkdndgnojepaa.Own Go.Proofs.YtldkdndgnojepaaW.PrintWords Go.Proofs.YtldkdndgnojepaaW.PrintLast Go.Proofs.YtldkdndgnojepaaW.PrintMore
set_option linter.unusedVariables false
set_option linter.unusedSimpArgs false
theorem info3T : (Try.prog.info? 61).map (·.size) = some kTm.sz := by kernel_rfl
def swp (l : List Tm) (i k : Nat) : List Tm := if h : i < l.length ∧ k < l.length then (l.set i (l[k]'h.2)).set k (l[i]'h.1) else l
theorem swp_len (l : List Tm) (i k : Nat) : (swp l i k).length = l.length := by unfold swp; split <;> simp
section
variable {w0 w w' : World} {F0 P0 : Nat → Prop} {ts : List Thing} {p eB : Nat} {cells : Array Value} {v : Value} {l : List Tm}
set_option maxRecDepth 100000 in
set_option maxHeartbeats 1000000 in
theorem swap_st (h : St w0 F0 P0 (boxT p eB cells :: rowT kTm 61 v l :: ts) w) (hv : cells[0]? = some v) {i k : Nat} (hi : i < l.length) (hk : k < l.length) (hlen : l.length ≤ 1000000) :
    Calls Try.prog 29 #[.pointer (some ⟨p, 0, none⟩), .int .i64 (i : Int), .int .i64 (k : Int)] w fun e w' => e = .returned (.tuple #[]) ∧ St w0 F0 P0 (boxT p eB cells :: rowT kTm 61 v (swp l i k) :: ts) w' := by
  have hsw : swp l i k = (l.set i l[k]).set k l[i] := by unfold swp; rw [dif_pos ⟨hi, hk⟩]
  rw [hsw]
  obtain ⟨g, c, rfl, a0, a1, a2⟩ := elem h.drop hi
  obtain ⟨g', c', e1, b0, b1, b2⟩ := elem h.drop hk
  injection e1 with e1 e2 e3
  injection e1 with e1
  injection e1 with e1
  subst e1
  obtain ⟨ch, -⟩ := h.box_cell 0 _ hv
  have i0 : (0 : Int) ≤ (i : Int) := by omega
  have i1 : (i : Int) < (l.length : Int) := by omega
  have k0 : (0 : Int) ≤ (k : Int) := by omega
  have k1 : (k : Int) < (l.length : Int) := by omega
  have HS := Aside0.mk h.swap
  clear h hsw
  generalize l[i] = x at *
  generalize l[k] = y at *
  go_enter Try.func29, Try.ntmps29
  go_wp2
  refine start_ (n := 28) (S := fun w' => w'.cell? ⟨p, 0, none⟩ = some (.slice (some ⟨g, 0, none⟩) l.length c) ∧ w'.cell? ⟨g, i * 3, none⟩ = some (.int .i64 x.t) ∧ w'.cell? ⟨g, i * 3 + 1, none⟩ = some (.int .i64 x.s) ∧ w'.cell? ⟨g, i * 3 + 2, none⟩ = some (.int .i64 x.g) ∧ w'.cell? ⟨g, k * 3, none⟩ = some (.int .i64 y.t) ∧ w'.cell? ⟨g, k * 3 + 1, none⟩ = some (.int .i64 y.s) ∧ w'.cell? ⟨g, k * 3 + 2, none⟩ = some (.int .i64 y.g)) (ds := [25, 27]) #[false, false, false, false, false, false, false, false, false, false, false, false, false, false, false, false, false, false, false, false, false, false, false, false, false, false, false, false] (by kernel_rfl) rfl rfl ?_ (fun hHeld => ?_)
  · exact ⟨ch, a0, a1, a2, b0, b1, b2⟩
  refine pure_ (i := 0) (N := (some 6)) (v := ?_) (a' := ?_) #[true, false, false, false, false, false, false, false, false, false, false, false, false, false, false, false, false, false, false, false, false, false, false, false, false, false, false, false] rfl rfl (by kernel_rfl) (fun _ _ _ h => h) (Or.inl ⟨by rfl, ?_⟩) ?_ ?_
  rotate_left
  · intro w'; go_simp; with_reducible rfl
  rotate_left
  · simp only [Act.put, List.setIfInBounds_toArray, List.set_cons_zero, List.set_cons_succ]; rfl
  refine pure_ (i := 1) (N := (some 7)) (v := ?_) (a' := ?_) #[true, true, false, false, false, false, false, false, false, false, false, false, false, false, false, false, false, false, false, false, false, false, false, false, false, false, false, false] rfl rfl (by kernel_rfl) (fun _ _ _ h => h) (Or.inl ⟨by rfl, ?_⟩) ?_ ?_
  rotate_left
  · intro w'; go_simp; with_reducible rfl
  rotate_left
  · simp only [Act.put, List.setIfInBounds_toArray, List.set_cons_zero, List.set_cons_succ]; rfl
  refine pure_ (i := 2) (N := (some 8)) (v := ?_) (a' := ?_) #[true, true, true, false, false, false, false, false, false, false, false, false, false, false, false, false, false, false, false, false, false, false, false, false, false, false, false, false] rfl rfl (by kernel_rfl) (fun _ _ _ h => h) (Or.inl ⟨by rfl, ?_⟩) ?_ ?_
  rotate_left
  · intro w'; go_simp; with_reducible rfl
  rotate_left
  · simp only [Act.put, List.setIfInBounds_toArray, List.set_cons_zero, List.set_cons_succ]; rfl
  refine pure_ (i := 4) (N := (some 10)) (v := ?_) (a' := ?_) #[true, true, true, false, true, false, false, false, false, false, false, false, false, false, false, false, false, false, false, false, false, false, false, false, false, false, false, false] rfl rfl (by kernel_rfl) (fun _ _ _ h => h) (Or.inl ⟨by rfl, ?_⟩) ?_ ?_
  rotate_left
  · intro w'; go_simp; with_reducible rfl
  rotate_left
  · simp only [Act.put, List.setIfInBounds_toArray, List.set_cons_zero, List.set_cons_succ]; rfl
  refine pure_ (i := 5) (N := (some 11)) (v := ?_) (a' := ?_) #[true, true, true, false, true, true, false, false, false, false, false, false, false, false, false, false, false, false, false, false, false, false, false, false, false, false, false, false] rfl rfl (by kernel_rfl) (fun _ _ _ h => h) (Or.inl ⟨by rfl, ?_⟩) ?_ ?_
  rotate_left
  · intro w'; go_simp; with_reducible rfl
  rotate_left
  · simp only [Act.put, List.setIfInBounds_toArray, List.set_cons_zero, List.set_cons_succ]; rfl
  refine pure_ (i := 6) (N := (some 12)) (v := ?_) (a' := ?_) #[true, true, true, false, true, true, true, false, false, false, false, false, false, false, false, false, false, false, false, false, false, false, false, false, false, false, false, false] rfl rfl (by kernel_rfl) (fun _ _ _ h => h) (Or.inl ⟨by rfl, ?_⟩) ?_ ?_
  rotate_left
  · intro w'; go_simp; with_reducible rfl
  rotate_left
  · simp only [Act.put, List.setIfInBounds_toArray, List.set_cons_zero, List.set_cons_succ]; rfl
  refine pure_ (i := 7) (N := (some 13)) (v := ?_) (a' := ?_) #[true, true, true, false, true, true, true, true, false, false, false, false, false, false, false, false, false, false, false, false, false, false, false, false, false, false, false, false] rfl rfl (by kernel_rfl) (fun _ _ _ h => h) (Or.inl ⟨by rfl, ?_⟩) ?_ ?_
  rotate_left
  · intro w'; go_simp; with_reducible rfl
  rotate_left
  · simp only [Act.put, List.setIfInBounds_toArray, List.set_cons_zero, List.set_cons_succ]; rfl
  refine pure_ (i := 9) (N := (some 15)) (v := ?_) (a' := ?_) #[true, true, true, false, true, true, true, true, false, true, false, false, false, false, false, false, false, false, false, false, false, false, false, false, false, false, false, false] rfl rfl (by kernel_rfl) (fun _ _ _ h => h) (Or.inl ⟨by rfl, ?_⟩) ?_ ?_
  rotate_left
  · intro w'; go_simp; with_reducible rfl
  rotate_left
  · simp only [Act.put, List.setIfInBounds_toArray, List.set_cons_zero, List.set_cons_succ]; rfl
  refine pure_ (i := 10) (N := (some 16)) (v := ?_) (a' := ?_) #[true, true, true, false, true, true, true, true, false, true, true, false, false, false, false, false, false, false, false, false, false, false, false, false, false, false, false, false] rfl rfl (by kernel_rfl) (fun _ _ _ h => h) (Or.inl ⟨by rfl, ?_⟩) ?_ ?_
  rotate_left
  · intro w'; go_simp; with_reducible rfl
  rotate_left
  · simp only [Act.put, List.setIfInBounds_toArray, List.set_cons_zero, List.set_cons_succ]; rfl
  refine pure_ (i := 11) (N := (some 17)) (v := ?_) (a' := ?_) #[true, true, true, false, true, true, true, true, false, true, true, true, false, false, false, false, false, false, false, false, false, false, false, false, false, false, false, false] rfl rfl (by kernel_rfl) (fun _ _ _ h => h) (Or.inl ⟨by rfl, ?_⟩) ?_ ?_
  rotate_left
  · intro w'; go_simp; with_reducible rfl
  rotate_left
  · simp only [Act.put, List.setIfInBounds_toArray, List.set_cons_zero, List.set_cons_succ]; rfl
  refine pure_ (i := 12) (N := (some 18)) (v := ?_) (a' := ?_) #[true, true, true, false, true, true, true, true, false, true, true, true, true, false, false, false, false, false, false, false, false, false, false, false, false, false, false, false] rfl rfl (by kernel_rfl) (fun _ _ _ h => h) (Or.inl ⟨by rfl, ?_⟩) ?_ ?_
  rotate_left
  · intro w'; go_simp; with_reducible rfl
  rotate_left
  · simp only [Act.put, List.setIfInBounds_toArray, List.set_cons_zero, List.set_cons_succ]; rfl
  refine pure_ (i := 14) (N := (some 20)) (v := ?_) (a' := ?_) #[true, true, true, false, true, true, true, true, false, true, true, true, true, false, true, false, false, false, false, false, false, false, false, false, false, false, false, false] rfl rfl (by kernel_rfl) (fun _ _ _ h => h) (Or.inl ⟨by rfl, ?_⟩) ?_ ?_
  rotate_left
  · intro w'; go_simp; with_reducible rfl
  rotate_left
  · simp only [Act.put, List.setIfInBounds_toArray, List.set_cons_zero, List.set_cons_succ]; rfl
  refine pure_ (i := 17) (N := (some 23)) (v := ?_) (a' := ?_) #[true, true, true, false, true, true, true, true, false, true, true, true, true, false, true, false, false, true, false, false, false, false, false, false, false, false, false, false] rfl rfl (by kernel_rfl) (fun _ _ _ h => h) (Or.inl ⟨by rfl, ?_⟩) ?_ ?_
  rotate_left
  · intro w'; go_simp; with_reducible rfl
  rotate_left
  · simp only [Act.put, List.setIfInBounds_toArray, List.set_cons_zero, List.set_cons_succ]; rfl
  refine pure_ (i := 18) (N := (some 24)) (v := ?_) (a' := ?_) #[true, true, true, false, true, true, true, true, false, true, true, true, true, false, true, false, false, true, true, false, false, false, false, false, false, false, false, false] rfl rfl (by kernel_rfl) (fun _ _ _ h => h) (Or.inl ⟨by rfl, ?_⟩) ?_ ?_
  rotate_left
  · intro w'; go_simp; with_reducible rfl
  rotate_left
  · simp only [Act.put, List.setIfInBounds_toArray, List.set_cons_zero, List.set_cons_succ]; rfl
  refine pure_ (i := 19) (N := (some 25)) (v := ?_) (a' := ?_) #[true, true, true, false, true, true, true, true, false, true, true, true, true, false, true, false, false, true, true, true, false, false, false, false, false, false, false, false] rfl rfl (by kernel_rfl) (fun _ _ _ h => h) (Or.inl ⟨by rfl, ?_⟩) ?_ ?_
  rotate_left
  · intro w'; go_simp; with_reducible rfl
  rotate_left
  · simp only [Act.put, List.setIfInBounds_toArray, List.set_cons_zero, List.set_cons_succ]; rfl
  refine pure_ (i := 21) (N := (some 27)) (v := ?_) (a' := ?_) #[true, true, true, false, true, true, true, true, false, true, true, true, true, false, true, false, false, true, true, true, false, true, false, false, false, false, false, false] rfl rfl (by kernel_rfl) (fun _ _ _ h => h) (Or.inl ⟨by rfl, ?_⟩) ?_ ?_
  rotate_left
  · intro w'; go_simp; with_reducible rfl
  rotate_left
  · simp only [Act.put, List.setIfInBounds_toArray, List.set_cons_zero, List.set_cons_succ]; rfl
  refine take_ (i := 3) (N := (some 9)) (v := ?_) (a' := ?_) #[true, true, true, true, true, true, true, true, false, true, true, true, true, false, true, false, false, true, true, true, false, true, false, false, false, false, false, false] rfl rfl (by kernel_rfl) (fun _ _ _ h => h) (Or.inl ⟨by rfl, ?_⟩) hHeld ?_ ?_
  rotate_left
  · (intro w' hw'_; try dsimp only at hw'_); go_split_ands; go_simp; with_reducible rfl
  rotate_left
  · simp only [Act.put, List.setIfInBounds_toArray, List.set_cons_zero, List.set_cons_succ]; rfl
  refine take_ (i := 8) (N := (some 14)) (v := ?_) (a' := ?_) #[true, true, true, true, true, true, true, true, true, true, true, true, true, false, true, false, false, true, true, true, false, true, false, false, false, false, false, false] rfl rfl (by kernel_rfl) (fun _ _ _ h => h) (Or.inl ⟨by rfl, ?_⟩) hHeld ?_ ?_
  rotate_left
  · (intro w' hw'_; try dsimp only at hw'_); go_split_ands; go_simp; with_reducible rfl
  rotate_left
  · simp only [Act.put, List.setIfInBounds_toArray, List.set_cons_zero, List.set_cons_succ]; rfl
  refine take_ (i := 13) (N := (some 19)) (v := ?_) (a' := ?_) #[true, true, true, true, true, true, true, true, true, true, true, true, true, true, true, false, false, true, true, true, false, true, false, false, false, false, false, false] rfl rfl (by kernel_rfl) (fun _ _ _ h => h) (Or.inl ⟨by rfl, ?_⟩) hHeld ?_ ?_
  rotate_left
  · (intro w' hw'_; try dsimp only at hw'_); go_split_ands; go_simp; with_reducible rfl
  rotate_left
  · simp only [Act.put, List.setIfInBounds_toArray, List.set_cons_zero, List.set_cons_succ]; rfl
  refine pure_ (i := 15) (N := (some 21)) (v := ?_) (a' := ?_) #[true, true, true, true, true, true, true, true, true, true, true, true, true, true, true, true, false, true, true, true, false, true, false, false, false, false, false, false] rfl rfl (by kernel_rfl) (fun _ _ _ h => h) (Or.inl ⟨by rfl, ?_⟩) ?_ ?_
  rotate_left
  · intro w'; go_simp; with_reducible rfl
  rotate_left
  · simp only [Act.put, List.setIfInBounds_toArray, List.set_cons_zero, List.set_cons_succ]; rfl
  refine take_ (i := 16) (N := (some 22)) (v := ?_) (a' := ?_) #[true, true, true, true, true, true, true, true, true, true, true, true, true, true, true, true, true, true, true, true, false, true, false, false, false, false, false, false] rfl rfl (by kernel_rfl) (fun _ _ _ h => h) (Or.inl ⟨by rfl, ?_⟩) hHeld ?_ ?_
  rotate_left
  · (intro w' hw'_; try dsimp only at hw'_); go_split_ands; go_simp; with_reducible rfl
  rotate_left
  · simp only [Act.put, List.setIfInBounds_toArray, List.set_cons_zero, List.set_cons_succ]; rfl
  refine take_ (i := 20) (N := (some 26)) (v := ?_) (a' := ?_) #[true, true, true, true, true, true, true, true, true, true, true, true, true, true, true, true, true, true, true, true, true, true, false, false, false, false, false, false] rfl rfl (by kernel_rfl) (fun _ _ _ h => h) (Or.inl ⟨by rfl, ?_⟩) hHeld ?_ ?_
  rotate_left
  · (intro w' hw'_; try dsimp only at hw'_); go_split_ands; go_simp; with_reducible rfl
  rotate_left
  · simp only [Act.put, List.setIfInBounds_toArray, List.set_cons_zero, List.set_cons_succ]; rfl
  refine pure_ (i := 22) (N := (some 28)) (v := ?_) (a' := ?_) #[true, true, true, true, true, true, true, true, true, true, true, true, true, true, true, true, true, true, true, true, true, true, true, false, false, false, false, false] rfl rfl (by kernel_rfl) (fun _ _ _ h => h) (Or.inl ⟨by rfl, ?_⟩) ?_ ?_
  rotate_left
  · intro w'; go_simp; with_reducible rfl
  rotate_left
  · simp only [Act.put, List.setIfInBounds_toArray, List.set_cons_zero, List.set_cons_succ]; rfl
  refine take_ (i := 23) (N := (some 29)) (v := ?_) (a' := ?_) #[true, true, true, true, true, true, true, true, true, true, true, true, true, true, true, true, true, true, true, true, true, true, true, true, false, false, false, false] rfl rfl (by kernel_rfl) (fun _ _ _ h => h) (Or.inl ⟨by rfl, ?_⟩) hHeld ?_ ?_
  rotate_left
  · (intro w' hw'_; try dsimp only at hw'_); go_split_ands; go_simp; with_reducible rfl
  rotate_left
  · simp only [Act.put, List.setIfInBounds_toArray, List.set_cons_zero, List.set_cons_succ]; rfl
  refine pure_ (i := 24) (N := (some 30)) (v := ?_) (a' := ?_) #[true, true, true, true, true, true, true, true, true, true, true, true, true, true, true, true, true, true, true, true, true, true, true, true, true, false, false, false] rfl rfl (by kernel_rfl) (fun _ _ _ h => h) (Or.inl ⟨by rfl, ?_⟩) ?_ ?_
  rotate_left
  · intro w'; go_simp; with_reducible rfl
  rotate_left
  · simp only [Act.put, List.setIfInBounds_toArray, List.set_cons_zero, List.set_cons_succ]; rfl
  refine last_ (i := 25) (N := none) #[true, true, true, true, true, true, true, true, true, true, true, true, true, true, true, true, true, true, true, true, true, true, true, true, true, true, false, false] rfl rfl (by kernel_rfl) (by decide) (fun K hK => ?_)
  clear hHeld
  refine St.store_step kTm rfl 61 (.tmp 30) (.tmp 22) rfl rfl (l) y (.agg #[.int .i64 y.t, .int .i64 y.s, .int .i64 y.g]) rfl rfl rfl info3T (((HS.out.drawn ⟨1, rfl⟩).pure (fun W => kTm_mk W y))) (by first | omega | (simp; omega)) ?_
  intro w1 hS
  have HS1 := Aside0.mk hS
  clear hS
  refine hK.out _ _ ?_
  clear hK
  clear HS
  refine pure_ (i := 26) (N := (some 31)) (v := ?_) (a' := ?_) #[true, true, true, true, true, true, true, true, true, true, true, true, true, true, true, true, true, true, true, true, true, true, true, true, true, true, true, false] rfl rfl (by kernel_rfl) (fun _ _ _ h => h) (Or.inl ⟨by rfl, ?_⟩) ?_ ?_
  rotate_left
  · intro w'; go_simp; with_reducible rfl
  rotate_left
  · simp only [Act.put, List.setIfInBounds_toArray, List.set_cons_zero, List.set_cons_succ]; rfl
  refine last_ (i := 27) (N := none) #[true, true, true, true, true, true, true, true, true, true, true, true, true, true, true, true, true, true, true, true, true, true, true, true, true, true, true, true] rfl rfl (by kernel_rfl) (by decide) (fun K hK => ?_)
  refine St.store_step kTm rfl 61 (.tmp 31) (.tmp 29) rfl rfl (l.set i y) x (.agg #[.int .i64 x.t, .int .i64 x.s, .int .i64 x.g]) rfl rfl rfl info3T (((HS1.out).pure (fun W => kTm_mk W x))) (by first | omega | (simp; omega)) ?_
  intro w2 hS
  have HS2 := Aside0.mk hS
  clear hS
  refine hK.out _ _ ?_
  clear hK
  clear HS1
  refine done_ (by kernel_rfl) ?_
  go_end0
  exact ⟨rfl, HS2.out.swap⟩
end
end Go.Proofs.Ytldkdndgnojepaa.Heap
namespace Go.Proofs.Ytldkdndgnojepaa.Heap
open Go Go.RowKit Go.Proofs.Ytldkdndgnojepaa.Own Go.Proofs.YtldkdndgnojepaaW.PrintWords Go.Proofs.YtldkdndgnojepaaW.PrintLast Go.Proofs.YtldkdndgnojepaaW.PrintMore
set_option linter.unusedVariables false
set_option linter.unusedSimpArgs false
def ahd (l : List Tm) (i k : Nat) : Bool := if h : i < l.length ∧ k < l.length then decide (cmpT (l[i]'h.1) (l[k]'h.2) < 0) else false
def upL : Nat → List Tm → Nat → List Tm
  | 0, l, _ => l
  | f + 1, l, i => if 0 < i ∧ ahd l i ((i - 1) / 2) = true then upL f (swp l i ((i - 1) / 2)) ((i - 1) / 2) else l
theorem upL_irr : ∀ (n i f : Nat) (l : List Tm), i ≤ n → i ≤ f → upL f l i = upL i l i
  | 0, i, f, l, h1, h2 => by
    have : i = 0 := by omega
    subst this
    cases f with
    | zero => rfl
    | succ f => simp only [upL]; rw [if_neg (by omega)]
  | n + 1, i, f, l, h1, h2 => by
    cases i with
    | zero => cases f with
      | zero => rfl
      | succ f => simp only [upL]; rw [if_neg (by omega)]
    | succ i =>
      obtain ⟨f, rfl⟩ : ∃ g, f = g + 1 := ⟨f - 1, by omega⟩
      simp only [upL]
      split
      · rw [upL_irr n ((i + 1 - 1) / 2) f _ (by omega) (by omega), upL_irr n ((i + 1 - 1) / 2) i _ (by omega) (by omega)]
      · rfl
theorem upL_len : ∀ (f : Nat) (l : List Tm) (i : Nat), (upL f l i).length = l.length
  | 0, _, _ => rfl
  | f + 1, l, i => by
    simp only [upL]
    split
    · rw [upL_len, swp_len]
    · rfl
section
variable {w0 w w' : World} {F0 P0 : Nat → Prop} {ts : List Thing} {p eB : Nat} {cells : Array Value} {v : Value} {l : List Tm}
theorem ahead_ahd (h : St w0 F0 P0 (boxT p eB cells :: rowT kTm 61 v l :: ts) w) (hv : cells[0]? = some v) {i k : Nat} (hi : i < l.length) (hk : k < l.length) (hlen : l.length ≤ 1000000) {b : Bool} (hb : ahd l i k = b) :
    Calls Try.prog 38 #[.pointer (some ⟨p, 0, none⟩), .int .i64 (i : Int), .int .i64 (k : Int)] w fun e w' => e = .returned (.bool b) ∧ St w0 F0 P0 (boxT p eB cells :: rowT kTm 61 v l :: ts) w' := by
  subst hb
  unfold ahd
  rw [dif_pos ⟨hi, hk⟩]
  refine (ahead_st h hv hi hk hlen).mono ?_
  rintro e w' ⟨rfl, hb⟩
  exact ⟨rfl, h.below hb⟩
set_option maxRecDepth 100000 in
set_option maxHeartbeats 1000000 in
theorem up_st (h : St w0 F0 P0 (boxT p eB cells :: rowT kTm 61 v l :: ts) w) (hv : cells[0]? = some v) {i : Nat} (hi : i < l.length) (hlen : l.length ≤ 1000000) :
    Calls Try.prog 35 #[.pointer (some ⟨p, 0, none⟩), .int .i64 (i : Int)] w fun e w' => e = .returned (.tuple #[]) ∧ St w0 F0 P0 (boxT p eB cells :: rowT kTm 61 v (upL i l i) :: ts) w' := by
  have HS := Aside0.mk h
  have HV := Aside0.mk hv
  clear h hv
  have HI := Aside0.mk (fun f hf => upL_irr i i f l (Nat.le_refl _) hf)
  generalize hR : upL i l i = R at HI ⊢
  clear hR
  go_enter Try.func35, Try.ntmps35
  go_wp2
  go_loopg [1] (i + 1) (fun kq v1 w' => ∃ (j : Nat) (l' : List Tm), v1 = .int .i64 (j : Int) ∧ Aside0 (j + 1 ≤ kq ∧ l'.length = l.length ∧ j < l.length ∧ (∀ f, j ≤ f → upL f l' j = R)) ∧ Aside0 (St w0 F0 P0 (boxT p eB cells :: rowT kTm 61 v l' :: ts) w'))
  case atStart => exact ⟨i, l, rfl, ⟨Nat.le_refl _, rfl, hi, HI.out⟩, HS⟩
  case round =>
    clear HS HI hi
    obtain ⟨j, l', rfl, HK, HS⟩ := hrel
    cases gk with
    | zero => exact absurd HK.out.1 (by omega)
    | succ k1 =>
      obtain ⟨q1, q2, q3, q4⟩ := HK.out
      have hlen' : l'.length ≤ 1000000 := by omega
      have HJ := Aside0.mk q3
      have q5 := q4 (j + 1) (by omega)
      simp only [upL] at q5
      by_cases h0 : 0 < j
      · obtain ⟨m, hm⟩ : ∃ m : Nat, ((j : Int) - 1) / 2 = (m : Int) := ⟨(j - 1) / 2, by omega⟩
        have hmn : (j - 1) / 2 = m := by omega
        rw [hmn] at q5
        have c1 : decide (0 < j) = true := decide_eq_true (by omega)
        have hj1 : (1 : Int) ≤ (j : Int) := by omega
        have hj2 : (j : Int) ≤ 1000000 := by omega
        have HL := Aside0.mk (show j < l'.length ∧ m < l'.length by omega)
        have HM := Aside0.mk (show m < j by omega)
        cases hb : ahd l' j m with
        | true =>
          have HB := Aside0.mk hb
          have HR := Aside0.mk (fun f (hf : m ≤ f) => show upL f (swp l' j m) m = R by
            have q6 := q4 (max (f + 1) j) (by omega)
            obtain ⟨g, hg⟩ : ∃ g, max (f + 1) j = g + 1 := ⟨max (f + 1) j - 1, by omega⟩
            rw [hg] at q6
            simp only [upL] at q6
            rw [hmn, if_pos ⟨h0, hb⟩] at q6
            rw [upL_irr m m f _ (Nat.le_refl _) hf, ← q6, upL_irr m m g _ (Nat.le_refl _) (by omega)])
          clear q4 q5 hmn hb h0 q1 q2 q3
          go_wp2_with (first | (go_at_call 38; (with_reducible refine (ahead_ahd HS.out HV.out HL.out.1 HL.out.2 hlen' HB.out).mono ?_); rintro e w1 ⟨rfl, hS⟩; have HS1 := Aside0.mk hS; clear hS HS) | (go_at_call 29; (with_reducible refine (swap_st HS1.out HV.out HL.out.1 HL.out.2 hlen').mono ?_); rintro e w2 ⟨rfl, hS⟩; have HS2 := Aside0.mk hS; clear hS HS1))
          go_roundg k1
          case measure => have := HK.out; omega
          case rel => exact ⟨m, _, by rw [hm], ⟨by have := HM.out; have := HK.out.1; omega, by rw [swp_len]; exact HK.out.2.1, by have := HM.out; have := HK.out.2.2.1; omega, HR.out⟩, HS2⟩
        | false =>
          have HB := Aside0.mk hb
          rw [if_neg (by rw [hb]; simp)] at q5
          have HR := Aside0.mk q5
          clear q4 q5 hmn hb h0 q1 q2 q3
          go_wp2_with (go_at_call 38; (with_reducible refine (ahead_ahd HS.out HV.out HL.out.1 HL.out.2 hlen' HB.out).mono ?_); rintro e w1 ⟨rfl, hS⟩; have HS1 := Aside0.mk hS; clear hS HS)
          go_end0
          exact ⟨rfl, by rw [← HR.out]; exact HS1.out⟩
      · have c1 : decide (0 < j) = false := decide_eq_false (by omega)
        rw [if_neg (by omega)] at q5
        have HR := Aside0.mk q5
        clear q4 q5 h0 q1 q2 q3
        go_wp2
        go_end0
        exact ⟨rfl, by rw [← HR.out]; exact HS.out⟩
end
end Go.Proofs.Ytldkdndgnojepaa.Heap
namespace Go.Proofs.Ytldkdndgnojepaa.Heap
open Go Go.RowKit Go.Proofs.Ytldkdndgnojepaa.Own Go.Proofs.YtldkdndgnojepaaW.PrintWords Go.Proofs.YtldkdndgnojepaaW.PrintLast Go.Proofs.YtldkdndgnojepaaW.PrintMore
set_option linter.unusedVariables false
set_option linter.unusedSimpArgs false
theorem infoT : (Try.prog.info? 61).map (fun i => (i.zero, i.size, i.bytes)) = some (some (.agg #[.int .i64 0, .int .i64 0, .int .i64 0]), kTm.sz, 24) := by kernel_rfl
section
variable {w0 w w' : World} {F0 P0 : Nat → Prop} {ts : List Thing} {p eB : Nat} {cells : Array Value} {v : Value} {l : List Tm}
theorem keep4 {a0 a1 a2 a3 : Addr} {v0 v1 v2 v3 : Value} (h : w.cell? a0 = some v0 ∧ w.cell? a1 = some v1 ∧ w.cell? a2 = some v2 ∧ w.cell? a3 = some v3) (hb : Below w.heap.size w w') :
    w'.cell? a0 = some v0 ∧ w'.cell? a1 = some v1 ∧ w'.cell? a2 = some v2 ∧ w'.cell? a3 = some v3 := by
  obtain ⟨h0, h1, h2, h3⟩ := h
  exact ⟨cell_below h0 hb, cell_below h1 hb, cell_below h2 hb, cell_below h3 hb⟩
def pushL (l : List Tm) (x : Tm) : List Tm := upL l.length (l ++ [x]) l.length
theorem pushL_len (l : List Tm) (x : Tm) : (pushL l x).length = l.length + 1 := by unfold pushL; rw [upL_len]; simp
set_option maxRecDepth 100000 in
set_option maxHeartbeats 2000000 in
theorem push_st (h : St w0 F0 P0 (boxT p eB cells :: rowT kTm 61 v l :: ts) w) (hv : cells[0]? = some v) (hlen : l.length ≤ 100000) (x : Tm) :
    Calls Try.prog 26 #[.pointer (some ⟨p, 0, none⟩), .agg #[.int .i64 x.t, .int .i64 x.s, .int .i64 x.g]] w fun e w' => e = .returned (.tuple #[]) ∧ ∃ v', St w0 F0 P0 (boxT p eB (cells.setIfInBounds 0 v') :: rowT kTm 61 v' (pushL l x) :: ts) w' := by
  obtain ⟨ch, cf⟩ := h.box_cell 0 _ hv
  have hlt := h.boxed.2
  have HS := Aside0.mk (h.below (below_alloc (Below.refl _ _) (.cells #[.int .i64 x.t, .int .i64 x.s, .int .i64 x.g] 61))).swap
  have HV := Aside0.mk hv
  have hBox : (w.alloc (.cells #[.int .i64 x.t, .int .i64 x.s, .int .i64 x.g] 61)).drew.cell? ⟨p, 0, none⟩ = some v ∧ (w.alloc (.cells #[.int .i64 x.t, .int .i64 x.s, .int .i64 x.g] 61)).drew.cell? ⟨w.heap.size, 0, none⟩ = some (.int .i64 x.t) ∧ (w.alloc (.cells #[.int .i64 x.t, .int .i64 x.s, .int .i64 x.g] 61)).drew.cell? ⟨w.heap.size, 1, none⟩ = some (.int .i64 x.s) ∧ (w.alloc (.cells #[.int .i64 x.t, .int .i64 x.s, .int .i64 x.g] 61)).drew.cell? ⟨w.heap.size, 2, none⟩ = some (.int .i64 x.g) := by
    refine ⟨cell_below (w := w) ch (below_drew1 (below_alloc (Below.refl _ _) _)), ?_, ?_, ?_⟩ <;> go_simp
  clear h hv
  go_enter Try.func26, Try.ntmps26
  go_wp2
  refine start_ (n := 11) (S := fun w' => w'.cell? ⟨p, 0, none⟩ = some v ∧ w'.cell? ⟨w.heap.size, 0, none⟩ = some (.int .i64 x.t) ∧ w'.cell? ⟨w.heap.size, 1, none⟩ = some (.int .i64 x.s) ∧ w'.cell? ⟨w.heap.size, 2, none⟩ = some (.int .i64 x.g)) (ds := [7, 10]) #[false, false, false, false, false, false, false, false, false, false, false] (by kernel_rfl) rfl rfl ?_ (fun hHeld => ?_)
  · exact hBox
  refine pure_ (i := 0) (N := (some 6)) (v := ?_) (a' := ?_) #[true, false, false, false, false, false, false, false, false, false, false] rfl rfl (by kernel_rfl) (fun _ _ _ h => h) (Or.inl ⟨by rfl, ?_⟩) ?_ ?_
  rotate_left
  · intro w'; go_simp; with_reducible rfl
  rotate_left
  · simp only [Act.put, List.setIfInBounds_toArray, List.set_cons_zero, List.set_cons_succ]; rfl
  refine pure_ (i := 1) (N := (some 7)) (v := ?_) (a' := ?_) #[true, true, false, false, false, false, false, false, false, false, false] rfl rfl (by kernel_rfl) (fun _ _ _ h => h) (Or.inl ⟨by rfl, ?_⟩) ?_ ?_
  rotate_left
  · intro w'; go_simp; with_reducible rfl
  rotate_left
  · simp only [Act.put, List.setIfInBounds_toArray, List.set_cons_zero, List.set_cons_succ]; rfl
  refine pure_ (i := 2) (N := (some 8)) (v := ?_) (a' := ?_) #[true, true, true, false, false, false, false, false, false, false, false] rfl rfl (by kernel_rfl) (fun _ _ _ h => h) (Or.inl ⟨by rfl, ?_⟩) ?_ ?_
  rotate_left
  · intro w'; go_simp; with_reducible rfl
  rotate_left
  · simp only [Act.put, List.setIfInBounds_toArray, List.set_cons_zero, List.set_cons_succ]; rfl
  refine pure_ (i := 3) (N := (some 9)) (v := ?_) (a' := ?_) #[true, true, true, true, false, false, false, false, false, false, false] rfl rfl (by kernel_rfl) (fun _ _ _ h => h) (Or.inl ⟨by rfl, ?_⟩) ?_ ?_
  rotate_left
  · intro w'; go_simp; with_reducible rfl
  rotate_left
  · simp only [Act.put, List.setIfInBounds_toArray, List.set_cons_zero, List.set_cons_succ]; rfl
  refine take_ (i := 4) (N := (some 10)) (v := ?_) (a' := ?_) #[true, true, true, true, true, false, false, false, false, false, false] rfl rfl (by kernel_rfl) (fun _ _ _ h => h) (Or.inl ⟨by rfl, ?_⟩) hHeld ?_ ?_
  rotate_left
  · (intro w' hw'_; try dsimp only at hw'_); go_split_ands; go_simp; with_reducible rfl
  rotate_left
  · simp only [Act.put, List.setIfInBounds_toArray, List.set_cons_zero, List.set_cons_succ]; rfl
  refine take_ (i := 5) (N := (some 11)) (v := ?_) (a' := ?_) #[true, true, true, true, true, true, false, false, false, false, false] rfl rfl (by kernel_rfl) (fun _ _ _ h => h) (Or.inl ⟨by rfl, ?_⟩) hHeld ?_ ?_
  rotate_left
  · (intro w' hw'_; try dsimp only at hw'_); go_split_ands; go_simp; with_reducible rfl
  rotate_left
  · simp only [Act.put, List.setIfInBounds_toArray, List.set_cons_zero, List.set_cons_succ]; rfl
  refine one_ (i := 6) (N := (some 12)) #[true, true, true, true, true, true, true, false, false, false, false] rfl rfl (by kernel_rfl) (by decide) (fun K hK => ?_)
  refine value_ (w1 := ?_) (v := ?_) (by rfl) rfl ?_ ?_
  rotate_left 2
  · go_simp
    constructor
    · rfl
    · rfl
  refine hK.out _ _ (keep4 hHeld (below_alloc (Below.refl _ _) _)) (fun hHeld => ?_)
  clear hK
  refine norm_ (a' := ?_) ?_ ?_
  rotate_left
  · simp only [Act.put, List.setIfInBounds_toArray, List.set_cons_zero, List.set_cons_succ]; rfl
  refine last_ (i := 7) (N := (some 13)) #[true, true, true, true, true, true, true, true, false, false, false] rfl rfl (by kernel_rfl) (by decide) (fun K hK => ?_)
  refine St.append_step kTm rfl (.tmp 10) (.tmp 12) 39 61 (.agg #[.int .i64 0, .int .i64 0, .int .i64 0]) 24 rfl Try.underlying39 infoT rfl (by decide) (by decide) v l x [.int .i64 x.t, .int .i64 x.s, .int .i64 x.g] rfl (by simp [Act.eval]) ((HS.out.drawn ⟨1, rfl⟩).pure (fun W => kTm_mk W x)) (by omega) ?_
  intro v1 w1 hS
  obtain ⟨A1, c1, e1⟩ := hS.slice
  rw [List.length_append, List.length_singleton] at e1
  subst e1
  obtain ⟨z1, z2⟩ := hS.swap.box_cell 0 _ HV.out
  have HS1 := Aside0.mk (hS.swap.box_set 0 (.slice A1 (l.length + 1) c1)).swap
  clear hS HS hHeld
  refine hK.out _ _ ?_
  clear hK
  refine norm_ (a' := ?_) ?_ ?_
  rotate_left
  · simp only [Act.put, List.setIfInBounds_toArray, List.set_cons_zero, List.set_cons_succ]; rfl
  refine pure_ (i := 8) (N := (some 14)) (v := ?_) (a' := ?_) #[true, true, true, true, true, true, true, true, true, false, false] rfl rfl (by kernel_rfl) (fun _ _ _ h => h) (Or.inl ⟨by rfl, ?_⟩) ?_ ?_
  rotate_left
  · intro w'; go_simp; with_reducible rfl
  rotate_left
  · simp only [Act.put, List.setIfInBounds_toArray, List.set_cons_zero, List.set_cons_succ]; rfl
  refine pure_ (i := 9) (N := (some 15)) (v := ?_) (a' := ?_) #[true, true, true, true, true, true, true, true, true, true, false] rfl rfl (by kernel_rfl) (fun _ _ _ h => h) (Or.inl ⟨by rfl, ?_⟩) ?_ ?_
  rotate_left
  · intro w'; go_simp; with_reducible rfl
  rotate_left
  · simp only [Act.put, List.setIfInBounds_toArray, List.set_cons_zero, List.set_cons_succ]; rfl
  refine last_ (i := 10) (N := none) #[true, true, true, true, true, true, true, true, true, true, true] rfl rfl (by kernel_rfl) (by decide) (fun K hK => ?_)
  refine skip_ (w1 := ?_) (by rfl) rfl ?_ ?_
  rotate_left
  · go_simp
    rfl
  refine hK.out _ _ ?_
  clear hK
  refine done_ (by kernel_rfl) ?_
  have hcz : (cells.setIfInBounds 0 (.slice A1 (l.length + 1) c1))[0]? = some (.slice A1 (l.length + 1) c1) := by
    have h0 := (Array.getElem?_eq_some_iff.mp HV.out).1
    simp [h0]
  have HCZ := Aside0.mk hcz
  have HL := Aside0.mk (show l.length < (l ++ [x]).length ∧ (l ++ [x]).length ≤ 1000000 by simp; omega)
  clear hcz
  go_wp2_with (go_at_call 35; (with_reducible refine (up_st HS1.out.swap HCZ.out HL.out.1 HL.out.2).mono ?_); rintro e w2 ⟨rfl, hS⟩; have HS2 := Aside0.mk hS; clear hS HS1)
  go_end0
  refine ⟨rfl, .slice A1 (l.length + 1) c1, ?_⟩
  unfold pushL
  exact HS2.out
theorem push_none (x : Tm) (w : World) :
    Calls Try.prog 26 #[.pointer none, .agg #[.int .i64 x.t, .int .i64 x.s, .int .i64 x.g]] w fun e w' => e = .returned (.tuple #[]) ∧ Below w.heap.size w w' := by
  go_enter Try.func26, Try.ntmps26
  go_wp2
  refine bodyPost_ret (results_none rfl _ _ _) rfl ?_
  exact ⟨rfl, below_alloc (Below.refl _ _) _⟩
end
end Go.Proofs.Ytldkdndgnojepaa.Heap
namespace Go.Proofs.Ytldkdndgnojepaa.Heap
open Go Go.RowKit Go.Proofs.Ytldkdndgnojepaa.Own Go.Proofs.YtldkdndgnojepaaW.PrintWords Go.Proofs.YtldkdndgnojepaaW.PrintLast Go.Proofs.YtldkdndgnojepaaW.PrintMore
set_option linter.unusedVariables false
set_option linter.unusedSimpArgs false
def pick1 (l : List Tm) (a k : Nat) : Nat := if k < l.length ∧ ahd l k a = true then k else a
def leastOf (l : List Tm) (i : Nat) : Nat := pick1 l (pick1 l i (2 * i + 1)) (2 * i + 2)
theorem pick1_cases (l : List Tm) (a k : Nat) : pick1 l a k = a ∨ pick1 l a k = k ∧ k < l.length := by
  unfold pick1
  split
  · rename_i h; exact .inr ⟨rfl, h.1⟩
  · exact .inl rfl
theorem leastOf_cases (l : List Tm) (i : Nat) : leastOf l i = i ∨ i < leastOf l i ∧ leastOf l i < l.length := by
  unfold leastOf
  rcases pick1_cases l (pick1 l i (2 * i + 1)) (2 * i + 2) with h | ⟨h, h1⟩
  · rw [h]
    rcases pick1_cases l i (2 * i + 1) with h | ⟨h, h1⟩
    · exact .inl h
    · exact .inr ⟨by omega, by omega⟩
  · exact .inr ⟨by omega, by omega⟩
def downL : Nat → List Tm → Nat → List Tm
  | 0, l, _ => l
  | f + 1, l, i => if leastOf l i = i then l else downL f (swp l i (leastOf l i)) (leastOf l i)
theorem downL_len : ∀ (f : Nat) (l : List Tm) (i : Nat), (downL f l i).length = l.length
  | 0, _, _ => rfl
  | f + 1, l, i => by
    simp only [downL]
    split
    · rfl
    · rw [downL_len, swp_len]
section
variable {w0 w w' : World} {F0 P0 : Nat → Prop} {ts : List Thing} {p eB : Nat} {cells : Array Value} {v : Value} {l : List Tm}
theorem ahead_two (h : St w0 F0 P0 (boxT p eB cells :: rowT kTm 61 v l :: ts) w) (hv : cells[0]? = some v) {i k : Nat} (hi : i < l.length) (hk : k < l.length) (hlen : l.length ≤ 1000000) {b : Bool} (hb : ahd l i k = b) {x : Int} (hx : (i : Int) = x) :
    Calls Try.prog 38 #[.pointer (some ⟨p, 0, none⟩), .int .i64 x, .int .i64 (k : Int)] w fun e w' => e = .returned (.bool b) ∧ St w0 F0 P0 (boxT p eB cells :: rowT kTm 61 v l :: ts) w' ∧ Below w.heap.size w w' := by
  subst hb hx
  unfold ahd
  rw [dif_pos ⟨hi, hk⟩]
  refine (ahead_st h hv hi hk hlen).mono ?_
  rintro e w' ⟨rfl, hb⟩
  exact ⟨rfl, h.below hb, hb⟩
/-- The two below a place, as they lie in memory. -/
def Two (b : Nat) (j : Int) (w : World) : Prop := True ∧ w.cell? ⟨b, 0, none⟩ = some (.int .i64 (2 * j + 1)) ∧ w.cell? ⟨b, 1, none⟩ = some (.int .i64 (2 * j + 2))
theorem two_below {b : Nat} {j : Int} (h : Two b j w) (hb : Below w.heap.size w w') : Two b j w' := ⟨trivial, cell_below h.2.1 hb, cell_below h.2.2 hb⟩
set_option maxRecDepth 100000 in
set_option maxHeartbeats 4000000 in
theorem down_st (h : St w0 F0 P0 (boxT p eB cells :: rowT kTm 61 v l :: ts) w) (hv : cells[0]? = some v) {i : Nat} (hi : i ≤ l.length) (hlen : l.length ≤ 1000000) :
    Calls Try.prog 30 #[.pointer (some ⟨p, 0, none⟩), .int .i64 (i : Int)] w fun e w' => e = .returned (.tuple #[]) ∧ St w0 F0 P0 (boxT p eB cells :: rowT kTm 61 v (downL (l.length + 1) l i) :: ts) w' := by
  have HS := Aside0.mk h
  have HV := Aside0.mk hv
  clear h hv
  obtain ⟨N, hN⟩ : ∃ N, N = l.length := ⟨_, rfl⟩
  have HI := Aside0.mk (⟨l.length + 1, by omega, rfl⟩ : ∃ f, N - i < f ∧ downL f l i = downL (l.length + 1) l i)
  generalize hR : downL (l.length + 1) l i = R at HI ⊢
  clear hR
  have HN := Aside0.mk hN
  obtain ⟨A, c, hvs⟩ := HS.out.drop.slice
  rw [← hN] at hvs
  subst hvs
  go_enter Try.func30, Try.ntmps30
  go_wp2
  go_loopg [1, 4, 6] (N + 2) (fun kq v1 v4 v6 w' => ∃ (j : Nat) (l' : List Tm), v1 = .int .i64 (j : Int) ∧ Aside0 (N - j + 1 ≤ kq ∧ l'.length = N ∧ j ≤ N ∧ N ≤ 1000000 ∧ ∃ f, N - j < f ∧ downL f l' j = R) ∧ Aside0 (St w0 F0 P0 (boxT p eB cells :: rowT kTm 61 (.slice A N c) l' :: ts) w'))
  case atStart => exact ⟨i, l, rfl, ⟨by omega, HN.out.symm, by omega, by omega, HI.out⟩, HS⟩
  case round =>
    clear HS HI HN hN hlen hi
    obtain ⟨j, l', rfl, HK, HS⟩ := hrel
    cases gk with
    | zero => exact absurd HK.out.1 (by omega)
    | succ k1 =>
      obtain ⟨q1, q2, q3, q3b, f, q4, q5⟩ := HK.out
      have hlen' : l'.length ≤ 1000000 := by omega
      have HR := Aside0.mk (⟨q4, q5⟩ : N - j < f ∧ downL f l' j = R)
      have j0 : (j : Int) ≤ 1000000 := by omega
      clear q1 q2 q3 q3b q4 q5
      obtain ⟨wo, rfl⟩ : ∃ wo : World, wo = wr := ⟨_, rfl⟩
      have HS0 := Aside0.mk (HS.out.below (below_alloc (Below.refl _ _) (.cells #[.int .i64 (2 * (j : Int) + 1), .int .i64 (2 * (j : Int) + 2)] 3)))
      have HC0 : Two wo.heap.size j (wo.alloc (.cells #[.int .i64 (2 * (j : Int) + 1), .int .i64 (2 * (j : Int) + 2)] 3)) := ⟨trivial, by go_simp, by go_simp⟩
      have HC0 := Aside0.mk HC0
      clear HS
      go_wp2
      go_loopg [4, 6, 16] 3 (fun kq v4 v6 v16 w' => ∃ m : Int, v16 = .int .i64 m ∧ Aside0 (m = 0 ∨ m = 1 ∨ m = 2) ∧ Aside0 (m + kq = 3) ∧ Aside0 (Two wo.heap.size j w' ∧ ∃ a : Nat, a = (if m = 0 then j else if m = 1 then pick1 l' j (2 * j + 1) else leastOf l' j) ∧ v4 = .int .i64 (a : Int) ∧ Aside0 (a ≤ 2 * j + 2 ∧ (a = j ∨ a < l'.length))) ∧ Aside0 (St w0 F0 P0 (boxT p eB cells :: rowT kTm 61 (.slice A N c) l' :: ts) w'))
      case atStart => exact ⟨0, rfl, ⟨.inl rfl⟩, ⟨rfl⟩, ⟨HC0.out, j, rfl, rfl, ⟨⟨by omega, .inl rfl⟩⟩⟩, HS0⟩
      case round =>
        clear HS0 HC0
        obtain ⟨m, rfl, hm, HQ, hacc, HS⟩ := hrel
        cases gk with
        | zero => exact absurd HQ.out (by have := hm.out; omega)
        | succ k2 =>
          obtain ⟨hcc, hacc⟩ := hacc.out
          obtain hm | hm | hm := hm.out
          · subst hm
            rw [if_pos rfl] at hacc
            obtain ⟨a, ha, rfl, HA⟩ := hacc
            have HC := Aside0.mk hcc
            have cell0 := hcc.2.1
            have ch := (HS.out.box_cell 0 _ HV.out).1
            clear hcc
            have HAE := Aside0.mk ha
            clear ha
            by_cases hk : 2 * j + 1 < l'.length
            · have c1 : decide (2 * (j : Int) + 1 < (N : Int)) = true := decide_eq_true (by have := HK.out.2.1; omega)
              have ha2 : a < l'.length := by have := HA.out; omega
              have HKL := Aside0.mk hk
              have HAL := Aside0.mk ha2
              have HKC := Aside0.mk (show ((2 * j + 1 : Nat) : Int) = 2 * (j : Int) + 1 by omega)
              cases hb : ahd l' (2 * j + 1) a with
              | true =>
                have HB := Aside0.mk hb
                have HX := Aside0.mk (show pick1 l' j (2 * j + 1) = 2 * j + 1 by have h1 := HAE.out; rw [show pick1 l' j (2 * j + 1) = pick1 l' a (2 * j + 1) by rw [h1]]; unfold pick1; exact if_pos ⟨hk, hb⟩)
                clear hb hk ha2
                go_wp2_with (go_at_call 38; (with_reducible refine (ahead_two HS.out HV.out HKL.out HAL.out hlen' HB.out HKC.out).mono ?_); rintro e w1 ⟨rfl, hS, hbl⟩; have HS1 := Aside0.mk hS; have HC1 := Aside0.mk (two_below HC.out hbl); clear hS hbl HS HC)
                go_roundg k2
                case measure => have := HQ.out; omega
                case rel => exact ⟨1, rfl, ⟨by decide⟩, ⟨by have := HQ.out; omega⟩, ⟨HC1.out, ⟨2 * j + 1, by rw [if_neg (by decide), if_pos rfl]; exact HX.out.symm, by rw [HKC.out], ⟨by have := HKL.out; omega, by have := HKL.out; omega⟩⟩⟩, HS1⟩
              | false =>
                have HB := Aside0.mk hb
                have HX := Aside0.mk (show pick1 l' j (2 * j + 1) = a by have h1 := HAE.out; rw [show pick1 l' j (2 * j + 1) = pick1 l' a (2 * j + 1) by rw [h1]]; unfold pick1; exact if_neg (fun h => by rw [hb] at h; cases h.2))
                clear hb hk ha2
                go_wp2_with (go_at_call 38; (with_reducible refine (ahead_two HS.out HV.out HKL.out HAL.out hlen' HB.out HKC.out).mono ?_); rintro e w1 ⟨rfl, hS, hbl⟩; have HS1 := Aside0.mk hS; have HC1 := Aside0.mk (two_below HC.out hbl); clear hS hbl HS HC)
                go_roundg k2
                case measure => have := HQ.out; omega
                case rel => exact ⟨1, rfl, ⟨by decide⟩, ⟨by have := HQ.out; omega⟩, ⟨HC1.out, ⟨a, by rw [if_neg (by decide), if_pos rfl]; exact HX.out.symm, rfl, HA⟩⟩, HS1⟩
            · have c1 : decide (2 * (j : Int) + 1 < (N : Int)) = false := decide_eq_false (by have := HK.out.2.1; omega)
              have HX := Aside0.mk (show pick1 l' j (2 * j + 1) = a by have h1 := HAE.out; rw [show pick1 l' j (2 * j + 1) = pick1 l' a (2 * j + 1) by rw [h1]]; unfold pick1; exact if_neg (fun h => hk h.1))
              clear hk
              go_wp2
              go_roundg k2
              case measure => have := HQ.out; omega
              case rel => exact ⟨1, rfl, ⟨by decide⟩, ⟨by have := HQ.out; omega⟩, ⟨HC.out, ⟨a, by rw [if_neg (by decide), if_pos rfl]; exact HX.out.symm, rfl, HA⟩⟩, HS⟩
          · subst hm
            rw [if_neg (by decide), if_pos rfl] at hacc
            obtain ⟨a, ha, rfl, HA⟩ := hacc
            have HC := Aside0.mk hcc
            have cell1 := hcc.2.2
            have ch := (HS.out.box_cell 0 _ HV.out).1
            clear hcc
            have HAE := Aside0.mk ha
            clear ha
            by_cases hk : 2 * j + 2 < l'.length
            · have c1 : decide (2 * (j : Int) + 2 < (N : Int)) = true := decide_eq_true (by have := HK.out.2.1; omega)
              have ha2 : a < l'.length := by have := HA.out; omega
              have HKL := Aside0.mk hk
              have HAL := Aside0.mk ha2
              have HKC := Aside0.mk (show ((2 * j + 2 : Nat) : Int) = 2 * (j : Int) + 2 by omega)
              cases hb : ahd l' (2 * j + 2) a with
              | true =>
                have HB := Aside0.mk hb
                have HX := Aside0.mk (show leastOf l' j = 2 * j + 2 by have h1 := HAE.out; rw [show leastOf l' j = pick1 l' a (2 * j + 2) by unfold leastOf; rw [h1]]; unfold pick1; exact if_pos ⟨hk, hb⟩)
                clear hb hk ha2
                go_wp2_with (go_at_call 38; (with_reducible refine (ahead_two HS.out HV.out HKL.out HAL.out hlen' HB.out HKC.out).mono ?_); rintro e w1 ⟨rfl, hS, hbl⟩; have HS1 := Aside0.mk hS; have HC1 := Aside0.mk (two_below HC.out hbl); clear hS hbl HS HC)
                go_roundg k2
                case measure => have := HQ.out; omega
                case rel => exact ⟨2, rfl, ⟨by decide⟩, ⟨by have := HQ.out; omega⟩, ⟨HC1.out, ⟨2 * j + 2, by rw [if_neg (by decide), if_neg (by decide)]; exact HX.out.symm, by rw [HKC.out], ⟨by have := HKL.out; omega, by have := HKL.out; omega⟩⟩⟩, HS1⟩
              | false =>
                have HB := Aside0.mk hb
                have HX := Aside0.mk (show leastOf l' j = a by have h1 := HAE.out; rw [show leastOf l' j = pick1 l' a (2 * j + 2) by unfold leastOf; rw [h1]]; unfold pick1; exact if_neg (fun h => by rw [hb] at h; cases h.2))
                clear hb hk ha2
                go_wp2_with (go_at_call 38; (with_reducible refine (ahead_two HS.out HV.out HKL.out HAL.out hlen' HB.out HKC.out).mono ?_); rintro e w1 ⟨rfl, hS, hbl⟩; have HS1 := Aside0.mk hS; have HC1 := Aside0.mk (two_below HC.out hbl); clear hS hbl HS HC)
                go_roundg k2
                case measure => have := HQ.out; omega
                case rel => exact ⟨2, rfl, ⟨by decide⟩, ⟨by have := HQ.out; omega⟩, ⟨HC1.out, ⟨a, by rw [if_neg (by decide), if_neg (by decide)]; exact HX.out.symm, rfl, HA⟩⟩, HS1⟩
            · have c1 : decide (2 * (j : Int) + 2 < (N : Int)) = false := decide_eq_false (by have := HK.out.2.1; omega)
              have HX := Aside0.mk (show leastOf l' j = a by have h1 := HAE.out; rw [show leastOf l' j = pick1 l' a (2 * j + 2) by unfold leastOf; rw [h1]]; unfold pick1; exact if_neg (fun h => hk h.1))
              clear hk
              go_wp2
              go_roundg k2
              case measure => have := HQ.out; omega
              case rel => exact ⟨2, rfl, ⟨by decide⟩, ⟨by have := HQ.out; omega⟩, ⟨HC.out, ⟨a, by rw [if_neg (by decide), if_neg (by decide)]; exact HX.out.symm, rfl, HA⟩⟩, HS⟩
          · subst hm
            rw [if_neg (by decide), if_neg (by decide)] at hacc
            obtain ⟨a, ha, rfl, HA⟩ := hacc
            clear hcc
            have HAE := Aside0.mk ha
            rcases leastOf_cases l' j with hl | hl
            · have HE := Aside0.mk (show R = l' by
                obtain ⟨h1, h2⟩ := HR.out
                obtain ⟨f', rfl⟩ : ∃ g, f = g + 1 := ⟨f - 1, by omega⟩
                rw [← h2]
                simp only [downL]
                rw [if_pos hl])
              obtain rfl : a = j := by omega
              clear ha hl
              have e1 : ((a : Int) == (a : Int)) = true := beq_self_eq_true _
              go_wp2
              refine bodyPost_ret (results_none rfl _ _ _) rfl ?_
              exact ⟨rfl, by rw [HE.out]; exact HS.out⟩
            · rw [← ha] at hl
              have e1 : ((a : Int) == (j : Int)) = false := beq_eq_false_iff_ne.mpr (by omega)
              have HF := Aside0.mk (show N - a < f - 1 ∧ downL (f - 1) (swp l' j a) a = R by
                obtain ⟨h1, h2⟩ := HR.out
                obtain ⟨f', rfl⟩ : ∃ g, f = g + 1 := ⟨f - 1, by omega⟩
                simp only [downL] at h2
                rw [← HAE.out, if_neg (by omega)] at h2
                have := HK.out.2.1
                exact ⟨by omega, h2⟩)
              have HL := Aside0.mk (show j < l'.length ∧ a < l'.length ∧ j < a by omega)
              clear ha hl
              go_wp2_with (go_at_call 29; (with_reducible refine (swap_st HS.out HV.out HL.out.1 HL.out.2.1 hlen').mono ?_); rintro e w2 ⟨rfl, hS⟩; have HS2 := Aside0.mk hS; clear hS HS)
              go_roundg k1
              case measure => have := HK.out; omega
              case rel => exact ⟨a, _, rfl, ⟨by have := HL.out; have := HK.out.1; have := HK.out.2.1; omega, by rw [swp_len]; exact HK.out.2.1, by have := HL.out; have := HK.out.2.1; omega, HK.out.2.2.2.1, f - 1, HF.out⟩, HS2⟩
end
end Go.Proofs.Ytldkdndgnojepaa.Heap
namespace Go.Proofs.Ytldkdndgnojepaa.Heap
open Go Go.RowKit Go.Proofs.Ytldkdndgnojepaa.Own Go.Proofs.YtldkdndgnojepaaW.PrintWords Go.Proofs.YtldkdndgnojepaaW.PrintLast Go.Proofs.YtldkdndgnojepaaW.PrintMore
set_option linter.unusedVariables false
set_option linter.unusedSimpArgs false
def Tm.agg (x : Tm) : Value := .agg #[.int .i64 x.t, .int .i64 x.s, .int .i64 x.g]
def zeroTm : Tm := ⟨0, 0, 0⟩
section
variable {w0 w w' : World} {F0 P0 : Nat → Prop} {ts : List Thing} {p eB : Nat} {cells : Array Value} {v : Value} {l : List Tm}
theorem first_none (w : World) : Calls Try.prog 22 #[.pointer none] w fun e w' => e = .returned (.tuple #[zeroTm.agg, .bool false]) ∧ Below w.heap.size w w' := by
  go_enter Try.func22, Try.ntmps22
  go_wp2_with (go_at_call 28; (with_reducible refine (len_none _).mono ?_); rintro e w1 ⟨rfl, rfl⟩)
  refine bodyPost_ret (v := .tuple #[zeroTm.agg, .bool false]) (by simp [results, Try.results22, go_sem]; rfl) rfl ⟨rfl, ?_⟩
  exact below_alloc (Below.refl _ _) _
theorem first_nil (h : St w0 F0 P0 (boxT p eB cells :: rowT kTm 61 v [] :: ts) w) (hv : cells[0]? = some v) :
    Calls Try.prog 22 #[.pointer (some ⟨p, 0, none⟩)] w fun e w' => e = .returned (.tuple #[zeroTm.agg, .bool false]) ∧ Below w.heap.size w w' := by
  obtain ⟨A, c, rfl⟩ := h.drop.slice
  have HS := Aside0.mk h
  have HV := Aside0.mk hv
  clear h hv
  go_enter Try.func22, Try.ntmps22
  go_wp2_with (go_at_call 28; (with_reducible refine (len_st (HS.out.below (below_alloc (Below.refl _ _) _)) HV.out).mono ?_); rintro e w1 ⟨rfl, rfl⟩)
  refine bodyPost_ret (v := .tuple #[zeroTm.agg, .bool false]) (by simp [results, Try.results22, go_sem]; rfl) rfl ⟨rfl, ?_⟩
  exact below_alloc (Below.refl _ _) _
theorem first_cons {x : Tm} (h : St w0 F0 P0 (boxT p eB cells :: rowT kTm 61 v (x :: l) :: ts) w) (hv : cells[0]? = some v) (hlen : l.length ≤ 1000000) :
    Calls Try.prog 22 #[.pointer (some ⟨p, 0, none⟩)] w fun e w' => e = .returned (.tuple #[x.agg, .bool true]) ∧ Below w.heap.size w w' := by
  obtain ⟨g, c, rfl, a0, a1, a2⟩ := elem (h.drop) (i := 0) (by simp)
  simp only [Nat.zero_mul, Nat.zero_add, List.getElem_cons_zero] at a0 a1 a2
  have ch := (h.box_cell 0 _ hv).1
  have HS := Aside0.mk h
  have HV := Aside0.mk hv
  have hb1 := World.block_lt_of_cell? w _ a0
  have hb2 := World.block_lt_of_cell? w _ ch
  have p1 : (((x :: l).length : Nat) : Int) = (l.length : Int) + 1 := by simp
  have e1 : (((l.length : Int) + 1) == 0) = false := beq_eq_false_iff_ne.mpr (by omega)
  have e2 : (0 : Int) < (l.length : Int) + 1 := by omega
  clear h hv p1
  go_enter Try.func22, Try.ntmps22
  go_wp2_with (go_at_call 28; (with_reducible refine (len_st (HS.out.below (below_alloc (Below.refl _ _) _)) HV.out).mono ?_); rintro e w1 ⟨rfl, rfl⟩)
  refine bodyPost_ret (v := .tuple #[x.agg, .bool true]) (by simp [results, Try.results22, go_sem]; rfl) rfl ⟨rfl, ?_⟩
  exact below_alloc (Below.refl _ _) _
theorem St_take {A : Option Addr} {n c : Nat} (h : St w0 F0 P0 (rowT kTm 61 (.slice A n c) l :: ts) w) {m : Nat} (hm : m ≤ l.length) (h0 : 0 < l.length) : St w0 F0 P0 (rowT kTm 61 (.slice A m c) (l.take m) :: ts) w := by
  obtain ⟨F, ⟨F1, F2, h1, h2, h3, h4⟩, hm'⟩ := h
  refine ⟨⟨F, ⟨F1, F2, h1, ⟨fun k => ?_, Kd.N_take h2.2 hm⟩, h3, h4⟩, hm'⟩⟩
  rw [h2.1]
  cases A <;> exact Iff.rfl
def popL (l : List Tm) : List Tm := downL (l.length - 1 + 1) ((swp l 0 (l.length - 1)).take (l.length - 1)) 0
theorem popL_len (l : List Tm) : (popL l).length = l.length - 1 := by
  unfold popL
  rw [downL_len, List.length_take, swp_len]
  omega
theorem box3 {a b c : Value} {T : Nat} {W w1 : World} (h : Below (W.alloc (.cells #[a, b, c] T)).heap.size (W.alloc (.cells #[a, b, c] T)) w1) :
    (w1.cell? ⟨W.heap.size, 0, none⟩ = some a ∧ w1.cell? ⟨W.heap.size, 1, none⟩ = some b ∧ w1.cell? ⟨W.heap.size, 2, none⟩ = some c) ∧ (w1.frozen? ⟨W.heap.size, 0, none⟩ = false ∧ w1.frozen? ⟨W.heap.size, 1, none⟩ = false ∧ w1.frozen? ⟨W.heap.size, 2, none⟩ = false) ∧ W.heap.size < w1.heap.size := by
  have hs := h.size
  have hz : W.heap.size < (W.alloc (.cells #[a, b, c] T)).heap.size := by simp
  have hb : w1.heap[W.heap.size]? = some (.cells #[a, b, c] T (0, 0)) := (h.block _ hz).trans (by show (W.heap.push _)[W.heap.size]? = _; rw [Array.getElem?_push, if_pos rfl])
  refine ⟨⟨?_, ?_, ?_⟩, ⟨?_, ?_, ?_⟩, by omega⟩
  all_goals first | (simp [World.cell?, hb]; done) | (simp [World.frozen?, hb]; done)
/-- Three stores into a box. -/
theorem St_set3 {b T : Nat} {a0 a1 a2 b0 b1 b2 : Value} (h : St w0 F0 P0 (boxT b T #[a0, a1, a2] :: ts) w) : St w0 F0 P0 (boxT b T #[b0, b1, b2] :: ts) (((w.setCell ⟨b, 0, none⟩ b0).setCell ⟨b, 1, none⟩ b1).setCell ⟨b, 2, none⟩ b2) := by
  have h1 := ((h.box_set 0 b0).box_set 1 b1).box_set 2 b2
  simpa using h1
theorem St_alloc (h : St w0 F0 P0 ts w) (o : Obj) : St w0 F0 P0 ts (w.alloc o) := h.below (below_alloc (Below.refl _ _) _)
theorem box_cells3 {b T : Nat} {a0 a1 a2 : Value} (h : St w0 F0 P0 (boxT b T #[a0, a1, a2] :: ts) w) : (w.cell? ⟨b, 0, none⟩ = some a0 ∧ w.cell? ⟨b, 1, none⟩ = some a1 ∧ w.cell? ⟨b, 2, none⟩ = some a2) ∧ (w.frozen? ⟨b, 0, none⟩ = false ∧ w.frozen? ⟨b, 1, none⟩ = false ∧ w.frozen? ⟨b, 2, none⟩ = false) ∧ b < w.heap.size :=
  ⟨⟨(h.box_cell 0 _ rfl).1, (h.box_cell 1 _ rfl).1, (h.box_cell 2 _ rfl).1⟩, ⟨(h.box_cell 0 _ rfl).2, (h.box_cell 1 _ rfl).2, (h.box_cell 2 _ rfl).2⟩, h.boxed.2⟩
theorem pop_none (w : World) : Calls Try.prog 23 #[.pointer none] w fun e w' => e = .returned (.tuple #[zeroTm.agg, .bool false]) ∧ Below w.heap.size w w' := by
  have HS := Aside0.mk ((St.start w (fun _ => True)).box #[.int .i64 0, .int .i64 0, .int .i64 0] 61)
  go_enter Try.func23, Try.ntmps23
  go_wp2_with (go_at_call 22; (with_reducible refine (first_none _).mono ?_); rintro e w1 ⟨rfl, hb⟩; unfold Tm.agg zeroTm; have hS := HS.out.below hb; obtain ⟨⟨k0, k1, k2⟩, ⟨k3, k4, k5⟩, k6⟩ := box_cells3 hS; have HS1 := Aside0.mk (St_alloc (St_set3 (b0 := .int .i64 0) (b1 := .int .i64 0) (b2 := .int .i64 0) hS) (.cells #[.int .i64 0, .int .i64 0, .int .i64 0] 61)); clear hb hS HS)
  obtain ⟨⟨f0, f1, f2⟩, -⟩ := box_cells3 HS1.out
  refine bodyPost_ret (v := .tuple #[zeroTm.agg, .bool false]) (by simp [results, Try.results23, go_sem, f0, f1, f2]; rfl) rfl ⟨rfl, ?_⟩
  exact HS1.out.bel
end
end Go.Proofs.Ytldkdndgnojepaa.Heap
namespace Go.Proofs.Ytldkdndgnojepaa.Heap
open Go Go.RowKit Go.Proofs.Ytldkdndgnojepaa.Own Go.Proofs.YtldkdndgnojepaaW.PrintWords Go.Proofs.YtldkdndgnojepaaW.PrintLast Go.Proofs.YtldkdndgnojepaaW.PrintMore
set_option linter.unusedVariables false
set_option linter.unusedSimpArgs false
section
variable {w0 w w' : World} {F0 P0 : Nat → Prop} {ts : List Thing} {p eB : Nat} {cells : Array Value} {v : Value} {l : List Tm}
theorem pop_nil (h : St w0 F0 P0 (boxT p eB cells :: rowT kTm 61 v [] :: ts) w) (hv : cells[0]? = some v) :
    Calls Try.prog 23 #[.pointer (some ⟨p, 0, none⟩)] w fun e w' => e = .returned (.tuple #[zeroTm.agg, .bool false]) ∧ St w0 F0 P0 (boxT p eB cells :: rowT kTm 61 v [] :: ts) w' := by
  have HS := Aside0.mk (h.box #[.int .i64 0, .int .i64 0, .int .i64 0] 61)
  have HV := Aside0.mk hv
  clear h hv
  go_enter Try.func23, Try.ntmps23
  go_wp2_with (go_at_call 22; (with_reducible refine (first_nil HS.out.drop HV.out).mono ?_); rintro e w1 ⟨rfl, hb⟩; unfold Tm.agg zeroTm; have hS := HS.out.below hb; obtain ⟨⟨k0, k1, k2⟩, ⟨k3, k4, k5⟩, k6⟩ := box_cells3 hS; have HS1 := Aside0.mk (St_alloc (St_set3 (b0 := .int .i64 0) (b1 := .int .i64 0) (b2 := .int .i64 0) hS) (.cells #[.int .i64 0, .int .i64 0, .int .i64 0] 61)); clear hb hS HS)
  obtain ⟨⟨f0, f1, f2⟩, -⟩ := box_cells3 HS1.out
  refine bodyPost_ret (v := .tuple #[zeroTm.agg, .bool false]) (by simp [results, Try.results23, go_sem, f0, f1, f2]; rfl) rfl ⟨rfl, ?_⟩
  exact HS1.out.drop
theorem swap0 {N : Nat} (h : St w0 F0 P0 (boxT p eB cells :: rowT kTm 61 v l :: ts) w) (hv : cells[0]? = some v) (hN : l.length = N + 1) (hlen : (N : Int) ≤ 100000) :
    Calls Try.prog 29 #[.pointer (some ⟨p, 0, none⟩), .int .i64 0, .int .i64 (N : Int)] w fun e w' => e = .returned (.tuple #[]) ∧ St w0 F0 P0 (boxT p eB cells :: rowT kTm 61 v (swp l 0 N) :: ts) w' :=
  swap_st (i := 0) (k := N) h hv (by omega) (by omega) (by omega)
theorem down0 {N : Nat} (h : St w0 F0 P0 (boxT p eB cells :: rowT kTm 61 v l :: ts) w) (hv : cells[0]? = some v) (hN : l.length = N) (hlen : (N : Int) ≤ 100000) :
    Calls Try.prog 30 #[.pointer (some ⟨p, 0, none⟩), .int .i64 0] w fun e w' => e = .returned (.tuple #[]) ∧ St w0 F0 P0 (boxT p eB cells :: rowT kTm 61 v (downL (N + 1) l 0) :: ts) w' := by
  subst hN
  exact down_st (i := 0) h hv (by omega) (by omega)
theorem take_set {g N c : Nat} (h : St w0 F0 P0 (boxT p eB cells :: rowT kTm 61 (.slice (some ⟨g, 0, none⟩) (N + 1) c) (swp l 0 N) :: ts) w) (hN : l.length = N + 1) :
    St w0 F0 P0 (boxT p eB (cells.setIfInBounds 0 (.slice (some ⟨g, 0, none⟩) N c)) :: rowT kTm 61 (.slice (some ⟨g, 0, none⟩) N c) ((swp l 0 N).take N) :: ts) (w.setCell ⟨p, 0, none⟩ (.slice (some ⟨g, 0, none⟩) N c)) :=
  ((St_take h.swap (by rw [swp_len]; omega) (by rw [swp_len]; omega)).swap).box_set 0 _
set_option maxRecDepth 100000 in
set_option maxHeartbeats 2000000 in
theorem pop_cons {x : Tm} (h : St w0 F0 P0 (boxT p eB cells :: rowT kTm 61 v (x :: l) :: ts) w) (hv : cells[0]? = some v) (hlen : l.length ≤ 100000) :
    Calls Try.prog 23 #[.pointer (some ⟨p, 0, none⟩)] w fun e w' => e = .returned (.tuple #[x.agg, .bool true]) ∧ ∃ v', St w0 F0 P0 (boxT p eB (cells.setIfInBounds 0 v') :: rowT kTm 61 v' (popL (x :: l)) :: ts) w' := by
  obtain ⟨A, c, hvs⟩ := h.drop.slice
  have HS := Aside0.mk (h.box #[.int .i64 0, .int .i64 0, .int .i64 0] 61)
  have HV := Aside0.mk hv
  obtain ⟨g, c', hvs2, -⟩ := elem h.drop (i := 0) (by simp)
  obtain rfl : A = some ⟨g, 0, none⟩ := by rw [hvs] at hvs2; injection hvs2
  obtain ⟨N, hN⟩ : ∃ N, N = l.length := ⟨_, rfl⟩
  have hxl : (x :: l).length = N + 1 := by simp [hN]
  rw [hxl] at hvs
  subst hvs
  have hcap : N + 1 ≤ c := by have := h.drop.reads.2.1; omega
  have HX := Aside0.mk hxl
  have hN2 : (N : Int) ≤ 100000 := by omega
  have HN := Aside0.mk hN
  clear h hv hvs2 hN hxl hlen
  have HZ : (cells.setIfInBounds 0 (.slice (some ⟨g, 0, none⟩) N c))[0]? = some (.slice (some ⟨g, 0, none⟩) N c) := by
    have h0 := (Array.getElem?_eq_some_iff.mp HV.out).1
    simp [h0]
  have HZ := Aside0.mk HZ
  have HT := Aside0.mk (show ((swp (x :: l) 0 N).take N).length = N by rw [List.length_take, swp_len, HX.out]; omega)
  go_enter Try.func23, Try.ntmps23
  go_wp2_with (first | (go_at_call 22; go_loud ((with_reducible refine (first_cons HS.out.drop HV.out (by have := HN.out; omega)).mono ?_); rintro e w1 ⟨rfl, hb⟩; unfold Tm.agg; have hS := (HS.out.below hb).rot; have HS1 := Aside0.mk ((hS.box #[.int .i64 x.t, .int .i64 x.s, .int .i64 x.g] 61).rot); have ch := (HS1.out.box_cell 0 _ HV.out).1; clear hb hS HS)) | (go_at_call 29; go_loud ((with_reducible refine (swap0 HS1.out HV.out HX.out hN2).mono ?_); rintro e w2 ⟨rfl, hS⟩; have ch2 := hS.box_cell 0 _ HV.out; obtain ⟨ch3, ch4⟩ := ch2; have HS2 := Aside0.mk (take_set hS HX.out); have ch5 := (HS2.out.box_cell 0 _ HZ.out).1; clear hS HS1)) | (go_at_call 30; go_loud ((with_reducible refine (down0 HS2.out HZ.out HT.out hN2).mono ?_); rintro e w3 ⟨rfl, hS⟩; obtain ⟨⟨m0, m1, m2⟩, -, -⟩ := box_cells3 hS.nth2; obtain ⟨⟨k0, k1, k2⟩, ⟨k3, k4, k5⟩, k6⟩ := box_cells3 hS.drop.drop.drop; have HS3 := Aside0.mk (St_set3 (b0 := .int .i64 x.t) (b1 := .int .i64 x.s) (b2 := .int .i64 x.g) hS.nth2.drop.nth2); clear hS HS2)))
  obtain ⟨⟨f0, f1, f2⟩, -⟩ := box_cells3 HS3.out
  refine bodyPost_ret (v := .tuple #[x.agg, .bool true]) (by simp [results, Try.results23, go_sem, f0, f1, f2]; rfl) rfl ⟨rfl, .slice (some ⟨g, 0, none⟩) N c, ?_⟩
  have h := HS3.out.drop
  unfold popL
  rw [HX.out, Nat.add_sub_cancel]
  exact h
end
end Go.Proofs.Ytldkdndgnojepaa.Heap
namespace Go.Proofs.Ytldkdndgnojepaa.Heap
open Go Go.RowKit Go.Proofs.Ytldkdndgnojepaa.Own Go.Proofs.YtldkdndgnojepaaW.PrintWords Go.Proofs.YtldkdndgnojepaaW.PrintLast Go.Proofs.YtldkdndgnojepaaW.PrintMore
set_option linter.unusedVariables false
set_option linter.unusedSimpArgs false
/-- A heap of a law's own, behind its pointer. -/
def Hp (w0 : World) (F0 P0 : Nat → Prop) (p : Nat) (l : List Tm) (ts : List Thing) (w : World) : Prop := ∃ v, St w0 F0 P0 (boxT p 41 #[v] :: rowT kTm 61 v l :: ts) w
section
variable {w0 w w' : World} {F0 P0 : Nat → Prop} {ts : List Thing} {p : Nat} {l : List Tm}
theorem Hp.new (h : St w0 F0 P0 ts w) : Hp w0 F0 P0 w.heap.size [] ts (w.alloc (.cells #[.slice none 0 0] 41)) := ⟨.slice none 0 0, ((h.box _ _).nil kTm 61).swap⟩
theorem Hp.below (h : Hp w0 F0 P0 p l ts w) (hb : Below w.heap.size w w') : Hp w0 F0 P0 p l ts w' := by
  obtain ⟨v, h⟩ := h
  exact ⟨v, h.below hb⟩
theorem Hp.drewN (h : Hp w0 F0 P0 p l ts w) (n : Nat) : Hp w0 F0 P0 p l ts (w.drewN n) := h.below (pw_below_drewN (Below.refl _ _) n)
theorem Hp.bel (h : Hp w0 (fun _ => False) P0 p l ts w) : Below w0.heap.size w0 w := by
  obtain ⟨v, h⟩ := h
  exact h.bel
theorem Hp.push (h : Hp w0 F0 P0 p l ts w) (hlen : l.length ≤ 100000) (x : Tm) {l' : List Tm} (hl : pushL l x = l') :
    Calls Try.prog 26 #[.pointer (some ⟨p, 0, none⟩), .agg #[.int .i64 x.t, .int .i64 x.s, .int .i64 x.g]] w fun e w' => e = .returned (.tuple #[]) ∧ Hp w0 F0 P0 p l' ts w' := by
  subst hl
  obtain ⟨v, h⟩ := h
  refine (push_st h rfl hlen x).mono ?_
  rintro e w' ⟨rfl, v', h'⟩
  exact ⟨rfl, v', h'⟩
theorem Hp.first_nil (h : Hp w0 F0 P0 p [] ts w) :
    Calls Try.prog 22 #[.pointer (some ⟨p, 0, none⟩)] w fun e w' => e = .returned (.tuple #[zeroTm.agg, .bool false]) ∧ Hp w0 F0 P0 p [] ts w' := by
  obtain ⟨v, h⟩ := h
  refine (Heap.first_nil h rfl).mono ?_
  rintro e w' ⟨rfl, hb⟩
  exact ⟨rfl, v, h.below hb⟩
theorem Hp.first_cons {x : Tm} (h : Hp w0 F0 P0 p (x :: l) ts w) (hlen : l.length ≤ 100000) :
    Calls Try.prog 22 #[.pointer (some ⟨p, 0, none⟩)] w fun e w' => e = .returned (.tuple #[x.agg, .bool true]) ∧ Hp w0 F0 P0 p (x :: l) ts w' := by
  obtain ⟨v, h⟩ := h
  refine (Heap.first_cons h rfl (by omega)).mono ?_
  rintro e w' ⟨rfl, hb⟩
  exact ⟨rfl, v, h.below hb⟩
theorem Hp.pop_nil (h : Hp w0 F0 P0 p [] ts w) :
    Calls Try.prog 23 #[.pointer (some ⟨p, 0, none⟩)] w fun e w' => e = .returned (.tuple #[zeroTm.agg, .bool false]) ∧ Hp w0 F0 P0 p [] ts w' := by
  obtain ⟨v, h⟩ := h
  refine (Heap.pop_nil h rfl).mono ?_
  rintro e w' ⟨rfl, h'⟩
  exact ⟨rfl, v, h'⟩
theorem Hp.pop_cons {x : Tm} (h : Hp w0 F0 P0 p (x :: l) ts w) (hlen : l.length ≤ 100000) :
    Calls Try.prog 23 #[.pointer (some ⟨p, 0, none⟩)] w fun e w' => e = .returned (.tuple #[x.agg, .bool true]) ∧ Hp w0 F0 P0 p (popL (x :: l)) ts w' := by
  obtain ⟨v, h⟩ := h
  refine (Heap.pop_cons h rfl hlen).mono ?_
  rintro e w' ⟨rfl, v', h'⟩
  exact ⟨rfl, v', h'⟩
theorem Hp.len (h : Hp w0 F0 P0 p l ts w) {n : Int} (hn : (l.length : Int) = n) :
    Calls Try.prog 28 #[.pointer (some ⟨p, 0, none⟩)] w fun e w' => e = .returned (.int .i64 n) ∧ w' = w := by
  subst hn
  obtain ⟨v, h⟩ := h
  obtain ⟨A, c, rfl⟩ := h.drop.slice
  exact len_st h rfl
end
theorem opTm : Go.Proofs.YtldkdndgnojepaaX.Opens Try.prog 61 kTm (fun x => (Lit.int .i64 x.t).wf = true ∧ (Lit.int .i64 x.s).wf = true ∧ (Lit.int .i64 x.g).wf = true) :=
  Go.Proofs.YtldkdndgnojepaaX.Opens.imp (Go.Proofs.YtldkdndgnojepaaX.Opens.struct (fun x : Tm => (x.t, x.s, x.g)) (fun p => ⟨p.1, p.2.1, p.2.2⟩) (fun _ => rfl) Try.underlying61 (by kernel_rfl) (Go.Proofs.YtldkdndgnojepaaX.OpensF.cons rfl (by kernel_rfl) (Go.Proofs.YtldkdndgnojepaaX.Opens.int Try.underlying2) (Go.Proofs.YtldkdndgnojepaaX.OpensF.cons rfl (by kernel_rfl) (Go.Proofs.YtldkdndgnojepaaX.Opens.int Try.underlying2) (Go.Proofs.YtldkdndgnojepaaX.OpensF.one rfl (by kernel_rfl) (Go.Proofs.YtldkdndgnojepaaX.Opens.int Try.underlying3))))) (fun a h => by simpa using h)
end Go.Proofs.Ytldkdndgnojepaa.Heap
namespace Go.Proofs.Ytldkdndgnojepaa.Heap
open Go Go.Proofs Go.RowKit Go.Shelf Go.Proofs.Ytldkdndgnojepaa.Own Go.Proofs.YtldkdndgnojepaaW.PrintWords Go.Proofs.YtldkdndgnojepaaW.PrintLast Go.Proofs.YtldkdndgnojepaaW.PrintMore
set_option linter.unusedVariables false
set_option linter.unusedSimpArgs false
attribute [local go_sem] Oper.semAt_some
theorem at_elem {w : World} {A : Option Addr} {l : List Tm} (h : kTm.C w A l.length l) {i : Nat} (hi : i < l.length) : ∃ ad, A = some ad ∧ w.cell? (ad.add (i * 3)) = some (.int .i64 l[i].t) ∧ w.cell? ⟨(ad.add (i * 3)).block, (ad.add (i * 3)).off + 1, none⟩ = some (.int .i64 l[i].s) ∧ w.cell? ⟨(ad.add (i * 3)).block, (ad.add (i * 3)).off + 2, none⟩ = some (.int .i64 l[i].g) := by
  obtain ⟨ad, cs, e1, hl, hK, hc⟩ := Kd.C_get h ⟨0, 0, 0⟩ (i : Int) (by omega) (by omega)
  have hx : l.getD (i : Int).toNat ⟨0, 0, 0⟩ = l[i] := by simp [List.getD_eq_getElem?_getD, List.getElem?_eq_getElem hi]
  rw [hx] at hK
  obtain rfl := kTm_open hK
  have h0 := hc 0 _ rfl
  have h1 := hc 1 _ rfl
  have h2 := hc 2 _ rfl
  rw [Int.toNat_natCast] at h0 h1 h2
  refine ⟨ad, e1, h0, ?_, ?_⟩
  · rw [← add_field _ _ 1 (by omega)]; exact h1
  · rw [← add_field _ _ 2 (by omega)]; exact h2
set_option maxRecDepth 100000 in
set_option maxHeartbeats 2000000 in
/-- slices.Values's closure, for every loop body that keeps what lay below n₀. -/
theorem values1_in (F : Fence) (n : Nat) (hF : F.fn 41) (hro : F.round = none) (hn : 1 ≤ n) (l Bs n₀ : Nat) (A : Option Addr) (c : Nat) (zs : List Tm) (hsm : zs.length ≤ 1000000) (J Jx : List Tm → World → Prop)
    (hY : ∀ pre x W, J pre W → pre.length < zs.length → YieldAt F (n - 1) Try.prog l #[Tm.agg x] W fun e W' =>
      (e = .returned (.bool true) ∧ J (pre ++ [x]) W' ∧ Below n₀ W W') ∨ (e = .returned (.bool false) ∧ Jx (pre ++ [x]) W'))
    (W : World) (hJ : AbidesFrom W.heap.size J) (hn0 : n₀ ≤ W.heap.size) (hBs : W.cell? ⟨Bs, 0, none⟩ = some (.slice A zs.length c)) (hR : ∀ W', Below n₀ W W' → kTm.C W' A zs.length zs) (h0 : J [] W) :
    CallsIn F n Try.prog 41 #[.func (.yield l) #[] #[], .pointer (some ⟨Bs, 0, none⟩)] W fun e W' => (∃ v, e = .returned v) ∧
      ((∃ ys, ys = zs ∧ J ys W') ∨ (∃ pre, pre <+: zs ∧ Jx pre W')) := by
  refine callsIn_of_wp Try.func41 rfl hF ?_ hro
  simp only [Try.ntmps41, List.size_toArray, List.length_cons, List.length_nil, Nat.reduceAdd, Nat.reduceSub, Array.replicate_succ, Array.replicate_zero, List.push_toArray, List.append_toArray, List.nil_append, List.cons_append]
  gi_wp2
  gi_loopw [4, 7] (fun _ i wr => ∃ k : Nat, k ≤ zs.length ∧ i = .int .i64 k ∧ Aside0 (J (zs.take k) wr) ∧ Aside0 (Below n₀ W wr)) (fun _ i _ => zs.length - (intOf i).toNat)
  case atStart => exact ⟨0, Nat.zero_le _, rfl, ⟨h0⟩, ⟨Below.refl _ _⟩⟩
  case round =>
    obtain ⟨k, hk, rfl, hJs, hnx⟩ := hrel
    by_cases hlt : k < zs.length
    · obtain ⟨ad, rfl, a0, a1, a2⟩ := at_elem (hR _ hnx.out) hlt
      have hJ1 := hJ (zs.take k) wr (wr.alloc (.cells #[.int .i64 zs[k].t, .int .i64 zs[k].s, .int .i64 zs[k].g] 61)) none hJs.out (World.grownBy_alloc wr _ none) (fun r e => by cases e)
      obtain ⟨fn, tmps, assign, body, hy, hR2⟩ := hY (zs.take k) zs[k] (wr.alloc (.cells #[.int .i64 zs[k].t, .int .i64 zs[k].s, .int .i64 zs[k].g] 61)) hJ1 (by rw [List.length_take]; omega)
      have hT := Aside0.mk (List.take_succ_eq_append_getElem hlt)
      have c1 : decide (k < zs.length) = true := decide_eq_true hlt
      have k0 : (0 : Int) ≤ (k : Int) := by omega
      have k1 : (k : Int) < (zs.length : Int) := by omega
      unfold Tm.agg at hy
      generalize zs[k] = x at a0 a1 a2 hy hR2 hT
      gi_wp2
      refine hR2.mono ?_
      rintro e W3 (⟨rfl, hJ3, hk3⟩ | ⟨rfl, hJx3⟩)
      · have hJ4 := Aside0.mk hJ3
        have hB4 := Aside0.mk (hnx.out.trans (((Below.refl n₀ wr).alloc (Nat.le_trans hn0 hnx.out.size) _).trans hk3))
        clear hJ3 hk3
        gi_wp2
        go_roundw
        case rel => exact ⟨k + 1, by omega, by simp, ⟨by rw [hT.out]; exact hJ4.out⟩, hB4⟩
        case measure => simp [intOf]; omega
      · have hJ4 := Aside0.mk hJx3
        clear hJx3
        gi_wp2
        refine bodyPost_ret (results_none rfl _ _ _) rfl ?_
        exact ⟨⟨_, rfl⟩, .inr ⟨zs.take (k + 1), List.take_prefix _ _, by rw [hT.out]; exact hJ4.out⟩⟩
    · obtain rfl : k = zs.length := by omega
      have c1 : decide (zs.length < zs.length) = false := decide_eq_false (by omega)
      gi_wp2
      go_end0
      exact ⟨⟨_, rfl⟩, .inl ⟨_, rfl, by have h := hJs.out; rwa [List.take_length] at h⟩⟩
/-- slices.Values(s): the slice is boxed; the function value captures the box. -/
theorem values_in (F : Fence) (n : Nat) (hF : F.fn 32) (hro : F.round = none) (a : Option Addr) (len cap : Nat) (w : World) :
    CallsIn F n Try.prog 32 #[.slice a len cap] w fun e w' => e = .returned (.func (.func 41) #[] #[.pointer (some ⟨w.heap.size, 0, none⟩)]) ∧ w' = w.alloc (.cells #[.slice a len cap] 39) := by
  refine callsIn_of_wp Try.func32 rfl hF ?_ hro
  simp only [Try.ntmps32, List.size_toArray, List.length_cons, List.length_nil, Nat.reduceAdd, Nat.reduceSub, Array.replicate_succ, Array.replicate_zero, List.push_toArray, List.append_toArray, List.nil_append, List.cons_append]
  gi_wp2
  go_ret
  exact ⟨rfl, rfl⟩
theorem values_stops (F : Fence) (n : Nat) (hF : F.fn 41) (hro : F.round = none) (hn : 1 ≤ n) (Bs n₀ : Nat) (A : Option Addr) (c : Nat) (zs : List Tm) (hsm : zs.length ≤ 1000000) (w : World) (hBs : Bs < w.heap.size) (hn₀ : n₀ ≤ w.heap.size)
    (hc : w.cell? ⟨Bs, 0, none⟩ = some (.slice A zs.length c)) (hR : ∀ W', Below n₀ w W' → kTm.C W' A zs.length zs) :
    SeqStopsK F n Try.prog 41 #[.pointer (some ⟨Bs, 0, none⟩)] (fun x : Tm => #[Tm.agg x]) (Below n₀) (fun ys => ys = zs) (fun pre => pre <+: zs) zs.length w := fun l J Jx W hW hJ hJx hY h0 => by
  have hc' := (hW.cell (p := ⟨Bs, 0, none⟩) hBs).trans hc
  exact values1_in F n hF hro hn l Bs n₀ A c zs hsm J Jx hY W hJ (Nat.le_trans hn₀ hW.size) hc' (fun W' h => hR W' ((hW.mono hn₀).trans h)) h0
end Go.Proofs.Ytldkdndgnojepaa.Heap
namespace Go.Proofs.Ytldkdndgnojepaa.Heap
open Go Go.Proofs Go.RowKit Go.Shelf Go.Proofs.Ytldkdndgnojepaa.Own Go.Proofs.YtldkdndgnojepaaW.PrintWords Go.Proofs.YtldkdndgnojepaaW.PrintLast Go.Proofs.YtldkdndgnojepaaW.PrintMore
set_option linter.unusedVariables false
set_option linter.unusedSimpArgs false
attribute [local go_sem] Oper.semAt_some
def flat (l : List Tm) : List Value := l.flatMap Tm.cells
theorem flat_snoc (l : List Tm) (x : Tm) : flat (l ++ [x]) = flat l ++ x.cells := by simp [flat]
theorem cells_three (W : World) (a b c : Value) (e : TypeId) : ∀ j u, [a, b, c][j]? = some u → (W.alloc (.cells #[a, b, c] e)).cell? ((⟨W.heap.size, 0, none⟩ : Addr).add j) = some u := by
  intro j u hj
  have h0 : (W.alloc (.cells #[a, b, c] e)).heap[W.heap.size]? = some (.cells #[a, b, c] e) := World.alloc_heap_new W _
  have h1 : (⟨W.heap.size, 0, none⟩ : Addr).add j = ⟨W.heap.size, j, none⟩ := by
    simp only [Addr.add]; split
    · simp_all
    · simp
  rw [h1]
  unfold World.cell?
  rw [h0]
  simpa using hj
theorem cells_of {W : World} {B : Nat} {e : TypeId} {a b c : Value} (h : W.heap[B]? = some (.cells #[a, b, c] e (0, 0))) : W.cell? ⟨B, 0, none⟩ = some a ∧ W.cell? ⟨B, 1, none⟩ = some b ∧ W.cell? ⟨B, 2, none⟩ = some c := by
  refine ⟨?_, ?_, ?_⟩ <;> simp [World.cell?, h]
set_option maxRecDepth 100000 in
set_option maxHeartbeats 4000000 in
theorem appendSeq_in (F : Fence) (n : Nat) (hF : F.fn 46) (hV : F.fn 41) (hro : F.round = none) (hn : 4 ≤ n) (Bs : Nat) (A : Option Addr) (c : Nat) (zs : List Tm) (hsm : zs.length ≤ 1000000) (w : World) (hBs : Bs < w.heap.size)
    (hc : w.cell? ⟨Bs, 0, none⟩ = some (.slice A zs.length c)) (hR : ∀ W', Below w.heap.size w W' → kTm.C W' A zs.length zs) :
    CallsIn F n Try.prog 46 #[.slice none 0 0, .func (.func 41) #[] #[.pointer (some ⟨Bs, 0, none⟩)]] w fun e W' => ∃ v, e = .returned v ∧ W'.ownsRow w.heap.size 61 3 v zs.length (flat zs) ∧ Below w.heap.size w W' := by
  have h1 : 1 ≤ n := by omega
  obtain ⟨i0, hi, hz0, hz1, hz2⟩ := info_parts infoT
  refine callsIn_of_wp_marks Try.func46 rfl hF ?_ hro
  simp only [Try.ntmps46, List.size_toArray, List.length_cons, List.length_nil, Nat.reduceAdd, Nat.reduceSub, Array.replicate_succ, Array.replicate_zero, List.push_toArray, List.append_toArray, List.nil_append, List.cons_append]
  gi_wp2
  have bO := Boxed.new w 39 (.slice none 0 0)
  have hB0 : Below w.heap.size w (w.alloc (.cells #[.slice none 0 0] 39)) := (Below.refl _ w).alloc (Nat.le_refl _) _
  have hcW := (hB0.cell (p := ⟨Bs, 0, none⟩) hBs).trans hc
  have hsW : (w.alloc (.cells #[.slice none 0 0] 39)).heap.size = w.heap.size + 1 := by simp
  refine wpIn_rangeFunc_ownH hro h1 (gf := 41) (lb := #[.pointer (some ⟨Bs, 0, none⟩)]) rfl hV (enters_of Try.func41 (by kernel_rfl) rfl)
    (values_stops F (n - 1) hV hro (by omega) Bs w.heap.size A c zs hsm (w.alloc (.cells #[.slice none 0 0] 39)) (by omega) (by omega) hcW (fun W' h => hR W' (hB0.trans h))) belowK_t (belowK_b (by omega)) (Below.refl _ _) (fun _ => rfl)
    (fun pre W => (∃ v, Boxed W w.heap.size 39 v ∧ W.ownsRow w.heap.size 61 3 v pre.length (flat pre) ∧ (v = .slice none 0 0 ↔ pre.length = 0)) ∧ Below w.heap.size w W)
    (fun _ _ _ => False)
    (OwnFrom.and (Own.from (holdsRow_own w.heap.size w.heap.size 39 61 3 (fun pre : List Tm => pre.length) flat (fun (pre : List Tm) v => v = .slice none 0 0 ↔ pre.length = 0)) _) (ownFrom_below (Nat.le_refl _) (by omega)))
    (fun _ _ _ _ _ hs _ _ => hs)
    ⟨⟨_, bO, World.ownsRow_nil _ _ _ _, by simp⟩, hB0⟩
    (fun x a' W => ∃ Bx, W.heap[Bx]? = some (.cells #[.int .i64 x.t, .int .i64 x.s, .int .i64 x.g] 61 (0, 0)) ∧ a' = { tmps := #[.slice none 0 0, .func (.func 41) #[] #[.pointer (some ⟨Bs, 0, none⟩)], .pointer (some ⟨w.heap.size, 0, none⟩), undef, .slice none 0 0, .pointer (some ⟨Bx, 0, none⟩), .func (.func 41) #[] #[.pointer (some ⟨Bs, 0, none⟩)], x.agg, undef, undef, undef, undef, undef], defers := [] })
    (fun x a' _ X Y row hs hg hr => by
      obtain ⟨Bx, q0, q3⟩ := hs
      refine ⟨Bx, (hg.block Bx (Array.getElem?_eq_some_iff.1 q0).1 (fun e => ?_)).trans q0, q3⟩
      obtain ⟨o, ho, hc⟩ := (hr Bx e.symm).2
      rw [q0] at ho; cases ho; cases hc)
    ?assign ?body ?done ?stop
  case assign =>
    rintro l pre x W K ⟨⟨v, hv, hrow, hnil⟩, hB⟩ hK
    unfold Tm.agg
    gi_wp2
    exact hK _ _ ((KeepsOthers.alloc _ _).from _) ((Below.refl _ W).alloc hB.size _) ⟨⟨v, hv.alloc _, hrow.alloc _, hnil⟩, hB.alloc hB.size _⟩ ⟨W.heap.size, World.alloc_heap_new W _, rfl⟩
  case body =>
    rintro l pre x a' W hl - ⟨⟨v, hv, hrow, -⟩, hB⟩ ⟨Bx, q, rfl⟩ hlt
    obtain ⟨q0, q1, q2⟩ := cells_of q
    have hcv := hv.cell
    unfold Tm.agg
    gi_wp2_with (gi_at_builtin; refine wpListIn_append_own _ rfl _ _ 39 rfl w.heap.size 61 i0 (.agg #[.int .i64 0, .int .i64 0, .int .i64 0]) 3 24 Try.underlying39 hi hz0 hz1 hz2 rfl (by decide) _ _ _ rfl (hrow.alloc _) ⟨W.heap.size, 0, none⟩ 1 1 x.cells rfl rfl (cells_three _ _ _ _ _) (by simp [Value.oneCell', Tm.cells]) (by have := (by decide : 1000000 ≤ maxLen); omega) (by omega) (by have := hB.size; simp; omega) ?_; intro v' w1 hown' hgrow _; obtain ⟨g', cap', rfl⟩ := ownsRow_succ hown'; obtain ⟨hv1, hv2, hr2, hk2, hb2⟩ := hv.appended (by decide) hrow hB.size (Nat.le_refl _) hown' hgrow; have hc1 := hv1.cell; have hf1 := hv1.frozen)
    exact ⟨hk2.from _, hb2, ⟨_, hv2, by rw [flat_snoc, List.length_append]; exact hr2, by simp⟩, hB.trans hb2⟩
  case done =>
    rintro D ys W hD rfl ⟨⟨v, hv, hrow, -⟩, hB⟩ hK
    have hcv := hv.cell
    gi_wp2
    refine ⟨by simp, .inl ⟨_, _, rfl, run_takeDeferred hK, ?_⟩⟩
    exact ⟨_, results_tmp rfl _ _ _, v, rfl, ownsRow_putObj hrow _ hK rfl, hB.trans (belowK_b (w := w) (Nat.le_refl _) W D _ _ (by omega) hK rfl rfl)⟩
  case stop =>
    rintro D c pre W _ _ h _
    exact h.elim
end Go.Proofs.Ytldkdndgnojepaa.Heap
namespace Go.Proofs.Ytldkdndgnojepaa.Heap
open Go Go.RowKit Go.Proofs.Ytldkdndgnojepaa.Own Go.Proofs.YtldkdndgnojepaaW.PrintWords Go.Proofs.YtldkdndgnojepaaW.PrintLast Go.Proofs.YtldkdndgnojepaaW.PrintMore
set_option linter.unusedVariables false
set_option linter.unusedSimpArgs false
theorem sgn_neg (a b : Int) : sgn a b = - sgn b a := by unfold sgn; split <;> split <;> (try split) <;> omega
theorem sgn_bd (a b : Int) : -1 ≤ sgn a b ∧ sgn a b ≤ 1 := by unfold sgn; split <;> (try split) <;> omega
theorem sgn_zero (a b : Int) : sgn a b = 0 ↔ a = b := by unfold sgn; split <;> (try split) <;> omega
theorem sgn_le (a b : Int) : sgn a b ≤ 0 ↔ a ≤ b := by unfold sgn; split <;> (try split) <;> omega
theorem cmp_neg (x y : Tm) : cmpT x y = - cmpT y x := by
  unfold cmpT
  rw [sgn_neg x.t y.t, sgn_neg x.s y.s, sgn_neg x.g y.g]
  split <;> split <;> (try split) <;> (try split) <;> omega
theorem cmp_bd (x y : Tm) : -1 ≤ cmpT x y ∧ cmpT x y ≤ 1 := by
  have h1 := sgn_bd x.t y.t
  have h2 := sgn_bd x.s y.s
  have h3 := sgn_bd x.g y.g
  unfold cmpT
  split <;> (try split) <;> omega
theorem cmp_zero (x y : Tm) : cmpT x y = 0 ↔ x = y := by
  have h1 := sgn_zero x.t y.t
  have h2 := sgn_zero x.s y.s
  have h3 := sgn_zero x.g y.g
  obtain ⟨a, b, c⟩ := x
  obtain ⟨d, e, f⟩ := y
  simp only at h1 h2 h3
  unfold cmpT
  simp only [Tm.mk.injEq]
  split
  · omega
  · split
    · omega
    · omega
theorem cmp_le (x y : Tm) : cmpT x y ≤ 0 ↔ x.t < y.t ∨ x.t = y.t ∧ (x.s < y.s ∨ x.s = y.s ∧ x.g ≤ y.g) := by
  have h1 := sgn_zero x.t y.t
  have h2 := sgn_zero x.s y.s
  have h4 := sgn_le x.t y.t
  have h5 := sgn_le x.s y.s
  have h6 := sgn_le x.g y.g
  unfold cmpT
  split
  · omega
  · split
    · omega
    · omega
theorem cmp_trans (x y z : Tm) (h1 : cmpT x y ≤ 0) (h2 : cmpT y z ≤ 0) : cmpT x z ≤ 0 := by
  rw [cmp_le] at *
  omega
theorem cmp_v (x y : Tm) (w : World) {d : Int} (h : cmpT x y = d) : Calls Try.prog 33 #[.agg #[.int .i64 x.t, .int .i64 x.s, .int .i64 x.g], .agg #[.int .i64 y.t, .int .i64 y.s, .int .i64 y.g]] w fun e w' => e = .returned (.int .i64 d) ∧ Below w.heap.size w w' := h ▸ cmp_calls x y w
end Go.Proofs.Ytldkdndgnojepaa.Heap
namespace Go.Proofs.Ytldkdndgnojepaa.Heap
set_option linter.unusedVariables false
set_option linter.unusedSimpArgs false
def tat (l : List Tm) (i : Nat) : Tm := l.getD i zeroTm
def le (x y : Tm) : Prop := cmpT x y ≤ 0
theorem le_refl (x : Tm) : le x x := by unfold le; rw [(cmp_zero x x).mpr rfl]; omega
theorem le_trans {x y z : Tm} (h1 : le x y) (h2 : le y z) : le x z := cmp_trans x y z h1 h2
theorem le_of_not {x y : Tm} (h : ¬ le x y) : le y x := by
  unfold le at *
  have := cmp_neg x y
  omega
theorem tat_get {l : List Tm} {i : Nat} (h : i < l.length) : tat l i = l[i] := by unfold tat; rw [List.getD_eq_getElem?_getD, List.getElem?_eq_getElem h]; rfl
theorem tat_mem {l : List Tm} {i : Nat} (h : i < l.length) : tat l i ∈ l := by rw [tat_get h]; exact List.getElem_mem _
theorem ahd_iff {l : List Tm} {i k : Nat} (hi : i < l.length) (hk : k < l.length) : ahd l i k = true ↔ ¬ le (tat l k) (tat l i) := by
  unfold ahd le
  rw [dif_pos ⟨hi, hk⟩, decide_eq_true_eq, tat_get hi, tat_get hk]
  have := cmp_neg l[i] l[k]
  omega
theorem tat_swp {l : List Tm} {i k : Nat} (hi : i < l.length) (hk : k < l.length) (j : Nat) : tat (swp l i k) j = if j = k then tat l i else if j = i then tat l k else tat l j := by
  rw [tat_get hi, tat_get hk]
  unfold swp
  rw [dif_pos ⟨hi, hk⟩]
  unfold tat
  simp only [List.getD_eq_getElem?_getD, List.getElem?_set, List.length_set]
  by_cases h1 : j = k
  · subst h1
    rw [if_pos rfl, if_pos hk, if_pos rfl]; rfl
  · rw [if_neg (Ne.symm h1), if_neg h1]
    by_cases h2 : j = i
    · subst h2
      rw [if_pos rfl, if_pos hi, if_pos rfl]; rfl
    · rw [if_neg (Ne.symm h2), if_neg h2]
def isHeap (l : List Tm) : Prop := ∀ j, 0 < j → j < l.length → le (tat l ((j - 1) / 2)) (tat l j)
structure UpInv (l : List Tm) (i : Nat) : Prop where
  rest : ∀ j, 0 < j → j < l.length → j ≠ i → le (tat l ((j - 1) / 2)) (tat l j)
  kids : ∀ j, 0 < j → j < l.length → (j - 1) / 2 = i → 0 < i → le (tat l ((i - 1) / 2)) (tat l j)
theorem UpInv.step {l : List Tm} {i : Nat} (h : UpInv l i) (h0 : 0 < i) (hi : i < l.length) (hlt : ¬ le (tat l ((i - 1) / 2)) (tat l i)) : UpInv (swp l i ((i - 1) / 2)) ((i - 1) / 2) := by
  have hlt' := le_of_not hlt
  obtain ⟨p, hp⟩ : ∃ p, p = (i - 1) / 2 := ⟨_, rfl⟩
  rw [← hp] at hlt' ⊢
  have hpi : p < i := by omega
  have hpl : p < l.length := by omega
  have sw := tat_swp hi hpl
  refine ⟨fun j j0 jl jp => ?_, fun j j0 jl jp p0 => ?_⟩
  · rw [swp_len] at jl
    by_cases e1 : j = i
    · subst e1
      rw [← hp, sw, sw, if_pos rfl, if_neg jp, if_pos rfl]
      exact hlt'
    · rw [sw j, if_neg jp, if_neg e1, sw]
      by_cases e2 : (j - 1) / 2 = i
      · rw [if_neg (by omega), if_pos e2, hp]
        exact h.kids j j0 jl e2 h0
      · by_cases e3 : (j - 1) / 2 = p
        · rw [if_pos e3]
          have := h.rest j j0 jl e1
          rw [e3] at this
          exact le_trans hlt' this
        · rw [if_neg e3, if_neg e2]
          exact h.rest j j0 jl e1
  · rw [swp_len] at jl
    have hq := h.rest p p0 hpl (by omega)
    rw [sw ((p - 1) / 2), if_neg (by omega), if_neg (by omega), sw j]
    by_cases e1 : j = i
    · rw [if_neg (by omega), if_pos e1]; exact hq
    · rw [if_neg (by omega), if_neg e1]
      have := h.rest j j0 jl e1
      rw [jp] at this
      exact le_trans hq this
theorem UpInv.done {l : List Tm} {i : Nat} (h : UpInv l i) (hd : i = 0 ∨ le (tat l ((i - 1) / 2)) (tat l i)) : isHeap l := fun j j0 jl => by
  by_cases e : j = i
  · subst e
    rcases hd with hd | hd
    · omega
    · exact hd
  · exact h.rest j j0 jl e
theorem up_heap : ∀ (f : Nat) (l : List Tm) (i : Nat), i ≤ f → i < l.length → UpInv l i → isHeap (upL f l i)
  | 0, l, i, hf, hi, h => h.done (.inl (by omega))
  | f + 1, l, i, hf, hi, h => by
    simp only [upL]
    by_cases h0 : 0 < i
    · have hk : (i - 1) / 2 < l.length := by omega
      by_cases hb : ahd l i ((i - 1) / 2) = true
      · rw [if_pos ⟨h0, hb⟩]
        exact up_heap f _ _ (by omega) (by rw [swp_len]; omega) (h.step h0 hi ((ahd_iff hi hk).mp hb))
      · rw [if_neg (fun h => hb h.2)]
        exact h.done (.inr (Classical.byContradiction fun hc => hb ((ahd_iff hi hk).mpr hc)))
    · rw [if_neg (fun h => h0 h.1)]
      exact h.done (.inl (by omega))
theorem swp_perm (l : List Tm) (i k : Nat) : (swp l i k).Perm l := by
  unfold swp
  split
  · rename_i h
    exact List.set_set_perm h.1 h.2
  · exact List.Perm.refl _
theorem up_perm : ∀ (f : Nat) (l : List Tm) (i : Nat), (upL f l i).Perm l
  | 0, l, i => List.Perm.refl _
  | f + 1, l, i => by
    simp only [upL]
    split
    · exact (up_perm f _ _).trans (swp_perm _ _ _)
    · exact List.Perm.refl _
theorem push_perm (l : List Tm) (x : Tm) : (pushL l x).Perm (x :: l) := (up_perm _ _ _).trans (List.perm_append_singleton x l)
theorem tat_append {l : List Tm} {x : Tm} {j : Nat} (h : j < l.length) : tat (l ++ [x]) j = tat l j := by
  unfold tat
  rw [List.getD_eq_getElem?_getD, List.getD_eq_getElem?_getD, List.getElem?_append_left h]
theorem push_heap {l : List Tm} (h : isHeap l) (x : Tm) : isHeap (pushL l x) := by
  unfold pushL
  refine up_heap _ _ _ (Nat.le_refl _) (by simp) ⟨fun j j0 jl jn => ?_, fun j j0 jl jp i0 => ?_⟩
  · rw [List.length_append, List.length_singleton] at jl
    rw [tat_append (by omega), tat_append (by omega)]
    exact h j j0 (by omega)
  · rw [List.length_append, List.length_singleton] at jl
    omega
structure DnInv (l : List Tm) (i : Nat) : Prop where
  rest : ∀ j, 0 < j → j < l.length → (j - 1) / 2 ≠ i → le (tat l ((j - 1) / 2)) (tat l j)
  kids : ∀ j, 0 < j → j < l.length → (j - 1) / 2 = i → 0 < i → le (tat l ((i - 1) / 2)) (tat l j)
/-- The least of a place and those below it. -/
theorem leastOf_spec {l : List Tm} {i : Nat} (hi : i < l.length) : (∀ j, 0 < j → j < l.length → (j - 1) / 2 = i → le (tat l (leastOf l i)) (tat l j)) ∧ le (tat l (leastOf l i)) (tat l i) ∧ (leastOf l i = i ∨ (leastOf l i - 1) / 2 = i ∧ 0 < leastOf l i ∧ leastOf l i < l.length) := by
  have key : ∀ a k, a < l.length → le (tat l (pick1 l a k)) (tat l a) ∧ (k < l.length → le (tat l (pick1 l a k)) (tat l k)) ∧ (pick1 l a k = a ∨ pick1 l a k = k ∧ k < l.length) := fun a k ha => by
    unfold pick1
    by_cases hk : k < l.length
    · by_cases hb : ahd l k a = true
      · rw [if_pos ⟨hk, hb⟩]
        exact ⟨le_of_not ((ahd_iff hk ha).mp hb), fun _ => le_refl _, .inr ⟨rfl, hk⟩⟩
      · rw [if_neg (fun h => hb h.2)]
        exact ⟨le_refl _, fun _ => Classical.byContradiction fun hc => hb ((ahd_iff hk ha).mpr hc), .inl rfl⟩
    · rw [if_neg (fun h => hk h.1)]
      exact ⟨le_refl _, fun h => absurd h hk, .inl rfl⟩
  obtain ⟨a1, a2, a3⟩ := key i (2 * i + 1) hi
  unfold leastOf
  generalize pick1 l i (2 * i + 1) = a at a1 a2 a3 ⊢
  have hal : a < l.length := by rcases a3 with a3 | a3 <;> omega
  obtain ⟨b1, b2, b3⟩ := key a (2 * i + 2) hal
  generalize pick1 l a (2 * i + 2) = m at b1 b2 b3 ⊢
  refine ⟨fun j j0 jl jp => ?_, le_trans b1 a1, ?_⟩
  · have : j = 2 * i + 1 ∨ j = 2 * i + 2 := by omega
    rcases this with rfl | rfl
    · exact le_trans b1 (a2 jl)
    · exact b2 jl
  · rcases b3 with b3 | b3
    · rcases a3 with a3 | a3
      · exact .inl (by omega)
      · exact .inr ⟨by omega, by omega, by omega⟩
    · exact .inr ⟨by omega, by omega, by omega⟩
theorem DnInv.step {l : List Tm} {i : Nat} (h : DnInv l i) (hi : i < l.length) (hm : leastOf l i ≠ i) : DnInv (swp l i (leastOf l i)) (leastOf l i) := by
  obtain ⟨s1, s2, s3⟩ := leastOf_spec hi
  generalize leastOf l i = m at s1 s2 s3 hm ⊢
  have s3 := s3.resolve_left hm
  have sw := tat_swp hi s3.2.2
  refine ⟨fun j j0 jl jp => ?_, fun j j0 jl jp m0 => ?_⟩
  · rw [swp_len] at jl
    by_cases e1 : j = i
    · subst e1
      rw [sw j, if_neg (by omega), if_pos rfl, sw, if_neg (by omega), if_neg (by omega)]
      exact h.kids m s3.2.1 s3.2.2 s3.1 j0
    · by_cases e2 : j = m
      · subst e2
        rw [sw j, if_pos rfl, sw, if_neg (by omega), if_pos s3.1]
        exact s2
      · rw [sw j, if_neg e2, if_neg e1, sw, if_neg (by omega)]
        by_cases e3 : (j - 1) / 2 = i
        · rw [if_pos e3]; exact s1 j j0 jl e3
        · rw [if_neg e3]; exact h.rest j j0 jl e3
  · rw [swp_len] at jl
    rw [sw ((m - 1) / 2), if_neg (by omega), if_pos s3.1, sw j, if_neg (by omega), if_neg (by omega)]
    have := h.rest j j0 jl (by omega)
    rw [jp] at this
    exact this
theorem DnInv.done {l : List Tm} {i : Nat} (h : DnInv l i) (hm : i < l.length → leastOf l i = i) : isHeap l := fun j j0 jl => by
  by_cases e : (j - 1) / 2 = i
  · have hi : i < l.length := by omega
    have := (leastOf_spec hi).1 j j0 jl e
    rw [hm hi] at this
    rw [e]; exact this
  · exact h.rest j j0 jl e
theorem down_heap : ∀ (f : Nat) (l : List Tm) (i : Nat), l.length - i < f → DnInv l i → isHeap (downL f l i)
  | 0, l, i, hf, h => by omega
  | f + 1, l, i, hf, h => by
    simp only [downL]
    by_cases hm : leastOf l i = i
    · rw [if_pos hm]; exact h.done (fun _ => hm)
    · rw [if_neg hm]
      have hc := (leastOf_cases l i).resolve_left hm
      exact down_heap f _ _ (by rw [swp_len]; omega) (h.step (by omega) hm)
theorem down_perm : ∀ (f : Nat) (l : List Tm) (i : Nat), (downL f l i).Perm l
  | 0, l, i => List.Perm.refl _
  | f + 1, l, i => by
    simp only [downL]
    split
    · exact List.Perm.refl _
    · exact (down_perm f _ _).trans (swp_perm _ _ _)
theorem tat_take {l : List Tm} {n j : Nat} (h : j < n) : tat (l.take n) j = tat l j := by
  unfold tat
  rw [List.getD_eq_getElem?_getD, List.getD_eq_getElem?_getD, List.getElem?_take, if_pos h]
theorem pop_heap {x : Tm} {l : List Tm} (h : isHeap (x :: l)) : isHeap (popL (x :: l)) := by
  unfold popL
  have hn : (x :: l).length - 1 = l.length := by simp
  rw [hn]
  refine down_heap _ _ _ (by rw [List.length_take, swp_len]; omega) ⟨fun j j0 jl jp => ?_, fun j j0 jl jp i0 => by omega⟩
  rw [List.length_take, swp_len] at jl
  have h1 : 0 < (x :: l).length := by simp
  have h2 : l.length < (x :: l).length := by simp
  have h3 : j < (x :: l).length := by simp; omega
  rw [tat_take (by omega), tat_take (by omega), tat_swp h1 h2, tat_swp h1 h2, if_neg (by omega), if_neg (by omega), if_neg (by omega), if_neg (by omega)]
  exact h j j0 h3
theorem pop_perm (x : Tm) (l : List Tm) : (popL (x :: l)).Perm l := by
  unfold popL
  have hn : (x :: l).length - 1 = l.length := by simp
  rw [hn]
  refine (down_perm _ _ _).trans ?_
  have h1 : 0 < (x :: l).length := by simp
  have h2 : l.length < (x :: l).length := by simp
  have hl : (swp (x :: l) 0 l.length).length = l.length + 1 := by rw [swp_len]; simp
  have e : swp (x :: l) 0 l.length = (swp (x :: l) 0 l.length).take l.length ++ [x] := by
    have h3 := List.take_succ_eq_append_getElem (show l.length < (swp (x :: l) 0 l.length).length by omega)
    rw [show l.length + 1 = (swp (x :: l) 0 l.length).length by omega, List.take_length] at h3
    have h4 : (swp (x :: l) 0 l.length)[l.length]'(by omega) = x := by
      rw [← tat_get (by omega), tat_swp h1 h2, if_pos rfl]; rfl
    rw [h4] at h3
    exact h3
  have hp := swp_perm (x :: l) 0 l.length
  rw [e] at hp
  exact ((List.perm_append_singleton x _).symm.trans hp).cons_inv
theorem head_least {x : Tm} {l : List Tm} (h : isHeap (x :: l)) : ∀ y ∈ x :: l, le x y := by
  have key : ∀ n j, j ≤ n → j < (x :: l).length → le x (tat (x :: l) j) := by
    intro n
    induction n with
    | zero => intro j hj hl; have h0 : j = 0 := (by omega); subst h0; exact le_refl _
    | succ n ih =>
      intro j hj hl
      by_cases j0 : j = 0
      · subst j0; exact le_refl _
      · exact le_trans (ih ((j - 1) / 2) (by omega) (by omega)) (h j (by omega) hl)
  intro y hy
  obtain ⟨j, hj, rfl⟩ := List.getElem_of_mem hy
  have := key j j (Nat.le_refl _) hj
  rw [tat_get hj] at this
  exact this
theorem heap_nil : isHeap [] := fun j _ h => by simp at h
end Go.Proofs.Ytldkdndgnojepaa.Heap
namespace Go.Proofs.Ytldkdndgnojepaa.Up
open Go
set_option linter.unusedVariables false
set_option linter.unusedSimpArgs false

theorem ask_up {α : Type} (q : Ask α) (w : World) : w.drawn ≤ (w.ask q).2.drawn := by
  induction q generalizing w with
  | done a => simp [World.ask]
  | ask what range k ih =>
    simp only [World.ask]
    split
    · exact ih _ _
    · exact Nat.le_trans (Nat.le_succ _) (ih _ { w with drawn := w.drawn + 1 })

theorem sys_up (w : World) (c : Sys) : w.drawn ≤ (w.sys c).2.drawn := by
  have h := ask_up (Kernel.perform c w.os) w
  unfold World.sys
  split
  · exact Nat.le_refl _
  · rename_i r os w2 h2
    rw [h2] at h
    exact h

theorem viewStore_up {p : Program} {w w' : World} {a : Addr} {u : TypeId} {k : Addr} {v : Value} {at_ : Bool} {l : List Addr} (h : w.viewStore p a u k v at_ = .ok (w', l)) : w'.drawn = w.drawn := by
  unfold World.viewStore at h
  simp only [bind, Except.bind, pure, Except.pure, throw, throwThe, MonadExceptOf.throw] at h
  repeat' (split at h <;> try contradiction)
  all_goals (cases h; rfl)

theorem farStore_up {p : Program} {w w' : World} {a : Addr} {v : Value} {at_ : Bool} {l : List Addr} (h : w.farStore p a v at_ = .ok (w', l)) : w'.drawn = w.drawn := by
  unfold World.farStore at h
  split at h
  · split at h
    · rename_i r h1
      cases h
      exact viewStore_up h1
    · cases h
  · cases h

theorem freeze_up (w : World) (a : Addr) (n : Nat) : (w.freeze a n).drawn = w.drawn := by
  unfold World.freeze; split <;> rfl

def Result.world {α : Type} : Result α → World
  | .ok _ w => w
  | .halt _ w => w

theorem run_up {α : Type} (p : Program) (s : Sem α) (w : World) : w.drawn ≤ (Result.world (s.run p w)).drawn := by
  induction s generalizing w with
  | pure a => exact Nat.le_refl _
  | load m a k ih =>
    simp only [Sem.run]
    split
    · exact ih _ _
    · split
      · exact ih _ _
      · exact Nat.le_refl _
  | store m a v k ih =>
    have key : w.drawn ≤ (Result.world (match w.cell? a with
      | some _ => if w.frozen? a then .halt (.unsupported (.unsafePointer "a write to bytes that a string shares")) w else k.run p (w.setCell a v)
      | none => match w.farStore p a v (m == .atomic) with
        | .ok (w, _) => k.run p w
        | .error h => .halt h w)).drawn := by
      split
      · split
        · exact Nat.le_refl _
        · exact ih (w.setCell a v)
      · split
        · rename_i w' l h2
          have := farStore_up h2
          have := ih w'
          omega
        · exact Nat.le_refl _
    cases v <;> simp only [Sem.run] <;> first | exact Nat.le_refl _ | exact key
  | new o k ih => simp only [Sem.run]; exact ih _ { w with heap := w.heap.push o }
  | shape r k ih => simp only [Sem.run]; exact ih _ _
  | freeze a n k ih => simp only [Sem.run]; have := ih (w.freeze a n); rw [freeze_up] at this; exact this
  | frozen a k ih => simp only [Sem.run]; exact ih _ _
  | getObj r k ih =>
    simp only [Sem.run]
    split
    · exact Nat.le_refl _
    · exact ih _ _
    · exact Nat.le_refl _
  | setObj r o k ih =>
    simp only [Sem.run]
    split
    · exact Nat.le_refl _
    · exact ih { w with heap := w.heap.setIfInBounds r o }
    · exact Nat.le_refl _
  | choose q k ih =>
    simp only [Sem.run]
    split
    · exact ih _ _
    · exact Nat.le_trans (Nat.le_succ _) (ih _ { w with drawn := w.drawn + 1 })
  | sys c k ih => simp only [Sem.run]; exact Nat.le_trans (sys_up w c) (ih _ _)
  | program k ih => simp only [Sem.run]; exact ih _ _
  | mark m k ih => simp only [Sem.run]; exact ih _
  | halt h => exact Nat.le_refl _

theorem runT_fst {α : Type} (p : Program) (s : Sem α) (w : World) (es : Array Event) : (s.runT p w es).1 = s.run p w := by
  induction s generalizing w es with
  | pure a => rfl
  | load m a k ih =>
    simp only [Sem.run, Sem.runT]
    split
    · exact ih _ _ _
    · split
      · exact ih _ _ _
      · rfl
  | store m a v k ih =>
    cases v <;> simp only [Sem.run, Sem.runT] <;> first | rfl | (split <;> (first | rfl | (split <;> first | rfl | exact ih _ _)))
  | new o k ih => simp only [Sem.run, Sem.runT]; exact ih _ _ _
  | shape r k ih => simp only [Sem.run, Sem.runT]; exact ih _ _ _
  | freeze a n k ih => simp only [Sem.run, Sem.runT]; exact ih _ _
  | frozen a k ih => simp only [Sem.run, Sem.runT]; exact ih _ _ _
  | getObj r k ih =>
    simp only [Sem.run, Sem.runT]
    split
    · rfl
    · exact ih _ _ _
    · rfl
  | setObj r o k ih =>
    simp only [Sem.run, Sem.runT]
    split
    · rfl
    · exact ih _ _
    · rfl
  | choose q k ih =>
    simp only [Sem.run, Sem.runT]
    split
    · exact ih _ _ _
    · exact ih _ _ _
  | sys c k ih => simp only [Sem.run, Sem.runT]; exact ih _ _ _
  | program k ih => simp only [Sem.run, Sem.runT]; exact ih _ _ _
  | mark m k ih => simp only [Sem.run, Sem.runT]; exact ih _ _
  | halt h => rfl
end Go.Proofs.Ytldkdndgnojepaa.Up
namespace Go.Proofs.Ytldkdndgnojepaa.Up
open Go
set_option linter.unusedVariables false
set_option linter.unusedSimpArgs false

/-- A goroutine's step, whose world has been asked at least 'n' times (nothing is said of a program that has ended). -/
def GUp (n : Nat) : GStep → Prop
  | .go _ w _ => n ≤ w.drawn
  | .comm _ _ _ _ w _ => n ≤ w.drawn
  | .spawn _ _ w _ => n ≤ w.drawn
  | .count _ w _ => n ≤ w.drawn
  | .timer _ _ w _ => n ≤ w.drawn
  | .alone _ _ w _ => n ≤ w.drawn
  | .newcoro _ _ _ w _ => n ≤ w.drawn
  | .coroswitch _ _ _ w _ => n ≤ w.drawn
  | .collect _ w _ => n ≤ w.drawn
  | .watch _ w _ => n ≤ w.drawn
  | .ended _ _ _ => True

theorem GUp.after {n : Nat} {es : Array Event} {g : GStep} (h : GUp n g) : GUp n (g.after es) := by
  cases g <;> exact h

theorem gup_ite {n : Nat} {c : Prop} [Decidable c] {a b : GStep} (ha : c → GUp n a) (hb : ¬ c → GUp n b) : GUp n (if c then a else b) := by
  split
  · exact ha (by assumption)
  · exact hb (by assumption)

theorem ok_up {α : Type} {p : Program} {s : Sem α} {w w' : World} {a : α} {n : Nat} (h : s.run p w = .ok a w') (hn : n ≤ w.drawn) : n ≤ w'.drawn := by
  have := run_up p s w
  rw [h] at this
  exact Nat.le_trans hn this

theorem halt_up {α : Type} {p : Program} {s : Sem α} {w w' : World} {a : Halt} {n : Nat} (h : s.run p w = .halt a w') (hn : n ≤ w.drawn) : n ≤ w'.drawn := by
  have := run_up p s w
  rw [h] at this
  exact Nat.le_trans hn this

theorem okT_up {α : Type} {p : Program} {s : Sem α} {w w' : World} {es : Array Event} {a : α} {n : Nat} (h : (s.runT p w es).1 = .ok a w') (hn : n ≤ w.drawn) : n ≤ w'.drawn := by
  rw [runT_fst] at h; exact ok_up h hn

theorem haltT_up {α : Type} {p : Program} {s : Sem α} {w w' : World} {es : Array Event} {a : Halt} {n : Nat} (h : (s.runT p w es).1 = .halt a w') (hn : n ≤ w.drawn) : n ≤ w'.drawn := by
  rw [runT_fst] at h; exact halt_up h hn

theorem dieOf_up {fr : Frame} {a : List ByteArray} {m : String} {b : Bool} {w : World} {n : Nat} (hn : n ≤ w.drawn) : GUp n (dieOf fr a m b w) := hn
theorem endThrow_up {fr : Frame} {m : String} {w : World} {n : Nat} (hn : n ≤ w.drawn) : GUp n (endThrow fr m w) := hn

theorem endWith_up {w : World} {fd : Nat} {t : ByteArray} {o : Outcome} {n : Nat} : GUp n (endWith w fd t o) := by
  simp only [endWith]
  repeat' (first | trivial | split)

theorem endPrinting_up {p : Program} {fr : Frame} {v : Value} {w : World} {n : Nat} (hn : n ≤ w.drawn) : GUp n (endPrinting p fr v w) := by
  simp only [endPrinting]
  split
  · exact endThrow_up hn
  · trivial

theorem endFatal_up {p : Program} {fr : Frame} {cs : List Frame} {d : Option Dying} {m : String} {w : World} {n : Nat} (hn : n ≤ w.drawn) : GUp n (endFatal p fr cs d m w) := by
  simp only [endFatal]
  split
  · rename_i h; exact dieOf_up (ok_up h hn)
  · trivial
  · trivial

theorem writeOn_up {p : Program} {fr : Frame} {d : Dying} {f : Fatal} {w : World} {n : Nat} (hn : n ≤ w.drawn) : GUp n (writeOn p fr d f w) := by
  simp only [writeOn]
  split
  · trivial
  · split
    · rename_i h; exact okT_up (congrArg Prod.fst h) hn
    · rename_i h; exact haltT_up (congrArg Prod.fst h) hn
    · trivial
    · trivial

theorem die_up {p : Program} {fr : Frame} {d : Dying} {w : World} {n : Nat} (hn : n ≤ w.drawn) : GUp n (die p fr d w) := by
  unfold die
  split
  · exact writeOn_up hn
  · split
    · split
      · exact hn
      · exact endWith_up
    · simp only
      split
      · exact hn
      · split
        · rename_i h; exact ok_up h hn
        · trivial
      · refine GUp.after ?_
        split
        · rename_i h; exact okT_up h hn
        · rename_i h; exact okT_up h hn
        · trivial
        · rename_i h; exact endPrinting_up (haltT_up h hn)
        · trivial
      · trivial

theorem doReturn_up {p : Program} {main : Bool} {fr : Frame} {cs : List Frame} {d : Option Dying} {v : Value} {w : World} {n : Nat} (hn : n ≤ w.drawn) : GUp n (doReturn p main fr cs d v w) := by
  unfold doReturn
  split
  · split <;> exact hn
  · split
    · exact hn
    · trivial
    · split
      · exact hn
      · split
        · exact hn
        · trivial

theorem callDeferred_up {p : Program} {fr : Frame} {cs : List Frame} {d : Option Dying} {df : Deferred} {w : World} {n : Nat} (hn : n ≤ w.drawn) : GUp n (callDeferred p fr cs d df w) := by
  unfold callDeferred
  refine gup_ite (fun _ => trivial) fun _ => ?_
  · rcases hr : (invoke df.target df.args).runT p w #[] with ⟨r, es⟩
    have hw : n ≤ (Result.world r).drawn := by
      have h1 := runT_fst p (invoke df.target df.args) w #[]
      rw [hr] at h1
      have h2 := run_up p (invoke df.target df.args) w
      rw [← h1] at h2
      exact Nat.le_trans hn h2
    clear hr
    refine GUp.after ?_
    cases r with
    | ok v w' =>
      cases v <;> first | exact hw | trivial | skip
      case recover => simp only; split <;> exact hw
      case coroswitch c e => cases e <;> first | exact hw | trivial
      case alone e v => cases e <;> first | exact hw | trivial
    | halt h w' =>
      cases h <;> first | exact hw | trivial | exact endFatal_up hw | exact endThrow_up hw

theorem unwind_up {p : Program} {main : Bool} {fr : Frame} {cs : List Frame} {d : Option Dying} {w : World} {n : Nat} (hn : n ≤ w.drawn) : GUp n (unwind p main fr cs d w) := by
  unfold unwind
  split
  · refine GUp.after ?_
    split
    · rename_i h; exact okT_up h hn
    · trivial
  · exact callDeferred_up hn
  · split
    · trivial
    · split
      · trivial
      · split
        · exact hn
        · split
          · split
            · exact hn
            · split
              · rename_i h; exact ok_up h hn
              · trivial
              · trivial
          · split
            · exact endPrinting_up hn
            · trivial
    · split
      · exact doReturn_up hn
      · refine GUp.after ?_
        split
        · rename_i h; exact doReturn_up (okT_up h hn)
        · trivial
        · trivial

theorem early_up {p : Program} {fr : Frame} {cs : List Frame} {d : Option Dying} {g : Nat} {w : World} {n : Nat} (hn : n ≤ w.drawn) : GUp n (early p fr cs d g w) := by
  have ny : ∀ w : World, n ≤ w.drawn → GUp n (match w.heap[g]? with
    | some (.pending c elem) => .go { frame := fr, callers := cs, status := .running, dying := d } { w with heap := w.heap.setIfInBounds g (.cells c elem) }
    | _ => .ended (.stuck "early: the variable does not wait" (fr.pos p)) w) := by
    intro w hn
    split
    · exact hn
    · trivial
  simp only [early]
  repeat' (first | exact ny _ hn | trivial | exact hn | (rename_i h; exact ny _ (ok_up h hn)) | (rename_i h; exact (ok_up h hn : n ≤ World.drawn _)) | split)
end Go.Proofs.Ytldkdndgnojepaa.Up
namespace Go.Proofs.Ytldkdndgnojepaa.Up
open Go Go.Sort Go.RowKit
set_option linter.unusedVariables false
set_option linter.unusedSimpArgs false

theorem gup_ifp {n : Nat} {c : Prop} [Decidable c] {a b : Result Next × Array Event} {P : Result Next × Array Event → Prop} (ha : P a) (hb : P b) : P (if c then a else b) := by
  split
  · exact ha
  · exact hb

theorem apply_up {p : Program} {main listen : Bool} {fr : Frame} {cs : List Frame} {d : Option Dying} {s : Sem Next} {w : World} {n : Nat} (hn : n ≤ w.drawn) : GUp n (stepG.apply p listen fr cs d s w) := by
  unfold stepG.apply
  rcases hr : (if listen = true then s.runT p w #[] else (s.run p w, #[])) with ⟨r, es⟩
  have hw : n ≤ (Result.world r).drawn := by
    have h1 : (if listen = true then s.runT p w #[] else (s.run p w, #[])).1 = s.run p w := by
      split
      · exact runT_fst _ _ _ _
      · rfl
    rw [hr] at h1
    have h2 := run_up p s w
    rw [← h1] at h2
    exact Nat.le_trans hn h2
  clear hr
  refine GUp.after ?_
  cases r with
  | ok v w' =>
    cases v <;> first | exact hw | trivial | skip
    case recover => simp only; split <;> exact hw
    case spawn => exact gup_ite (fun _ => endThrow_up hw) fun _ => hw
    case callThen => simp only; split <;> exact hw
    case row => simp only; split <;> exact hw
    case stack => simp only; split <;> exact hw
  | halt h w' =>
    cases h <;> first | exact hw | trivial | exact endFatal_up hw | exact endThrow_up hw | skip
    case unsupported u => cases u <;> first | trivial | exact early_up hw

theorem oper_up {p : Program} {listen : Bool} {fr : Frame} {cs : List Frame} {d : Option Dying} {w : World} {n : Nat} (hn : n ≤ w.drawn) : GUp n (stepG.oper p listen fr cs d w) := by
  unfold stepG.oper
  split
  · trivial
  · split
    · exact apply_up (main := false) hn
    · exact apply_up (main := false) hn

theorem gup_elim {α : Type} {n : Nat} {o : Option α} {a : GStep} {f : α → GStep} (ha : GUp n a) (hf : ∀ x, GUp n (f x)) : GUp n (o.elim a f) := by
  cases o with
  | none => exact ha
  | some x => exact hf x

theorem exec_up {p : Program} {main listen : Bool} {fr : Frame} {cs : List Frame} {d : Option Dying} {w : World} {n : Nat} (hn : n ≤ w.drawn) : GUp n (stepG.exec p main listen fr cs d w) := by
  unfold stepG.exec
  dsimp only
  split
  all_goals repeat' (first
    | exact hn
    | trivial
    | exact apply_up (main := main) hn
    | exact oper_up hn
    | (rename_i h; exact doReturn_up (okT_up h hn))
    | (rename_i h; exact apply_up (main := main) (okT_up h hn))
    | (rename_i h; exact (okT_up h hn : n ≤ World.drawn _))
    | (rename_i h; exact (haltT_up h hn : n ≤ World.drawn _))
    | (rename_i h; exact (ok_up h hn : n ≤ World.drawn _))
    | refine GUp.after ?_
    | refine gup_elim ?_ fun _ => ?_
    | refine gup_ite (fun _ => ?_) fun _ => ?_
    | split)

theorem stepG_up {p : Program} {main listen : Bool} {g : Goroutine} {w : World} : GUp w.drawn (stepG p main g w listen) := by
  unfold stepG
  simp only
  split
  · exact die_up (Nat.le_refl _)
  · exact exec_up (Nat.le_refl _)
  · exact unwind_up (Nat.le_refl _)

/-- What the machine has stepped to: nothing is said of a program that has ended. -/
def SUp (n : Nat) : Stepped → Prop
  | .next m => n ≤ m.world.drawn
  | .ended _ _ => True

theorem sup_ite {n : Nat} {c : Prop} [Decidable c] {a b : Stepped × Array MemOp} (ha : c → SUp n a.1) (hb : ¬ c → SUp n b.1) : SUp n (if c then a else b).1 := by
  split
  · exact ha (by assumption)
  · exact hb (by assumption)

theorem waitingAt_up {rest : Rest} {cases_ : Array CommCase} {w w' : World} (h : waitingAt rest cases_ w = some w') : w'.drawn = w.drawn := by
  unfold waitingAt at h
  split at h
  · split at h
    · cases h; rfl
    · cases h
  · cases h; rfl

theorem communicate_up {p : Program} {rest : Rest} {gs : Array Goroutine} {i : Nat} {g : Goroutine} {cases_ : Array CommCase} {blocking : Bool} {shape : CommShape} {w : World} {n : Nat} (hn : n ≤ w.drawn) :
    SUp n (communicate p rest gs i g cases_ blocking shape w).1 := by
  unfold communicate
  refine sup_ite (fun _ => trivial) fun _ => ?_
  refine sup_ite (fun _ => sup_ite (fun _ => ?_) fun _ => hn) fun _ => ?_
  · split
    · rename_i h; have := waitingAt_up h; exact (by rw [this]; exact hn : n ≤ World.drawn _)
    · trivial
  · simp only
    split
    · trivial
    · rename_i h
      have h1 := ok_up h hn
      clear h
      split
      · split
        · rename_i h; exact halt_up h h1
        · trivial
      · exact h1
      · exact h1
      · split
        · exact h1
        · split
          · rename_i h; have h2 := ok_up h h1; exact h2
          · trivial
      · exact h1
      · exact h1
      · trivial

theorem look_up {p : Program} {gs : Array Goroutine} {rest : Rest} {w : World} {n : Nat} (hn : n ≤ w.drawn) : SUp n (look p gs rest w) := by
  simp only [look]
  repeat' (first | trivial | (rename_i h; exact (ok_up h hn : n ≤ World.drawn _)) | split)

theorem serve_up {p : Program} {m : Machine} {k : Nat} {n : Nat} (hn : n ≤ m.world.drawn) : SUp n (serve p m k) := by
  unfold serve
  split
  · trivial
  · exact hn
  · simp only
    split
    · trivial
    · exact hn

theorem drain_up (w : World) (c : Nat) : (drain w c).2.drawn = w.drawn := by
  unfold drain; split <;> rfl

theorem retime_up (m : Machine) (k : Nat) (t : Timer) (a b : Nat) : (retime m k t a b).2.world.drawn = m.world.drawn := by
  unfold retime
  cases h : t.chan with
  | none => rfl
  | some c => exact drain_up _ _

theorem timerOp_up {m m' : Machine} {op : TimerOp} {v : Value} (h : timerOp m op = .ok (v, m')) : m'.world.drawn = m.world.drawn := by
  have hnamed : ∀ (m0 m : Machine) (var : Addr) (a : Nat) (b : Timer → Nat) (v : Value) (m' : Machine), timerOp.named m0 var (fun k t => retime m k t a (b t)) = .ok (v, m') → m'.world.drawn = m.world.drawn := by
    intro m0 m var a b v m' h
    unfold timerOp.named at h
    split at h
    · rename_i k hk
      have : m' = (retime m k (m0.rest.timers.getD k default) a (b (m0.rest.timers.getD k default))).2 := by
        injection h with h
        have h2 : retime m k (m0.rest.timers.getD k default) a (b (m0.rest.timers.getD k default)) = (v, m') := h
        rw [h2]
      rw [this]
      exact retime_up _ _ _ _ _
    · cases h
  cases op with
  | new t =>
    simp only [timerOp] at h
    split at h
    · cases h; rfl
    · split at h
      · split at h
        · cases h
        · cases h; rfl
      · cases h
  | stop var => exact hnamed m m var 0 (fun t => t.period) v m' h
  | reset var a b =>
    simp only [timerOp] at h
    split at h
    · rename_i m1 h1
      have e1 : m1.world.drawn = m.world.drawn := by
        unfold timerOp.opened at h1
        split at h1
        · split at h1
          · cases h1; rfl
          · cases h1
        · cases h1; rfl
      rw [← e1]
      exact hnamed m m1 var a (fun _ => b) v m' h
    · cases h
  | deadline => simp only [timerOp] at h; cases h; rfl

theorem runT_machine_up {p : Program} {m : Machine} {i : Nat} {listen : Bool} : SUp m.world.drawn (runT p m i listen).1 := by
  have hg := fun g => @stepG_up p (i == 0) listen g m.world
  unfold runT
  dsimp only
  have h := hg (m.gs.swapAt! i { (default : Goroutine) with status := .finished }).1
  generalize stepG p (i == 0) (m.gs.swapAt! i { (default : Goroutine) with status := .finished }).1 m.world listen = s at h ⊢
  split
  · trivial
  · exact communicate_up h
  · exact h
  · exact h
  · show SUp _ (if _ then _ else _)
    split
    · trivial
    · exact h
  · exact h
  · exact look_up h
  · exact h
  · exact h
  · split
    · exact h
    · exact h
    · trivial
  · split
    · rename_i h1
      have := timerOp_up h1
      exact (by rw [this]; exact h : m.world.drawn ≤ World.drawn _)
    · exact h
    · trivial
    · trivial

/-- What a move has brought. -/
def MUp (n : Nat) : Move → Prop
  | .goroutine m _ => n ≤ m.world.drawn
  | .machine s _ => SUp n s

theorem mup_ite {n : Nat} {c : Prop} [Decidable c] {a b : Move} (ha : c → MUp n a) (hb : ¬ c → MUp n b) : MUp n (if c then a else b) := by
  split
  · exact ha (by assumption)
  · exact hb (by assumption)

theorem askOn_up {p : Program} {m : Machine} {n : Nat} (hn : n ≤ m.world.drawn) : MUp n (askOn p m) := by
  have hpick : ∀ m' : Machine, n ≤ m'.world.drawn → MUp n (match (choose (.sched (runnable m.gs m.world.os.mono).length)).run p m'.world with
      | .halt _ w => .machine (.ended (.stuck "sched" "") w)
      | .ok k world =>
        if (runnable m.gs m.world.os.mono).length ≤ 1 then .goroutine { m' with world } ((runnable m.gs m.world.os.mono).getD k 0) else
        match (choose (.extern "sched.slice" 65536)).run p world with
        | .halt _ w => .machine (.ended (.stuck "sched.slice" "") w)
        | .ok n world => .goroutine { m' with world, rest := { m'.rest with slice := if n = 0 then none else some ((runnable m.gs m.world.os.mono).getD k 0, n) } } ((runnable m.gs m.world.os.mono).getD k 0)) := by
    intro m' hn
    split
    · trivial
    · rename_i h
      have h1 := ok_up h hn
      refine mup_ite (fun _ => h1) fun _ => ?_
      split
      · trivial
      · rename_i h; exact ok_up h h1
  unfold askOn
  dsimp only
  split
  · trivial
  · rename_i h
    have h1 := ok_up h hn
    clear h
    refine mup_ite (fun _ => serve_up h1) fun _ => ?_
    split
    · split
      · exact h1
      · refine mup_ite (fun _ => h1) fun _ => ?_
        split
        · trivial
        · trivial
    · split
      · exact hpick { m with world := _ } h1
      · split
        · trivial
        · rename_i h; exact hpick { m with world := _ } (ok_up h h1)
        · rename_i h; have h2 := ok_up h h1; exact h2
        · rename_i h; have h2 := ok_up h h1; exact hpick _ h2

theorem ask_up' {p : Program} {m : Machine} {n : Nat} (hn : n ≤ m.world.drawn) : MUp n (ask p m) := by
  unfold ask
  refine mup_ite (fun _ => ?_) fun _ => askOn_up hn
  split
  · trivial
  · rename_i h
    have h1 := ok_up h hn
    clear h
    have h2 := @look_up p m.gs m.rest _ n h1
    split
    · rename_i h3; rw [h3] at h2; exact askOn_up h2
    · exact h2
  · rename_i h
    exact askOn_up (ok_up h hn)

theorem move_up {p : Program} {m : Machine} : MUp m.world.drawn (move p m) := by
  unfold move
  split
  · exact mup_ite (fun _ => Nat.le_refl _) fun _ => trivial
  · split
    · exact mup_ite (fun _ => Nat.le_refl _) fun _ => ask_up' (Nat.le_refl _)
    · exact ask_up' (Nat.le_refl _)

theorem step_up {p : Program} {m m' : Machine} (h : step p m = .next m') : m.world.drawn ≤ m'.world.drawn := by
  have hm := @move_up p m
  unfold step stepT at h
  split at h
  · rename_i m1 i h1
    rw [h1] at hm
    have h2 := @runT_machine_up p m1 i true
    rw [h] at h2
    exact Nat.le_trans hm h2
  · rename_i s ops h1
    rw [h1] at hm
    simp only at h
    rw [h] at hm
    exact hm

theorem steps_up {p : Program} {m m' : Machine} (h : Steps p m m') : m.world.drawn ≤ m'.world.drawn := by
  obtain ⟨k, hk⟩ := h
  induction k generalizing m with
  | zero => cases hk; exact Nat.le_refl _
  | succ k ih =>
    simp only [runN] at hk
    split at hk
    · rename_i m1 h1
      exact Nat.le_trans (step_up h1) (ih hk)
    · rename_i h1
      rw [hk] at h1
      exact absurd rfl (h1 m')

theorem calls_up {P : Program} {f : FuncId} {args : Array Value} {w : World} {R : Ending → World → Prop} (h : Calls P f args w R) (hr : ∀ e w', R e w' → ∃ v, e = .returned v) :
    Calls P f args w fun e w' => R e w' ∧ w.drawn ≤ w'.drawn := by
  intro cs
  obtain ⟨e, w', fr, hR, hc, hf, hl⟩ := h cs
  obtain ⟨v, rfl⟩ := hr e w' hR
  exact ⟨_, w', fr, ⟨hR, steps_up hc⟩, hc, hf, hl⟩

/-- A call that leaves what was there as it was: how often the tape has been asked, and which blocks have been laid. -/
theorem calls_grown {P : Program} {f : FuncId} {args : Array Value} {w : World} {v : Value} (h : Calls P f args w fun e w' => e = .returned v ∧ Below w.heap.size w w') :
    Calls P f args w fun e w' => e = .returned v ∧ ∃ q os', w' = grow (w.drewN q) os' := by
  refine (calls_up h fun e w' h => ⟨v, h.1⟩).mono ?_
  rintro e w' ⟨⟨rfl, hb⟩, hu⟩
  refine ⟨rfl, w'.drawn - w.drawn, ?_⟩
  obtain ⟨⟨d, os'⟩, hp⟩ := regrown_of_below hb
  refine ⟨os', ?_⟩
  have hd : w'.drawn = d := by rw [hp]; rfl
  have hq : w.drawn + (w'.drawn - w.drawn) = d := by omega
  have e1 : w.drewN (w'.drawn - w.drawn) = redrawn w d := by
    simp only [World.drewN, redrawn, hq]
  rw [e1]
  exact hp

end Go.Proofs.Ytldkdndgnojepaa.Up
namespace Go.Proofs
open Go.Shelf
def Try.sortL_ren : Go.Shelf.Ren := ⟨fun | 6 => 40 | 15 => 48 | 14 => 47 | 28 => 59 | 29 => 60 | 20 => 51 | 21 => 52 | 22 => 53 | 23 => 54 | 24 => 55 | 25 => 56 | 26 => 57 | 27 => 58 | 46 => 61 | 47 => 62 | 48 => 63 | 49 => 64 | 50 => 65 | 57 => 66 | n => n, fun | 22 => 39 | 24 => 61 | 25 => 77 | 3 => 3 | 39 => 91 | 0 => 0 | 53 => 102 | 55 => 104 | 4 => 4 | 46 => 95 | 45 => 94 | 50 => 99 | 5 => 5 | 9 => 9 | 66 => 105 | 70 => 109 | 76 => 111 | 77 => 112 | n => n, fun | n => n⟩
theorem Try.sortL : Go.Proofs.SlLaysF0.n6 Try.prog Try.sortL_ren := {
  mixed := by kernel_rfl
  f6 := ⟨Try.f40.name, by decide, Try.func40.trans (congrArg some (by kernel_rfl))⟩
  f14 := ⟨Try.f47.name, by decide, Try.func47.trans (congrArg some (by kernel_rfl))⟩
  f15 := Try.func48.trans (congrArg some (by kernel_rfl))
  f20 := ⟨Try.f51.name, by decide, Try.func51.trans (congrArg some (by kernel_rfl))⟩
  f21 := ⟨Try.f52.name, by decide, Try.func52.trans (congrArg some (by kernel_rfl))⟩
  f22 := ⟨Try.f53.name, by decide, Try.func53.trans (congrArg some (by kernel_rfl))⟩
  f23 := ⟨Try.f54.name, by decide, Try.func54.trans (congrArg some (by kernel_rfl))⟩
  f24 := ⟨Try.f55.name, by decide, Try.func55.trans (congrArg some (by kernel_rfl))⟩
  f25 := ⟨Try.f56.name, by decide, Try.func56.trans (congrArg some (by kernel_rfl))⟩
  f26 := ⟨Try.f57.name, by decide, Try.func57.trans (congrArg some (by kernel_rfl))⟩
  f27 := ⟨Try.f58.name, by decide, Try.func58.trans (congrArg some (by kernel_rfl))⟩
  f28 := Try.func59.trans (congrArg some (by kernel_rfl))
  f29 := Try.func60.trans (congrArg some (by kernel_rfl))
  f46 := ⟨Try.f61.name, by decide, Try.func61.trans (congrArg some (by kernel_rfl))⟩
  f47 := Try.func62.trans (congrArg some (by kernel_rfl))
  f48 := Try.func63.trans (congrArg some (by kernel_rfl))
  f49 := ⟨Try.f64.name, by decide, Try.func64.trans (congrArg some (by kernel_rfl))⟩
  f50 := ⟨Try.f65.name, by decide, Try.func65.trans (congrArg some (by kernel_rfl))⟩
  f57 := ⟨Try.f66.name, by decide, Try.func66.trans (congrArg some (by kernel_rfl))⟩
  t0 := Try.underlying0
  a0 := Try.isAgg0
  z0 := Try.sizeOf0
  v0 := Try.zeroValue0
  t3 := Try.underlying3
  a3 := Try.isAgg3
  z3 := Try.sizeOf3
  v3 := Try.zeroValue3
  t4 := Try.underlying4
  a4 := Try.isAgg4
  z4 := Try.sizeOf4
  v4 := Try.zeroValue4
  t5 := Try.underlying5
  a5 := Try.isAgg5
  z5 := Try.sizeOf5
  v5 := Try.zeroValue5
  t9 := Try.underlying9
  a9 := Try.isAgg9
  z9 := Try.sizeOf9
  v9 := Try.zeroValue9
  t22 := Try.underlying39
  a22 := Try.isAgg39
  z22 := Try.sizeOf39
  v22 := Try.zeroValue39
  t25 := Try.underlying77
  a25 := Try.isAgg77
  z25 := Try.sizeOf77
  v25 := Try.zeroValue77
  t39 := Try.underlying91
  a39 := Try.isAgg91
  z39 := Try.sizeOf91
  v39 := Try.zeroValue91
  t45 := Try.underlying94
  a45 := Try.isAgg94
  z45 := Try.sizeOf94
  v45 := Try.zeroValue94
  t46 := Try.underlying95
  a46 := Try.isAgg95
  z46 := Try.sizeOf95
  v46 := Try.zeroValue95
  t50 := Try.underlying99
  a50 := Try.isAgg99
  z50 := Try.sizeOf99
  v50 := Try.zeroValue99
  t53 := Try.underlying102
  a53 := Try.isAgg102
  z53 := Try.sizeOf102
  v53 := Try.zeroValue102
  t55 := Try.underlying104
  a55 := Try.isAgg104
  z55 := Try.sizeOf104
  v55 := Try.zeroValue104
  t66 := Try.underlying105
  a66 := Try.isAgg105
  z66 := Try.sizeOf105
  v66 := Try.zeroValue105
  t70 := Try.underlying109
  a70 := Try.isAgg109
  z70 := Try.sizeOf109
  v70 := Try.zeroValue109
  t76 := Try.underlying111
  a76 := Try.isAgg111
  z76 := Try.sizeOf111
  v76 := Try.zeroValue111
  t77 := Try.underlying112
  a77 := Try.isAgg112
  z77 := Try.sizeOf112
  v77 := Try.zeroValue112 }
end Go.Proofs
namespace Go.Proofs.Ytldkdndgnojepaa.Heap
open Go Go.Proofs Go.RowKit Go.Shelf Go.Sort Go.Proofs.Ytldkdndgnojepaa.Own Go.Proofs.YtldkdndgnojepaaW.PrintWords Go.Proofs.YtldkdndgnojepaaW.PrintLast Go.Proofs.YtldkdndgnojepaaW.PrintMore
set_option linter.unusedVariables false
set_option linter.unusedSimpArgs false
instance : Inhabited Tm := ⟨⟨0, 0, 0⟩⟩
theorem cells_len (x : Tm) : x.cells.length = 3 := rfl
theorem flat_len (l : List Tm) : (flat l).length = l.length * 3 := by
  induction l with
  | nil => rfl
  | cons x l ih => simp only [flat, List.flatMap_cons, List.length_append, List.length_cons] at ih ⊢; rw [ih, cells_len]; omega
theorem flat_get : ∀ (l : List Tm) (t : Nat), t < l.length * 3 → (flat l)[t]? = some ((l[t / 3]!).cells[t % 3]!)
  | [], t, h => by simp at h
  | x :: l, t, h => by
    have e : flat (x :: l) = x.cells ++ flat l := by simp [flat]
    rw [e]
    by_cases ht : t < 3
    · rw [List.getElem?_append_left (by rw [cells_len]; exact ht)]
      have h1 : t / 3 = 0 := by omega
      have h2 : t % 3 = t := by omega
      rw [h1, h2, List.getElem!_cons_zero]
      rw [List.getElem?_eq_getElem (by rw [cells_len]; exact ht), getElem!_pos _ t (by rw [cells_len]; exact ht)]
    · rw [List.getElem?_append_right (by rw [cells_len]; omega), cells_len, flat_get l (t - 3) (by simp at h; omega)]
      have h1 : t / 3 = (t - 3) / 3 + 1 := by omega
      have h2 : t % 3 = (t - 3) % 3 := by omega
      rw [h1, h2, List.getElem!_cons_succ]
theorem flatK_get (l : List Tm) (t : Nat) (h : t < l.length * 3) : (flat l)[t]? = some (flatK Tm.cells 3 l.toArray)[t]! := by
  rw [flat_get l t h, get_flatK _ _ _ _ (by simpa using h)]
  simp
def leB (x y : Tm) : Bool := !(ltOf cmpT) y x
def sortL (l : List Tm) : List Tm := l.mergeSort leB
theorem sortL_len (l : List Tm) : (sortL l).length = l.length := (List.mergeSort_perm l _).length_eq
theorem leB_iff (x y : Tm) : leB x y = true ↔ le x y := by
  unfold leB ltOf le
  have := cmp_neg x y
  simp
  omega
theorem swo : SWO (ltOf cmpT) where
  irrefl x := by have := (leB_iff x x).mpr (le_refl x); unfold leB at this; simpa using this
  trans x y z h1 h2 := by
    have a := leB_iff y x
    have b := leB_iff z y
    have c := leB_iff z x
    unfold leB at a b c
    rw [h1] at a; rw [h2] at b
    by_cases h3 : ltOf cmpT x z = true
    · exact h3
    · rw [Bool.not_eq_true] at h3
      rw [h3] at c
      have hzx : le z x := c.mp rfl
      have hyx : ¬ le y x := fun h => by have := a.mpr h; simp at this
      have hzy : ¬ le z y := fun h => by have := b.mpr h; simp at this
      exact absurd (le_trans (le_of_not hzy) hzx) hyx
  ntrans x y z h1 h2 := by
    have a := leB_iff y x
    have b := leB_iff z y
    have c := leB_iff z x
    unfold leB at a b c
    rw [h1] at a; rw [h2] at b
    have := c.mpr (le_trans (b.mp rfl) (a.mp rfl))
    simpa using this
theorem parts (x y : Tm) (h1 : ltOf cmpT x y = false) (h2 : ltOf cmpT y x = false) : x = y := by
  have a := (leB_iff y x).mp (by unfold leB; rw [h1]; rfl)
  have b := (leB_iff x y).mp (by unfold leB; rw [h2]; rfl)
  have hn := cmp_neg x y
  unfold le at a b
  exact (cmp_zero x y).mp (by omega)
set_option maxHeartbeats 1000000 in
theorem sort_calls (w : World) (n₀ : Nat) (v : Value) (l : List Tm) (hl : l.length ≤ 1000000) (hown : w.ownsRow n₀ 61 3 v l.length (flat l)) :
    Calls Try.prog 40 #[v, .func (.func 33) #[] #[]] w fun e w' => e = .returned (.tuple #[]) ∧ w'.ownsRow n₀ 61 3 v l.length (flat (sortL l)) ∧ Below n₀ w w' := by
  rcases hown.2 with ⟨rfl, h0⟩ | ⟨g, cap, cur, rfl, hg, hb, h1, h2, h3, h4⟩
  · have hl0 : l = [] := List.length_eq_zero_iff.mp h0
    subst hl0
    refine Calls.mono (AnyF.slices_SortFunc_none Try.sortL none 0 (.func (.func 33) #[] #[]) w) ?_
    rintro e w' ⟨rfl, rfl⟩
    have e0 : sortL [] = [] := List.length_eq_zero_iff.mp (sortL_len [])
    rw [e0]
    exact ⟨rfl, hown, Below.refl _ _⟩
  · have hlt : g < w.heap.size := (Array.getElem?_eq_some_iff.1 hb).1
    have hcl : l.length ≤ cap := h1
    have hsz : cur.size = cap * 3 := h3
    have hH : HoldsK Tm.cells 3 w g 0 l.toArray := fun j hj => by
      rw [size_flatK] at hj
      have hj' : j < l.length * 3 := by simpa using hj
      have hc := hown.cells (g := g) rfl j _ (flatK_get l j hj')
      have e1 : (⟨g, 0, none⟩ : Addr).add j = ⟨g, 0 + j, none⟩ := by simp only [Addr.add]; split <;> simp_all
      rw [e1] at hc
      exact ⟨hc, by simp [World.frozen?, hb]⟩
    have hcon := AnyQ.slices_SortFunc_total Try.sortL 3 Try.isAgg61 Try.sizeOf61 Tm.cells cells_len (fun x u hu => by simp [Tm.cells] at hu; rcases hu with rfl | rfl | rfl <;> rfl) cmpT swo 33 #[] g 0 cap l.toArray w (enters_of Try.func33 (by kernel_rfl) rfl)
      (fun m os dk hs x y => Go.Proofs.Ytldkdndgnojepaa.Up.calls_grown (cmp_calls x y _)) hH hlt (by simp; omega) parts
    refine Calls.mono hcon ?_
    rintro e w' ⟨rfl, n, os, rfl⟩
    refine ⟨rfl, ?_, ?_⟩
    · refine ⟨by rw [flat_len, sortL_len], .inr ⟨g, cap, putCells id 0 (flatK Tm.cells 3 (sortL l).toArray) cur, rfl, hg, ?_, h1, h2, ?_, ?_⟩⟩
      · show ((mapBlock (Sort.ahead w n) g (putCells id 0 (flatK Tm.cells 3 (sortL l).toArray))).heap ++ os)[g]? = _
        have hm : (mapBlock (Sort.ahead w n) g (putCells id 0 (flatK Tm.cells 3 (sortL l).toArray))).heap[g]? = some (.cells (putCells id 0 (flatK Tm.cells 3 (sortL l).toArray) cur) 61 (0, 0)) := by
          show (w.heap.modify g _)[g]? = _
          rw [Array.getElem?_modify, if_pos rfl, hb]
          rfl
        rw [Array.getElem?_append_left (Array.getElem?_eq_some_iff.1 hm).1]
        exact hm
      · simp [putCells, hsz]
      · refine List.ext_getElem? fun i => ?_
        by_cases hi : i < l.length * 3
        · rw [List.getElem?_take, if_pos hi, flatK_get (sortL l) i (by rw [sortL_len]; exact hi)]
          have hic : i < cur.size := by rw [hsz]; exact Nat.lt_of_lt_of_le hi (Nat.mul_le_mul_right _ hcl)
          rw [Array.getElem?_toList]
          unfold putCells
          rw [Array.getElem?_mapIdx, Array.getElem?_eq_getElem hic]
          simp [sortL_len, hi]
        · rw [List.getElem?_eq_none (by simp; omega), List.getElem?_eq_none (by rw [flat_len, sortL_len]; omega)]
    · refine ⟨rfl, rfl, rfl, ?_, fun k hk => ?_⟩
      · show w.heap.size ≤ ((w.heap.modify g _) ++ os).size
        simp
      · show ((w.heap.modify g _) ++ os)[k]? = _
        rw [Array.getElem?_append_left (by simp; omega), Array.getElem?_modify, if_neg (by omega)]
end Go.Proofs.Ytldkdndgnojepaa.Heap
namespace Go.Proofs.Ytldkdndgnojepaa.Heap
open Go Go.Proofs Go.RowKit Go.Shelf Go.Proofs.Ytldkdndgnojepaa.Own Go.Proofs.YtldkdndgnojepaaW.PrintWords Go.Proofs.YtldkdndgnojepaaW.PrintLast Go.Proofs.YtldkdndgnojepaaW.PrintMore
set_option linter.unusedVariables false
set_option linter.unusedSimpArgs false
def freeF : Fence := { fn := fun _ => True }
theorem appendSeq_calls (Bs : Nat) (A : Option Addr) (c : Nat) (zs : List Tm) (hsm : zs.length ≤ 1000000) (w : World) (hBs : Bs < w.heap.size)
    (hc : w.cell? ⟨Bs, 0, none⟩ = some (.slice A zs.length c)) (hR : kTm.C w A zs.length zs) :
    Calls Try.prog 46 #[.slice none 0 0, .func (.func 41) #[] #[.pointer (some ⟨Bs, 0, none⟩)]] w fun e W' => ∃ v, e = .returned v ∧ W'.ownsRow w.heap.size 61 3 v zs.length (flat zs) ∧ Below w.heap.size w W' :=
  (appendSeq_in freeF 4 trivial trivial rfl (by omega) Bs A c zs hsm w hBs hc (fun W' h => Kd.C_below hR h)).calls (fun k => by simp [Fence.room, freeF])
theorem values_calls (a : Option Addr) (len cap : Nat) (w : World) :
    Calls Try.prog 32 #[.slice a len cap] w fun e w' => e = .returned (.func (.func 41) #[] #[.pointer (some ⟨w.heap.size, 0, none⟩)]) ∧ w' = w.alloc (.cells #[.slice a len cap] 39) :=
  (values_in freeF 4 trivial rfl a len cap w).calls (fun k => by simp [Fence.room, freeF])
theorem collect_calls (Bs : Nat) (A : Option Addr) (c : Nat) (zs : List Tm) (hsm : zs.length ≤ 1000000) (w : World) (hBs : Bs < w.heap.size)
    (hc : w.cell? ⟨Bs, 0, none⟩ = some (.slice A zs.length c)) (hR : kTm.C w A zs.length zs) :
    Calls Try.prog 39 #[.func (.func 41) #[] #[.pointer (some ⟨Bs, 0, none⟩)]] w fun e W' => ∃ v, e = .returned v ∧ W'.ownsRow w.heap.size 61 3 v zs.length (flat zs) ∧ Below w.heap.size w W' := by
  have hap := appendSeq_calls Bs A c zs hsm w hBs hc hR
  clear hc hR
  go_enter Try.func39, Try.ntmps39
  go_wp2_with (go_at_call 46; (with_reducible refine hap.mono ?_); rintro e w' ⟨v, rfl, hO, hB⟩)
  go_ret
  exact ⟨v, rfl, hO, hB⟩
theorem sorted_calls (Bs : Nat) (A : Option Addr) (c : Nat) (zs : List Tm) (hsm : zs.length ≤ 1000000) (w : World) (hBs : Bs < w.heap.size)
    (hc : w.cell? ⟨Bs, 0, none⟩ = some (.slice A zs.length c)) (hR : kTm.C w A zs.length zs) :
    Calls Try.prog 31 #[.func (.func 41) #[] #[.pointer (some ⟨Bs, 0, none⟩)], .func (.func 33) #[] #[]] w fun e W' => ∃ v, e = .returned v ∧ W'.ownsRow w.heap.size 61 3 v zs.length (flat (sortL zs)) ∧ Below w.heap.size w W' := by
  have hap := collect_calls Bs A c zs hsm w hBs hc hR
  clear hc hR
  go_enter Try.func31, Try.ntmps31
  go_wp2_with (first | (go_at_call 39; (with_reducible refine hap.mono ?_); rintro e w1 ⟨v, rfl, hO, hB⟩; have hso := sort_calls w1 w.heap.size v zs hsm hO) | (go_at_call 40; (with_reducible refine hso.mono ?_); rintro e w2 ⟨rfl, hO2, hB2⟩))
  go_ret
  exact ⟨v, rfl, hO2, hB.trans hB2⟩
theorem M_of (w : World) (base : Nat) (ok : Nat → Prop) (x : Tm) : kTm.M w base ok x x.cells := ⟨[_], [_, _], rfl, rfl, [_], [_], rfl, rfl, rfl⟩
theorem reps_flat : ∀ (l : List Tm) (R : Tm → List Value → Prop), (∀ x, R x x.cells) → Reps R 3 l (flat l)
  | l, R, hR => by
    refine ⟨flat_len l, fun j p hp => ?_⟩
    have hj : j < l.length := (List.getElem?_eq_some_iff.mp hp).1
    have e : ((flat l).drop (j * 3)).take 3 = p.cells := by
      have h1 : ∀ (l : List Tm) (j : Nat) (p : Tm), l[j]? = some p → ((flat l).drop (j * 3)).take 3 = p.cells := by
        intro l
        induction l with
        | nil => intro j p h; simp at h
        | cons x l ih =>
          intro j p h
          have e0 : flat (x :: l) = x.cells ++ flat l := by simp [flat]
          rw [e0]
          cases j with
          | zero => simp at h; subst h; simp [Tm.cells]
          | succ j =>
            have e1 : (j + 1) * 3 = x.cells.length + j * 3 := by rw [cells_len]; omega
            rw [e1, List.drop_append, List.drop_of_length_le (by omega)]
            simp at h
            simpa using ih j p h
      exact h1 l j p hp
    rw [e]; exact hR p
theorem R_of {w : World} {base : Nat} {v : Value} {l : List Tm} (h : w.ownsRow base 61 3 v l.length (flat l)) : kTm.R 61 w base (fun _ => True) v l :=
  ⟨fun _ _ => trivial, flat l, h, reps_flat l _ (fun x => M_of _ _ _ x)⟩
section
variable {w0 w w' : World} {F0 P0 : Nat → Prop} {ts : List Thing} {p eB : Nat} {cells : Array Value} {v : Value} {l : List Tm}
theorem all_st (h : St w0 F0 P0 (boxT p eB cells :: rowT kTm 61 v l :: ts) w) (hv : cells[0]? = some v) (hlen : l.length ≤ 1000000) :
    Calls Try.prog 24 #[.pointer (some ⟨p, 0, none⟩)] w fun e w' => ∃ v', e = .returned v' ∧ w'.ownsRow w.heap.size 61 3 v' l.length (flat (sortL l)) ∧ Below w.heap.size w w' := by
  obtain ⟨A, c, rfl⟩ := h.drop.slice
  obtain ⟨-, -, hC⟩ := h.drop.reads
  obtain ⟨ch, -⟩ := h.box_cell 0 _ hv
  have hso := sorted_calls w.heap.size A c l hlen (w.alloc (.cells #[.slice A l.length c] 39)) (by simp) (Boxed.new w 39 (.slice A l.length c)).cell (Kd.C_alloc hC _)
  have hva := values_calls A l.length c w
  have hB0 : Below w.heap.size w (w.alloc (.cells #[.slice A l.length c] 39)) := (Below.refl _ w).alloc (Nat.le_refl _) _
  clear hC h
  go_enter Try.func24, Try.ntmps24
  go_wp2_with (first | (go_at_call 32; (with_reducible refine hva.mono ?_); rintro e w1 ⟨rfl, rfl⟩) | (go_at_call 31; (with_reducible refine hso.mono ?_); rintro e w2 ⟨v2, rfl, hO2, hB2⟩))
  go_ret
  exact ⟨v2, rfl, own_weaken hO2 (by simp), hB0.trans (hB2.mono (by simp))⟩
theorem all_none (w : World) :
    Calls Try.prog 24 #[.pointer none] w fun e w' => e = .returned (.slice none 0 0) ∧ w' = w := by
  go_enter Try.func24, Try.ntmps24
  go_wp2
  go_ret
  exact ⟨rfl, rfl⟩
theorem Hp.all (h : Hp w0 F0 P0 p l ts w) (hlen : l.length ≤ 1000000) :
    Calls Try.prog 24 #[.pointer (some ⟨p, 0, none⟩)] w fun e w' => ∃ A c, e = .returned (.slice A l.length c) ∧ l.length ≤ c ∧ Hp w0 F0 P0 p l (valT (fun W => kTm.C W A (sortL l).length (sortL l)) :: ts) w' := by
  obtain ⟨v, h⟩ := h
  refine (all_st h rfl hlen).mono ?_
  rintro e w' ⟨v', rfl, hO, hB⟩
  have hO2 : w'.ownsRow w.heap.size 61 3 v' (sortL l).length (flat (sortL l)) := by rw [sortL_len]; exact hO
  have hS := h.got (R_of hO2) hB (Nat.le_refl _)
  obtain ⟨A, c, rfl⟩ := hS.slice
  obtain ⟨-, hc, hV⟩ := hS.freeze
  refine ⟨A, c, by rw [sortL_len], by rw [← sortL_len]; exact hc, v, hV.nth2.nth2⟩
end
end Go.Proofs.Ytldkdndgnojepaa.Heap
namespace Go.Proofs.Ytldkdndgnojepaa.Own
open Go Go.RowKit Go.Proofs.YtldkdndgnojepaaW.PrintWords Go.Proofs.YtldkdndgnojepaaW.PrintLast Go.Proofs.YtldkdndgnojepaaW.PrintMore
section
variable {w0 w w' : World} {F0 P0 : Nat → Prop} {ts : List Thing} {α : Type} {d : Kd α} {e : Nat} {v v' : Value} {l l' : List α}
/-- A row of one's own is turned within its block. -/
theorem St.mod (h : St w0 F0 P0 (rowT d e v l :: ts) w) (hg : w.grownBy w' v.ownBlock) (ho : v'.ownBlock = v.ownBlock) (hN : ∀ ok : Nat → Prop, (∀ k, v'.ownBlock = some k → ok k) → Kd.N d e w' 0 ok v' l') : St w0 F0 P0 (rowT d e v' l' :: ts) w' := by
  obtain ⟨F1, P1, h1, hk⟩ := St.part (ts1 := [rowT d e v l]) h
  obtain ⟨F, ⟨A1, A2, a1, a2, a3, a4⟩, hm⟩ := h1
  have hlt : ∀ k, v.ownBlock = some k → k < w.heap.size := Kd.N_lt a2.2
  have hF : ∀ k, F k ↔ v.ownBlock = some k := fun k => (a1 k).trans ⟨fun c => c.elim (fun q => (a2.1 k).mp q) (fun q => (a4 k q).elim), fun c => .inl ((a2.1 k).mpr c)⟩
  have hF1 : ∀ k, F k → k < w.heap.size → F1 k := fun k hk hlt => (hm.fresh k hk).elim id (fun c => by omega)
  refine hk w' [_] ⟨⟨F, ⟨F, fun _ => False, fun k => by simp, ⟨fun k => by rw [ho]; exact hF k, hN _ (fun k hk => .inl ((hF k).mpr (by rw [← ho]; exact hk)))⟩, fun k _ => id, fun k => id⟩, ⟨hg.os, hg.tape, hg.output, hg.size, fun k hk hnF => hg.block k hk (fun e1 => hnF (hF1 k ((hF k).mpr e1.symm) hk)), fun k hk => .inl (hF1 k hk (hlt k ((hF k).mp hk)))⟩⟩⟩
theorem setCells_heap (g : Nat) : ∀ (vs : List Value) (o : Nat) (w : World) (cur : Array Value) (fr : Nat × Nat), w.heap[g]? = some (.cells cur e fr) → ∃ cur', (w.setCells g o vs).heap[g]? = some (.cells cur' e fr) ∧ cur'.size = cur.size ∧ ∀ t, t < o → cur'[t]? = cur[t]?
  | [], o, w, cur, fr, h => ⟨cur, h, rfl, fun _ _ => rfl⟩
  | x :: r, o, w, cur, fr, h => by
    have h1 : (w.setCell ⟨g, o, none⟩ x).heap[g]? = some (.cells (cur.setIfInBounds o x) e fr) := by
      simp [World.setCell, Array.getElem?_modify, h]
    obtain ⟨cur', h2, h3, h4⟩ := setCells_heap g r (o + 1) _ _ _ h1
    refine ⟨cur', h2, by rw [h3]; simp, fun t ht => (h4 t (by omega)).trans ?_⟩
    rw [Array.getElem?_setIfInBounds_ne (by omega)]
theorem setCells_grown (g : Nat) : ∀ (vs : List Value) (o : Nat) (w : World), w.grownBy (w.setCells g o vs) (some g)
  | [], o, w => ⟨rfl, rfl, rfl, Nat.le_refl _, fun _ _ _ => rfl⟩
  | x :: r, o, w => by
    have h1 := grownBy_setCell_at w g o x
    have h2 := setCells_grown g r (o + 1) (w.setCell ⟨g, o, none⟩ x)
    exact ⟨h2.os.trans h1.os, h2.tape.trans h1.tape, h2.output.trans h1.output, Nat.le_trans h1.size h2.size, fun k hk hne => (h2.block k (Nat.lt_of_lt_of_le hk h1.size) hne).trans (h1.block k hk hne)⟩
where
  grownBy_setCell_at (w : World) (b o : Nat) (v : Value) : w.grownBy (w.setCell ⟨b, o, none⟩ v) (some b) :=
    ⟨rfl, rfl, rfl, by simp, fun k _ hk => Below.heap_setCell w _ v k (fun e => hk (by rw [e]))⟩
end
end Go.Proofs.Ytldkdndgnojepaa.Own
namespace Go.Proofs.Ytldkdndgnojepaa.Heap
open Go Go.Proofs Go.RowKit Go.Shelf Go.Proofs.Ytldkdndgnojepaa.Own Go.Proofs.YtldkdndgnojepaaW.PrintWords Go.Proofs.YtldkdndgnojepaaW.PrintLast Go.Proofs.YtldkdndgnojepaaW.PrintMore
set_option linter.unusedVariables false
set_option linter.unusedSimpArgs false
section
variable {w0 w w' : World} {F0 P0 : Nat → Prop} {ts : List Thing} {v : Value} {l : List Tm}
/-- The block of a row that isn't empty. -/
theorem owns (h : St w0 F0 P0 (rowT kTm 61 v l :: ts) w) (h0 : 0 < l.length) : ∃ g cap cur, v = .slice (some ⟨g, 0, none⟩) l.length cap ∧ w.heap[g]? = some (.cells cur 61 (0, 0)) ∧ l.length ≤ cap ∧ cap ≤ maxLen ∧ cur.size = cap * 3 ∧ cur.toList.take (l.length * 3) = flat l := by
  obtain ⟨ok, hN⟩ := h.row
  have hel := fun (i : Nat) (hi : i < l.length) => elem h hi
  obtain ⟨q0, rows, hl, hR, hf⟩ := hN
  obtain ⟨-, inner, ho, -⟩ := hR
  rcases ho.2 with ⟨hv, h1⟩ | ⟨g, cap, cur, hv, hb, hh, hnc, hcm, hcz, -⟩
  · rw [hl] at h1; omega
  · rw [hl] at hv hnc
    refine ⟨g, cap, cur, hv, hh, hnc, hcm, hcz, List.ext_getElem? fun t => ?_⟩
    by_cases ht : t < l.length * 3
    · rw [List.getElem?_take, if_pos ht, flat_get l t ht, Array.getElem?_toList]
      have hi : t / 3 < l.length := by omega
      obtain ⟨g', c', e1, a0, a1, a2⟩ := hel (t / 3) hi
      rw [hv] at e1
      injection e1 with e1
      injection e1 with e1
      injection e1 with e1
      subst e1
      rw [getElem!_pos l (t / 3) hi]
      generalize l[t / 3] = x at a0 a1 a2
      simp only [World.cell?, hh] at a0 a1 a2
      have h3 : t % 3 = 0 ∨ t % 3 = 1 ∨ t % 3 = 2 := by omega
      rcases h3 with h3 | h3 | h3
      · rw [show t / 3 * 3 = t by omega] at a0; rw [h3]; exact a0
      · rw [show t / 3 * 3 + 1 = t by omega] at a1; rw [h3]; exact a1
      · rw [show t / 3 * 3 + 2 = t by omega] at a2; rw [h3]; exact a2
    · rw [List.getElem?_eq_none (by simp; omega), List.getElem?_eq_none (by rw [flat_len]; omega)]
theorem flat_take (l : List Tm) (i : Nat) (hi : i ≤ l.length) : flat (l.take i) = (flat l).take (i * 3) := by
  have h1 : flat l = flat (l.take i) ++ flat (l.drop i) := by
    unfold flat
    rw [← List.flatMap_append, List.take_append_drop]
  have h2 : (flat (l.take i)).length = i * 3 := by rw [flat_len, List.length_take, Nat.min_eq_left hi]
  rw [h1, ← h2, List.take_left]
theorem zero_cells (w : World) : (zeroValue 61).run Try.prog w = .ok (.agg #[.int .i64 0, .int .i64 0, .int .i64 0]) w := by kernel_rfl
theorem clear_run (ty : TypeId) (w : World) (g o n c : Nat) (cur : Array Value) (hn : 0 < n) (hb : w.heap[g]? = some (.cells cur 61 (0, 0))) (hsz : o + n * 3 ≤ cur.size) :
    (Builtin.clear_ #[39] ty #[.slice (some ⟨g, o, none⟩) n c]).run Try.prog w = .ok (.tuple #[]) (w.setCells g o (Builtin.zeroCells #[.int .i64 0, .int .i64 0, .int .i64 0] n).toList) := by
  have hl : (Builtin.zeroCells #[.int .i64 0, .int .i64 0, .int .i64 0] n).toList.length = n * 3 := by simp [Builtin.zeroCells]
  have hst := run_storeCells_cells (P := Try.prog) g o (Builtin.zeroCells #[.int .i64 0, .int .i64 0, .int .i64 0] n).toList 0 w
    (by rw [hl]; intro j hj; simp only [World.cell?, hb]; rw [Array.getElem?_eq_getElem (by omega)]; rfl)
    (by rw [hl]; intro j hj; simp [World.frozen?, hb])
    (by
      intro u hu
      simp [Builtin.zeroCells] at hu
      obtain ⟨j, -, rfl⟩ := hu
      have h3 : j % 3 = 0 ∨ j % 3 = 1 ∨ j % 3 = 2 := by omega
      rcases h3 with h3 | h3 | h3 <;> rw [h3] <;> rfl)
  simp only [Nat.add_zero] at hst
  obtain ⟨m, rfl⟩ : ∃ m, n = m + 1 := ⟨n - 1, by omega⟩
  simp [Builtin.clear_, run_underlying Try.underlying39, zero_cells, Value.cells, hst]
/-- The rest cleared, the row shortened. -/
theorem cut (h : St w0 F0 P0 (rowT kTm 61 v l :: ts) w) {g c i : Nat} (hv : v = .slice (some ⟨g, 0, none⟩) l.length c) (hi : i ≤ l.length) (h0 : 0 < l.length) (vs : List Value) :
    St w0 F0 P0 (rowT kTm 61 (.slice (some ⟨g, 0, none⟩) i c) (l.take i) :: ts) (w.setCells g (i * 3) vs) := by
  obtain ⟨g', c', cur, hv', hb, h1, h2, h3, h4⟩ := owns h h0
  rw [hv] at hv'
  injection hv' with q1 _ q3
  injection q1 with q1
  injection q1 with q1
  subst q1 q3
  obtain ⟨cur', k1, k2, k3⟩ := setCells_heap g vs (i * 3) w cur (0, 0) hb
  refine h.mod (by rw [hv]; exact setCells_grown g vs (i * 3) w) (by rw [hv]; rfl) (fun ok hok => ?_)
  have hlt : (l.take i).length = i := by rw [List.length_take, Nat.min_eq_left hi]
  have hO : (w.setCells g (i * 3) vs).ownsRow 0 61 3 (.slice (some ⟨g, 0, none⟩) i c) (l.take i).length (flat (l.take i)) := by
    rw [hlt]
    refine ⟨by rw [flat_len, hlt], .inr ⟨g, c, cur', rfl, Nat.zero_le _, k1, by omega, h2, by rw [k2, h3], ?_⟩⟩
    rw [flat_take l i hi, ← h4, List.take_take, Nat.min_eq_left (Nat.mul_le_mul_right _ hi)]
    refine List.ext_getElem? fun t => ?_
    rw [List.getElem?_take, List.getElem?_take]
    split
    · rename_i ht
      rw [Array.getElem?_toList, Array.getElem?_toList]
      exact k3 t ht
    · rfl
  refine Kd.N_mono (Kd.N_bound (Kd.R_N ⟨fun k hk => hk, flat (l.take i), hO, reps_flat _ _ (fun x => M_of _ _ _ x)⟩)) (fun k hk => hok k hk.1)
end
end Go.Proofs.Ytldkdndgnojepaa.Heap
