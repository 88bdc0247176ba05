/- Things in memory, each with blocks of its own, beside values that are only read: what is done to one leaves the others as they were. No condition. -/
import Derived.Test.YtpoecjieagkoaaaWWords
import Derived.Test.YtpoecjieagkoaaaWLast
import Derived.Test.YtpoecjieagkoaaaWMore
import Derived.Test.YtpoecjieagkoaaaWShare
namespace Go.Proofs.Ytpoecjieagkoaaa.Own
open Go Go.RowKit Go.Proofs.YtpoecjieagkoaaaW.PrintWords Go.Proofs.YtpoecjieagkoaaaW.PrintLast Go.Proofs.YtpoecjieagkoaaaW.PrintMore
set_option linter.unusedVariables false
/-- What may have been done: outside of F nothing has turned; what is new in F' is new in memory. -/
structure Moved (F F' : Nat → Prop) (w w' : World) : Prop where
  os : w'.os = w.os
  tape : w'.tape = w.tape
  output : w'.output = w.output
  size : w.heap.size ≤ w'.heap.size
  block : ∀ k, k < w.heap.size → ¬ F k → w'.heap[k]? = w.heap[k]?
  fresh : ∀ k, F' k → F k ∨ w.heap.size ≤ k
/-- A thing: what it says of a world, its own blocks F, and the blocks P that it may read beside them; it hangs on these alone. -/
structure Thing where
  holds : World → (Nat → Prop) → (Nat → Prop) → Prop
  lt : ∀ {w F P}, holds w F P → ∀ k, F k → k < w.heap.size
  mono : ∀ {w F P P'}, holds w F P → (∀ k, P k → P' k) → holds w F P'
  kept : ∀ {w w' F P}, holds w F P → (∀ k, F k ∨ P k → k < w.heap.size → w'.heap[k]? = w.heap[k]?) → w.heap.size ≤ w'.heap.size → holds w' F (fun k => P k ∧ k < w.heap.size)
/-- Things side by side. -/
def SepF : List Thing → World → (Nat → Prop) → (Nat → Prop) → Prop
  | [], _, F, _ => ∀ k, ¬ F k
  | t :: ts, w, F, P => ∃ F1 F2 : Nat → Prop, (∀ k, F k ↔ F1 k ∨ F2 k) ∧ t.holds w F1 P ∧ (∀ k, F1 k → ¬ F2 k) ∧ SepF ts w F2 P
theorem SepF.lt {w : World} : ∀ {ts : List Thing} {F P : Nat → Prop}, SepF ts w F P → ∀ k, F k → k < w.heap.size
  | [], F, P, h, k, hk => (h k hk).elim
  | t :: ts, F, P, ⟨F1, F2, h1, h2, h3, h4⟩, k, hk => ((h1 k).mp hk).elim (fun a => t.lt h2 k a) (fun a => h4.lt k a)
theorem SepF.mono {w : World} : ∀ {ts : List Thing} {F P P' : Nat → Prop}, SepF ts w F P → (∀ k, P k → P' k) → SepF ts w F P'
  | [], F, P, P', h, _ => h
  | t :: ts, F, P, P', ⟨F1, F2, h1, h2, h3, h4⟩, hP => ⟨F1, F2, h1, t.mono h2 hP, h3, h4.mono hP⟩
theorem SepF.kept {w w' : World} (hs : w.heap.size ≤ w'.heap.size) : ∀ {ts : List Thing} {F P : Nat → Prop}, SepF ts w F P → (∀ k, F k ∨ P k → k < w.heap.size → w'.heap[k]? = w.heap[k]?) → SepF ts w' F (fun k => P k ∧ k < w.heap.size)
  | [], F, P, h, _ => h
  | t :: ts, F, P, ⟨F1, F2, h1, h2, h3, h4⟩, hk =>
    ⟨F1, F2, h1, t.kept h2 (fun k a => hk k (a.imp (fun b => (h1 k).mpr (.inl b)) id)) hs, h3, h4.kept hs (fun k a => hk k (a.imp (fun b => (h1 k).mpr (.inr b)) id))⟩
theorem SepF.split {w : World} : ∀ {ts1 ts2 : List Thing} {F P : Nat → Prop}, SepF (ts1 ++ ts2) w F P → ∃ F1 F2, (∀ k, F k ↔ F1 k ∨ F2 k) ∧ SepF ts1 w F1 P ∧ (∀ k, F1 k → ¬ F2 k) ∧ SepF ts2 w F2 P
  | [], ts2, F, P, h => ⟨fun _ => False, F, fun k => by simp, fun k => id, fun k a => a.elim, h⟩
  | t :: ts1, ts2, F, P, ⟨F1, F2, h1, h2, h3, h4⟩ => by
    obtain ⟨G1, G2, g1, g2, g3, g4⟩ := SepF.split h4
    refine ⟨fun k => F1 k ∨ G1 k, G2, fun k => by rw [h1, g1]; exact or_assoc.symm, ⟨F1, G1, fun k => Iff.rfl, h2, fun k a b => h3 k a ((g1 k).mpr (.inl b)), g2⟩, fun k a => ?_, g4⟩
    rcases a with a | a
    · exact fun b => h3 k a ((g1 k).mpr (.inr b))
    · exact g3 k a
theorem SepF.join {w : World} : ∀ {ts1 ts2 : List Thing} {F1 F2 P : Nat → Prop}, SepF ts1 w F1 P → SepF ts2 w F2 P → (∀ k, F1 k → ¬ F2 k) → SepF (ts1 ++ ts2) w (fun k => F1 k ∨ F2 k) P
  | [], ts2, F1, F2, P, h, g, _ => by
    have e : F2 = fun k => F1 k ∨ F2 k := funext fun k => propext ⟨.inr, fun a => a.elim (fun b => (h k b).elim) id⟩
    rw [← e]; exact g
  | t :: ts1, ts2, F1, F2, P, ⟨G1, G2, g1, g2, g3, g4⟩, g, hd =>
    ⟨G1, fun k => G2 k ∨ F2 k, fun k => (or_congr_left (g1 k)).trans or_assoc, g2, fun k a b => b.elim (g3 k a) (hd k ((g1 k).mpr (.inl a))), SepF.join g4 g (fun k a => hd k ((g1 k).mpr (.inr a)))⟩
theorem SepF.swap {w : World} {a b : Thing} {ts : List Thing} {F P : Nat → Prop} (h : SepF (a :: b :: ts) w F P) : SepF (b :: a :: ts) w F P := by
  obtain ⟨F1, F2, h1, h2, h3, G1, G2, g1, g2, g3, g4⟩ := h
  refine ⟨G1, fun k => F1 k ∨ G2 k, fun k => by rw [h1, g1]; exact or_left_comm, g2, fun k a b => b.elim (fun c => h3 k c ((g1 k).mpr (.inl a))) (g3 k a), F1, G2, fun k => Iff.rfl, h2, fun k a b => h3 k a ((g1 k).mpr (.inr b)), g4⟩
/-- The world, as it stands, since it was w0: the things in F0 and what may be read in P0 were there then. -/
structure St (w0 : World) (F0 P0 : Nat → Prop) (ts : List Thing) (w : World) : Prop where
  sep : ∃ F, SepF ts w F (fun k => (P0 k ∨ F0 k ∨ w0.heap.size ≤ k) ∧ ¬ F k) ∧ Moved F0 F w0 w
section
variable {w0 w w' : World} {F0 P0 : Nat → Prop} {t u : Thing} {ts ts1 ts2 : List Thing}
theorem Moved.below {B : Nat} {F F' : Nat → Prop} (h : Moved F F' w w') (hB : ∀ k, F k → B ≤ k) (hs : B ≤ w.heap.size) : Below B w w' :=
  ⟨h.os, h.tape, h.output, h.size, fun k hk => h.block k (by omega) (fun hF => by have := hB k hF; omega)⟩
theorem Moved.of_below {F F' : Nat → Prop} (h : Below w.heap.size w w') (hf : ∀ k, F' k → F k ∨ w.heap.size ≤ k) : Moved F F' w w' :=
  ⟨h.os, h.tape, h.output, h.size, fun k hk _ => h.block k hk, hf⟩
theorem Moved.refl (F : Nat → Prop) (w : World) : Moved F F w w := ⟨rfl, rfl, rfl, Nat.le_refl _, fun _ _ _ => rfl, fun _ h => .inl h⟩
theorem Moved.trans {F1 F2 F3 : Nat → Prop} {w1 w2 w3 : World} (h : Moved F1 F2 w1 w2) (k : Moved F2 F3 w2 w3) : Moved F1 F3 w1 w3 :=
  ⟨k.os.trans h.os, k.tape.trans h.tape, k.output.trans h.output, Nat.le_trans h.size k.size, fun q hq hF => (k.block q (Nat.lt_of_lt_of_le hq h.size) (fun h2 => by rcases h.fresh q h2 with h3 | h3; exact hF h3; omega)).trans (h.block q hq hF),
    fun q hq => by rcases k.fresh q hq with h2 | h2; exact h.fresh q h2; exact .inr (Nat.le_trans h.size h2)⟩
theorem St.size (h : St w0 F0 P0 ts w) : w0.heap.size ≤ w.heap.size := by
  obtain ⟨F, -, hm⟩ := h
  exact hm.size
theorem St.bel (h : St w0 (fun _ => False) P0 ts w) : Below w0.heap.size w0 w := by
  obtain ⟨F, -, hm⟩ := h
  exact hm.below (fun _ a => a.elim) (Nat.le_refl _)
theorem St.start (w0 : World) (P0 : Nat → Prop) : St w0 (fun _ => False) P0 [] w0 := ⟨⟨fun _ => False, fun _ => id, Moved.refl _ _⟩⟩
theorem St.init {F P : Nat → Prop} (h : SepF ts w F (fun k => P k ∧ ¬ F k)) : St w F P ts w := ⟨⟨F, h.mono (fun k a => ⟨.inl a.1, a.2⟩), Moved.refl _ _⟩⟩
/-- THE FRAME: what is done to ts1, told from w on, beside ts. -/
theorem St.part (h : St w0 F0 P0 (ts1 ++ ts) w) : ∃ F1 P1, St w F1 P1 ts1 w ∧ ∀ (w' : World) (ts' : List Thing), St w F1 P1 ts' w' → St w0 F0 P0 (ts' ++ ts) w' := by
  obtain ⟨F, hF, hm⟩ := h
  obtain ⟨F1, F2, h1, h2, h3, h4⟩ := hF.split
  refine ⟨F1, fun k => (P0 k ∨ F0 k ∨ w0.heap.size ≤ k) ∧ ¬ F k, St.init (h2.mono (fun k a => ⟨a, fun b => a.2 ((h1 k).mpr (.inl b))⟩)), fun w' ts' hw' => ?_⟩
  obtain ⟨F', hF', hm'⟩ := hw'
  have hlt := h4.lt
  have hd : ∀ k, F' k → ¬ F2 k := fun k a b => by
    rcases hm'.fresh k a with c | c
    · exact h3 k c b
    · have := hlt k b; omega
  refine ⟨⟨fun k => F' k ∨ F2 k, (hF'.mono (fun k a => ?_)).join ((h4.kept hm'.size (fun k a hk => hm'.block k hk (fun b => ?_))).mono (fun k a => ⟨a.1.1, fun b => ?_⟩)) hd, ?_⟩⟩
  · obtain ⟨a, b⟩ := a
    rcases a with a | a | a
    · exact ⟨a.1, fun c => c.elim b (fun d => a.2 ((h1 k).mpr (.inr d)))⟩
    · refine ⟨(hm.fresh k ((h1 k).mpr (.inl a))).elim (fun c => .inr (.inl c)) (fun c => .inr (.inr c)), fun c => c.elim b (h3 k a)⟩
    · exact ⟨.inr (.inr (Nat.le_trans hm.size a)), fun c => c.elim b (fun d => by have := hlt k d; omega)⟩
  · rcases a with a | a
    · exact h3 k b a
    · exact a.2 ((h1 k).mpr (.inl b))
  · rcases b with b | b
    · rcases hm'.fresh k b with c | c
      · exact a.1.2 ((h1 k).mpr (.inl c))
      · have := a.2; omega
    · exact a.1.2 ((h1 k).mpr (.inr b))
  · have e1 : Moved F (fun k => F1 k ∨ F2 k) w w := ⟨rfl, rfl, rfl, Nat.le_refl _, fun _ _ _ => rfl, fun k a => .inl ((h1 k).mpr a)⟩
    refine (hm.trans e1).trans ⟨hm'.os, hm'.tape, hm'.output, hm'.size, fun k hk a => hm'.block k hk (fun b => a (.inl b)), fun k a => ?_⟩
    rcases a with a | a
    · exact (hm'.fresh k a).imp .inl id
    · exact .inl (.inr a)
theorem St.below (h : St w0 F0 P0 ts w) (hb : Below w.heap.size w w') : St w0 F0 P0 ts w' := by
  obtain ⟨F, hF, hm⟩ := h
  exact ⟨⟨F, (hF.kept hb.size (fun k _ hk => hb.block k hk)).mono (fun k a => a.1), hm.trans (Moved.of_below hb (fun k a => .inl a))⟩⟩
theorem St.drawn (h : St w0 F0 P0 ts w) (hd : Drawn0 w w') : St w0 F0 P0 ts w' := h.below hd.below
theorem St.drewN (h : St w0 F0 P0 ts w) (n : Nat) : St w0 F0 P0 ts (w.drewN n) := h.drawn ⟨n, rfl⟩
theorem St.swap (h : St w0 F0 P0 (t :: u :: ts) w) : St w0 F0 P0 (u :: t :: ts) w := by
  obtain ⟨F, hF, hm⟩ := h
  exact ⟨⟨F, hF.swap, hm⟩⟩
theorem St.drop (h : St w0 F0 P0 (t :: ts) w) : St w0 F0 P0 ts w := by
  obtain ⟨F, ⟨F1, F2, h1, h2, h3, h4⟩, hm⟩ := h
  exact ⟨⟨F2, h4.mono (fun k a => ⟨a.1, fun b => a.2 ((h1 k).mpr (.inr b))⟩), ⟨hm.os, hm.tape, hm.output, hm.size, hm.block, fun k a => hm.fresh k ((h1 k).mpr (.inr a))⟩⟩⟩
theorem St.nth2 {a b c : Thing} (h : St w0 F0 P0 (a :: b :: c :: ts) w) : St w0 F0 P0 (c :: a :: b :: ts) w := by
  obtain ⟨F1, P1, h1, hk⟩ := St.part (ts1 := [a]) h
  have h2 : St w0 F0 P0 (b :: a :: c :: ts) w := h.swap
  obtain ⟨F2, P2, h3, hk2⟩ := St.part (ts1 := [b, a, c]) h2
  exact hk2 w [c, a, b] (by
    obtain ⟨F, hF, hm⟩ := h3
    obtain ⟨G1, G2, g1, g2, g3, g4⟩ := hF
    have h5 := SepF.swap g4
    exact ⟨⟨F, SepF.swap (a := a) (b := c) (ts := [b]) (by
      obtain ⟨H1, H2, e1, e2, e3, e4⟩ := h5
      obtain ⟨I1, I2, i1, i2, i3, i4⟩ := e4
      refine ⟨I1, fun k => H1 k ∨ G1 k, fun k => ?_, i2, fun k x y => ?_, H1, G1, fun k => Iff.rfl, e2, fun k x y => ?_, G1, fun _ => False, fun k => by simp, g2, fun k _ => id, fun k => id⟩
      · rw [g1, e1, i1]
        have := i4 k
        constructor
        · rintro (x | x | x | x)
          · exact .inr (.inr x)
          · exact .inr (.inl x)
          · exact .inl x
          · exact absurd x this
        · rintro (x | x | x)
          · exact .inr (.inr (.inl x))
          · exact .inr (.inl x)
          · exact .inl x
      · rcases y with y | y
        · exact e3 k y ((i1 k).mpr (.inl x))
        · exact g3 k y ((e1 k).mpr (.inr ((i1 k).mpr (.inl x))))
      · exact g3 k y ((e1 k).mpr (.inl x))), hm⟩⟩)
/-- A new thing, or a value, that lies in what is new, or may be read. -/
theorem St.made (h : St w0 F0 P0 ts w) (hb : Below w.heap.size w w') (ht : ∀ P : Nat → Prop, (∀ k, P k → k < w.heap.size) → ∃ F', t.holds w' F' (fun k => P k ∨ w.heap.size ≤ k ∧ ¬ F' k) ∧ ∀ k, F' k → w.heap.size ≤ k) : St w0 F0 P0 (t :: ts) w' := by
  obtain ⟨F1, P1, h1, hk⟩ := St.part (ts1 := []) (ts := ts) h
  refine hk w' [t] ?_
  obtain ⟨F', h2, h3⟩ := ht (fun _ => False) (fun k a => a.elim)
  have hm1 := h1.sep
  obtain ⟨F, hF, hm⟩ := hm1
  refine ⟨⟨F', ⟨F', fun _ => False, fun k => by simp, t.mono h2 (fun k a => ?_), fun k _ => id, fun k => id⟩, Moved.of_below hb (fun k a => .inr (h3 k a))⟩⟩
  rcases a with a | a
  · exact a.elim
  · exact ⟨.inr (.inr a.1), a.2⟩
end
/-- A value that is only read: Q says how it reads. -/
def valT (Q : World → Prop) : Thing where
  holds w F P := (∀ k, ¬ F k) ∧ Foot Q w P
  lt h k hk := (h.1 k hk).elim
  mono h hP := ⟨h.1, Foot.mono h.2 hP⟩
  kept h hk hs := ⟨h.1, Foot.step (Foot.bound h.2) (fun k a _ => hk k (.inr a.1) a.2)⟩
section
variable {w0 w w' : World} {F0 P0 : Nat → Prop} {t u : Thing} {ts ts1 ts2 : List Thing} {Q Q' : World → Prop}
theorem St.now (h : St w0 F0 P0 (valT Q :: ts) w) : Q w := by
  obtain ⟨F, ⟨F1, F2, h1, h2, h3, h4⟩, hm⟩ := h
  exact Foot.now h2.2
theorem St.imp (h : St w0 F0 P0 (valT Q :: ts) w) (hi : ∀ W, Q W → Q' W) : St w0 F0 P0 (valT Q' :: ts) w := by
  obtain ⟨F, ⟨F1, F2, h1, h2, h3, h4⟩, hm⟩ := h
  exact ⟨⟨F, ⟨F1, F2, h1, ⟨h2.1, Foot.imp h2.2 hi⟩, h3, h4⟩, hm⟩⟩
theorem St.dup (h : St w0 F0 P0 (valT Q :: ts) w) : St w0 F0 P0 (valT Q :: valT Q :: ts) w := by
  obtain ⟨F, ⟨F1, F2, h1, h2, h3, h4⟩, hm⟩ := h
  exact ⟨⟨F, ⟨F1, F, fun k => ⟨.inr, fun a => a.elim (fun b => (h2.1 k b).elim) id⟩, h2, fun k a => (h2.1 k a).elim, ⟨F1, F2, h1, h2, h3, h4⟩⟩, hm⟩⟩
theorem St.and (h : St w0 F0 P0 (valT Q :: valT Q' :: ts) w) : St w0 F0 P0 (valT (fun W => Q W ∧ Q' W) :: ts) w := by
  obtain ⟨F, ⟨F1, F2, h1, h2, h3, F3, F4, g1, g2, g3, g4⟩, hm⟩ := h
  refine ⟨⟨F, ⟨F1, F4, fun k => ?_, ⟨h2.1, fun W' hW => ⟨h2.2 W' hW, g2.2 W' hW⟩⟩, fun k a => (h2.1 k a).elim, g4⟩, hm⟩⟩
  rw [h1, g1]
  exact ⟨fun a => a.elim .inl (fun b => b.elim (fun c => (g2.1 k c).elim) .inr), fun a => a.elim .inl (fun b => .inr (.inr b))⟩
/-- A value without anything in memory. -/
theorem St.pure (h : St w0 F0 P0 ts w) (hQ : ∀ W, Q W) : St w0 F0 P0 (valT Q :: ts) w := by
  obtain ⟨F, hF, hm⟩ := h
  exact ⟨⟨F, ⟨fun _ => False, F, fun k => by simp, ⟨fun _ => id, fun W' _ => hQ W'⟩, fun k a => a.elim, hF⟩, hm⟩⟩
/-- A value of an elder world's (a law's argument). -/
theorem St.arg (h : St w0 F0 P0 ts w) (hF : ∀ k, F0 k → False) (hP : ∀ k, k < w0.heap.size → P0 k) (hQ : Foot Q w0 (fun k => k < w0.heap.size)) : St w0 F0 P0 (valT Q :: ts) w := by
  obtain ⟨F, hS, hm⟩ := h
  refine ⟨⟨F, ⟨fun _ => False, F, fun k => by simp, ⟨fun _ => id, Foot.mono (Foot.step (Foot.bound hQ) (fun k a hlt => hm.block k hlt (fun b => hF k b))) (fun k a => ⟨.inl (hP k a.2), fun b => ?_⟩)⟩, fun k a => a.elim, hS⟩, hm⟩⟩
  rcases hm.fresh k b with c | c
  · exact hF k c
  · have := a.2; omega
/-- A value that a call has made, out of what it may read and what is new. -/
theorem St.val (h : St w0 F0 P0 (valT Q :: ts) w) : ∃ P : Nat → Prop, Foot Q w P ∧ ∀ (w' : World) (Q' : World → Prop), Below w.heap.size w w' → Foot Q' w' (fun k => P k ∨ w.heap.size ≤ k) → St w0 F0 P0 (valT Q' :: valT Q :: ts) w' := by
  obtain ⟨F, ⟨F1, F2, h1, h2, h3, h4⟩, hm⟩ := h
  refine ⟨_, h2.2, fun w' Q' hb hQ => ?_⟩
  have hS : SepF (valT Q :: ts) w F (fun k => (P0 k ∨ F0 k ∨ w0.heap.size ≤ k) ∧ ¬ F k) := ⟨F1, F2, h1, h2, h3, h4⟩
  have hlt := hS.lt
  refine ⟨⟨F, ⟨fun _ => False, F, fun k => by simp, ⟨fun _ => id, Foot.mono hQ (fun k a => ?_)⟩, fun k a => a.elim, (hS.kept hb.size (fun k _ hk => hb.block k hk)).mono (fun k a => a.1)⟩, hm.trans (Moved.of_below hb (fun k a => .inl a))⟩⟩
  rcases a with a | a
  · exact a
  · exact ⟨.inr (.inr (Nat.le_trans hm.size a)), fun b => by have := hlt k b; omega⟩
end
end Go.Proofs.Ytpoecjieagkoaaa.Own
