/- Things in memory, each with blocks of its own: what is done to one leaves the others as they were. No condition. -/
import Derived.Test.YtpoecjieagkoaaaWWords
import Derived.Test.YtpoecjieagkoaaaWLast
import Derived.Test.YtpoecjieagkoaaaWMore
namespace Go.Proofs.Ytpoecjieagkoaaa.Sep
open Go Go.RowKit Go.Proofs.YtpoecjieagkoaaaW.PrintWords Go.Proofs.YtpoecjieagkoaaaW.PrintLast Go.Proofs.YtpoecjieagkoaaaW.PrintMore
set_option linter.unusedVariables false
/-- What may have been done: outside of F nothing has turned; what is new in F' is new in memory. -/
structure Moved (F F' : Nat → Prop) (w w' : World) : Prop where
  os : w'.os = w.os
  tape : w'.tape = w.tape
  output : w'.output = w.output
  size : w.heap.size ≤ w'.heap.size
  block : ∀ k, k < w.heap.size → ¬ F k → w'.heap[k]? = w.heap[k]?
  fresh : ∀ k, F' k → F k ∨ w.heap.size ≤ k
/-- A thing: what it says of a world, and its blocks; it hangs on these alone. -/
structure Thing where
  holds : World → (Nat → Prop) → Prop
  lt : ∀ {w F}, holds w F → ∀ k, F k → k < w.heap.size
  kept : ∀ {w w' F}, holds w F → (∀ k, F k → w'.heap[k]? = w.heap[k]?) → w.heap.size ≤ w'.heap.size → holds w' F
/-- Things side by side. -/
def SepF (B : Nat) : List Thing → World → (Nat → Prop) → Prop
  | [], _, F => ∀ k, ¬ F k
  | t :: ts, w, F => ∃ F1 F2 : Nat → Prop, (∀ k, F k ↔ F1 k ∨ F2 k) ∧ t.holds w F1 ∧ (∀ k, F1 k → B ≤ k ∧ ¬ F2 k) ∧ SepF B ts w F2
theorem SepF.base {B : Nat} {w : World} : ∀ {ts : List Thing} {F : Nat → Prop}, SepF B ts w F → ∀ k, F k → B ≤ k
  | [], F, h, k, hk => (h k hk).elim
  | t :: ts, F, ⟨F1, F2, h1, h2, h3, h4⟩, k, hk => ((h1 k).mp hk).elim (fun a => (h3 k a).1) (fun a => h4.base k a)
theorem SepF.lt {B : Nat} {w : World} : ∀ {ts : List Thing} {F : Nat → Prop}, SepF B ts w F → ∀ k, F k → k < w.heap.size
  | [], F, h, k, hk => (h k hk).elim
  | t :: ts, F, ⟨F1, F2, h1, h2, h3, h4⟩, k, hk => ((h1 k).mp hk).elim (fun a => t.lt h2 k a) (fun a => h4.lt k a)
theorem SepF.kept {B : Nat} {w w' : World} (hs : w.heap.size ≤ w'.heap.size) : ∀ {ts : List Thing} {F : Nat → Prop}, SepF B ts w F → (∀ k, F k → w'.heap[k]? = w.heap[k]?) → SepF B ts w' F
  | [], F, h, _ => h
  | t :: ts, F, ⟨F1, F2, h1, h2, h3, h4⟩, hk => ⟨F1, F2, h1, t.kept h2 (fun k a => hk k ((h1 k).mpr (.inl a))) hs, h3, h4.kept hs (fun k a => hk k ((h1 k).mpr (.inr a)))⟩
theorem SepF.raise {B B' : Nat} {w : World} : ∀ {ts : List Thing} {F : Nat → Prop}, SepF B ts w F → (∀ k, F k → B' ≤ k) → SepF B' ts w F
  | [], F, h, _ => h
  | t :: ts, F, ⟨F1, F2, h1, h2, h3, h4⟩, hk => ⟨F1, F2, h1, h2, fun k a => ⟨hk k ((h1 k).mpr (.inl a)), (h3 k a).2⟩, h4.raise (fun k a => hk k ((h1 k).mpr (.inr a)))⟩
theorem SepF.split {B : Nat} {w : World} : ∀ {ts1 ts2 : List Thing} {F : Nat → Prop}, SepF B (ts1 ++ ts2) w F → ∃ F1 F2, (∀ k, F k ↔ F1 k ∨ F2 k) ∧ SepF B ts1 w F1 ∧ (∀ k, F1 k → ¬ F2 k) ∧ SepF B ts2 w F2
  | [], ts2, F, h => ⟨fun _ => False, F, fun k => by simp, fun k => id, fun k a => a.elim, h⟩
  | t :: ts1, ts2, F, ⟨F1, F2, h1, h2, h3, h4⟩ => by
    obtain ⟨G1, G2, g1, g2, g3, g4⟩ := SepF.split h4
    refine ⟨fun k => F1 k ∨ G1 k, G2, fun k => by rw [h1, g1]; exact or_assoc.symm, ⟨F1, G1, fun k => Iff.rfl, h2, fun k a => ⟨(h3 k a).1, fun b => (h3 k a).2 ((g1 k).mpr (.inl b))⟩, g2⟩, fun k a => ?_, g4⟩
    rcases a with a | a
    · exact fun b => (h3 k a).2 ((g1 k).mpr (.inr b))
    · exact g3 k a
theorem SepF.join {B : Nat} {w : World} : ∀ {ts1 ts2 : List Thing} {F1 F2 : Nat → Prop}, SepF B ts1 w F1 → SepF B ts2 w F2 → (∀ k, F1 k → ¬ F2 k) → SepF B (ts1 ++ ts2) w (fun k => F1 k ∨ F2 k)
  | [], ts2, F1, F2, h, g, _ => by
    have e : F2 = fun k => F1 k ∨ F2 k := funext fun k => propext ⟨.inr, fun a => a.elim (fun b => (h k b).elim) id⟩
    rw [← e]; exact g
  | t :: ts1, ts2, F1, F2, ⟨G1, G2, g1, g2, g3, g4⟩, g, hd =>
    ⟨G1, fun k => G2 k ∨ F2 k, fun k => (or_congr_left (g1 k)).trans or_assoc, g2, fun k a => ⟨(g3 k a).1, fun b => b.elim (g3 k a).2 (hd k ((g1 k).mpr (.inl a)))⟩, SepF.join g4 g (fun k a => hd k ((g1 k).mpr (.inr a)))⟩
theorem SepF.swap {B : Nat} {w : World} {a b : Thing} {ts : List Thing} {F : Nat → Prop} (h : SepF B (a :: b :: ts) w F) : SepF B (b :: a :: ts) w F := by
  obtain ⟨F1, F2, h1, h2, h3, G1, G2, g1, g2, g3, g4⟩ := h
  refine ⟨G1, fun k => F1 k ∨ G2 k, fun k => by rw [h1, g1]; exact or_left_comm, g2, fun k a => ⟨(g3 k a).1, fun b => b.elim (fun c => (h3 k c).2 ((g1 k).mpr (.inl a))) (g3 k a).2⟩, F1, G2, fun k => Iff.rfl, h2, fun k a => ⟨(h3 k a).1, fun b => (h3 k a).2 ((g1 k).mpr (.inr b))⟩, g4⟩
/-- The things beside what lay in memory when w0 was the world; and what lay there lies there still. -/
structure St (w0 : World) (ts : List Thing) (w : World) : Prop where
  sep : ∃ F, SepF w0.heap.size ts w F
  bel : Below w0.heap.size w0 w
section
variable {w0 w w' : World} {t u : Thing} {ts ts1 : List Thing}
theorem Moved.below {B : Nat} {F F' : Nat → Prop} (h : Moved F F' w w') (hB : ∀ k, F k → B ≤ k) (hs : B ≤ w.heap.size) : Below B w w' :=
  ⟨h.os, h.tape, h.output, h.size, fun k hk => h.block k (by omega) (fun hF => by have := hB k hF; omega)⟩
theorem Moved.of_below {F' : Nat → Prop} (h : Below w.heap.size w w') (hf : ∀ k, F' k → w.heap.size ≤ k) : Moved (fun _ => False) F' w w' :=
  ⟨h.os, h.tape, h.output, h.size, fun k hk _ => h.block k hk, fun k hk => .inr (hf k hk)⟩
theorem Moved.refl (F : Nat → Prop) (w : World) : Moved F F w w := ⟨rfl, rfl, rfl, Nat.le_refl _, fun _ _ _ => rfl, fun _ h => .inl h⟩
theorem Moved.trans {F1 F2 F3 : Nat → Prop} {w1 w2 w3 : World} (h : Moved F1 F2 w1 w2) (k : Moved F2 F3 w2 w3) : Moved F1 F3 w1 w3 :=
  ⟨k.os.trans h.os, k.tape.trans h.tape, k.output.trans h.output, Nat.le_trans h.size k.size, fun q hq hF => (k.block q (Nat.lt_of_lt_of_le hq h.size) (fun h2 => by rcases h.fresh q h2 with h3 | h3; exact hF h3; omega)).trans (h.block q hq hF),
    fun q hq => by rcases k.fresh q hq with h2 | h2; exact h.fresh q h2; exact .inr (Nat.le_trans h.size h2)⟩
theorem Moved.below_right {F F' : Nat → Prop} {w1 : World} (h : Moved F F' w w') (hb : Below w'.heap.size w' w1) : Moved F F' w w1 :=
  ⟨hb.os.trans h.os, hb.tape.trans h.tape, hb.output.trans h.output, Nat.le_trans h.size hb.size, fun k hk hF => (hb.block k (Nat.lt_of_lt_of_le hk h.size)).trans (h.block k hk hF), h.fresh⟩
theorem Moved.drawn {F F' : Nat → Prop} {w1 : World} (h : Moved F F' w w') (hd : Drawn0 w' w1) : Moved F F' w w1 := by
  obtain ⟨n, rfl⟩ := hd
  exact ⟨h.os, h.tape, h.output, h.size, h.block, h.fresh⟩
theorem St.start (w0 : World) : St w0 [] w0 := ⟨⟨fun _ => False, fun _ => id⟩, Below.refl _ _⟩
theorem St.size (h : St w0 ts w) : w0.heap.size ≤ w.heap.size := h.bel.size
/-- A deed on some of the things. -/
theorem St.act (h : St w0 (ts1 ++ ts) w) : ∃ F, SepF w0.heap.size ts1 w F ∧ ∀ (w' : World) (F' : Nat → Prop) (ts' : List Thing), SepF 0 ts' w' F' → Moved F F' w w' → St w0 (ts' ++ ts) w' := by
  obtain ⟨⟨F, hF⟩, hb⟩ := h
  obtain ⟨F1, F2, h1, h2, h3, h4⟩ := hF.split
  refine ⟨F1, h2, fun w' F' ts' hs hm => ⟨⟨_, (hs.raise (B' := w0.heap.size) (fun k hk => ?_)).join (h4.kept hm.size (fun k hk => hm.block k (h4.lt k hk) (fun a => h3 k a hk))) (fun k hk hk2 => ?_)⟩, hb.trans (hm.below h2.base hb.size)⟩⟩
  · rcases hm.fresh k hk with a | a
    · exact h2.base k a
    · exact Nat.le_trans hb.size a
  · rcases hm.fresh k hk with a | a
    · exact h3 k a hk2
    · have := h4.lt k hk2; omega
theorem St.act1 (h : St w0 (t :: ts) w) : ∃ F, t.holds w F ∧ (∀ (w' : World) (F' : Nat → Prop) (t' : Thing), t'.holds w' F' → Moved F F' w w' → St w0 (t' :: ts) w') ∧ ∀ (w' : World) (F' : Nat → Prop) (ts' : List Thing), SepF 0 ts' w' F' → Moved F F' w w' → St w0 (ts' ++ ts) w' := by
  obtain ⟨F, hF, hk⟩ := St.act (ts1 := [t]) h
  obtain ⟨F1, F2, h1, h2, h3, h4⟩ := hF
  have e : F = F1 := funext fun k => propext ⟨fun a => ((h1 k).mp a).elim id (fun b => (h4 k b).elim), fun a => (h1 k).mpr (.inl a)⟩
  subst e
  exact ⟨F, h2, fun w' F' t' ht hm => hk w' F' [t'] ⟨F', fun _ => False, fun k => by simp, ht, fun k _ => ⟨Nat.zero_le _, id⟩, fun _ => id⟩ hm, hk⟩
theorem St.below (h : St w0 ts w) (hb : Below w.heap.size w w') : St w0 ts w' := by
  obtain ⟨⟨F, hF⟩, hb0⟩ := h
  exact ⟨⟨F, hF.kept hb.size (fun k hk => hb.block k (hF.lt k hk))⟩, hb0.trans (hb.mono hb0.size)⟩
theorem St.drawn (h : St w0 ts w) (hd : Drawn0 w w') : St w0 ts w' := h.below hd.below
/-- A new thing. -/
theorem St.made (h : St w0 ts w) {F' : Nat → Prop} (ht : t.holds w' F') (hf : ∀ k, F' k → w.heap.size ≤ k) (hb : Below w.heap.size w w') : St w0 (t :: ts) w' := by
  obtain ⟨F, hF, hk⟩ := St.act (ts1 := []) (ts := ts) h
  have e : F = fun _ => False := funext fun k => propext ⟨fun a => hF k a, False.elim⟩
  subst e
  exact hk w' F' [t] ⟨F', fun _ => False, fun k => by simp, ht, fun k _ => ⟨Nat.zero_le _, id⟩, fun _ => id⟩ (Moved.of_below hb hf)
theorem St.swap (h : St w0 (t :: u :: ts) w) : St w0 (u :: t :: ts) w := by
  obtain ⟨⟨F, hF⟩, hb⟩ := h
  exact ⟨⟨F, hF.swap⟩, hb⟩
theorem St.drop (h : St w0 (t :: ts) w) : St w0 ts w := by
  obtain ⟨⟨F, F1, F2, h1, h2, h3, h4⟩, hb⟩ := h
  exact ⟨⟨F2, h4⟩, hb⟩
/-- The things of a callee's world, taken over by its caller. -/
theorem St.over {w1 : World} (h : St w0 ts w) (h1 : St w ts1 w1) : St w0 (ts1 ++ ts) w1 := by
  obtain ⟨⟨F, hF⟩, hb⟩ := h
  obtain ⟨⟨F1, hF1⟩, hb1⟩ := h1
  refine ⟨⟨_, (hF1.raise (B' := w0.heap.size) (fun k hk => Nat.le_trans hb.size (hF1.base k hk))).join (hF.kept hb1.size (fun k hk => hb1.block k (hF.lt k hk))) (fun k hk hk2 => ?_)⟩, hb.trans (hb1.mono hb.size)⟩
  have h1 := hF1.base k hk
  have h2 := hF.lt k hk2
  omega
end
/-- A row of one's own, and what its elements lead to. -/
def rowT {α : Type} (d : Kd α) (e : Nat) (v : Value) (xs : List α) : Thing where
  holds w F := d.R e w 0 F v xs ∧ ∀ k, F k → k < w.heap.size
  lt h := h.2
  kept h hk hs := ⟨Kd.R_move h.1 hk, fun k a => Nat.lt_of_lt_of_le (h.2 k a) hs⟩
section
variable {w0 w w' : World} {t u : Thing} {ts ts1 : List Thing} {α : Type} {d : Kd α} {e : Nat} {v : Value} {xs : List α}
theorem St.nil (h : St w0 ts w) (d : Kd α) (e : Nat) : St w0 (rowT d e (.slice none 0 0) [] :: ts) w :=
  h.made (F' := fun _ => False) ⟨Kd.R_nil _ _ _ _ _, fun _ a => a.elim⟩ (fun _ a => a.elim) (Below.refl _ _)
theorem St.row (h : St w0 (rowT d e v xs :: ts) w) : ∃ F, d.R e w 0 F v xs := by
  obtain ⟨⟨F, F1, F2, h1, h2, h3, h4⟩, hb⟩ := h
  exact ⟨F1, h2.1⟩
theorem St.slice (h : St w0 (rowT d e v xs :: ts) w) : ∃ A c, v = .slice A xs.length c := by
  obtain ⟨F, hF⟩ := h.row
  exact Kd.R_slice hF
theorem St.reads {A : Option Addr} {n c : Nat} (h : St w0 (rowT d e (.slice A n c) xs :: ts) w) : n = xs.length ∧ xs.length ≤ c ∧ d.C w A xs.length xs := by
  obtain ⟨F, hF⟩ := h.row
  obtain ⟨A', c', he, hl, hr⟩ := Kd.R_reads hF
  injection he with h1 h2 h3
  subst h1 h2 h3
  exact ⟨rfl, hl, hr⟩
theorem St.got (h : St w0 ts w) {base : Nat} {ok : Nat → Prop} (hr : d.R e w' base ok v xs) (hb : Below w.heap.size w w') (hbase : w.heap.size ≤ base) : St w0 (rowT d e v xs :: ts) w' := by
  refine h.made (F' := fun k => base ≤ k ∧ k < w'.heap.size) ⟨Kd.R_mono (Kd.R_lower (Kd.R_bound hr) (Nat.zero_le _)) (fun k hk => ⟨hk.2.1, hk.2.2.1⟩), fun k hk => hk.2⟩ (fun k hk => Nat.le_trans hbase hk.1) hb
end
section
variable {P : Program} {ops : Array Oper} {rest : List Oper} {o : Oper} {a : Act} {Q : Exit → Act → World → Prop} {α : Type}
/-- append(v, x) onto a row of one's own; x is flat, or of the call's own. -/
theorem St.append (d : Kd α) {w0 W : World} {ts : List Thing} (hgd : o.guard = none) (s x : Operand) (t e : TypeId) (z : Value) (bytes : Nat)
    (ho : o.op = .call { callee := .builtin .append, args := #[s, x], argTypes := #[t, t] })
    (ht : P.underlying t = some (.slice e)) (hinfo : (P.info? e).map (fun i => (i.zero, i.size, i.bytes)) = some (some z, d.sz, bytes)) (hz : z.cells.size = d.sz) (hs0 : 0 < d.sz) (hb0 : 0 < bytes)
    (v : Value) (xs : List α) (p : α) (cs : List Value) (hs : a.eval s = v) (hx : a.eval x = .slice (some ⟨W.heap.size, 0, none⟩) 1 1) (hp : d.M W 0 (fun _ => False) p cs)
    (HS : St w0 (rowT d e v xs :: ts) W) (hl : (xs.length + 1) * bytes ≤ 140737488355328)
    (h : ∀ v1 w1, St w0 (rowT d e v1 (xs ++ [p]) :: ts) w1 → wpList P ops Q rest (a.put o.dst v1) w1) :
    wpList P ops Q (o :: rest) a (W.alloc (.cells cs.toArray e)) := by
  obtain ⟨F, hF, hk, -⟩ := HS.act1
  refine Kd.R_append d (w0 := W) 0 hgd s x t e z bytes ho ht hinfo hz hs0 hb0 v xs p cs (fun k => F k ∨ W.heap.size ≤ k) (fun _ => False) hs hx hp (fun _ hk => hk.elim) (fun k hk => .inr hk) (Kd.R_mono hF.1 (fun _ hk => .inl hk)) (Below.refl 0 W) (Nat.zero_le _) hl ?_
  intro v1 w1 hr hb hg hat
  refine h v1 w1 (hk w1 (fun k => (F k ∨ W.heap.size ≤ k) ∧ k < w1.heap.size) _ ⟨Kd.R_mono (Kd.R_bound hr) (fun k hk => ⟨hk.1, hk.2.2.1⟩), fun k hk => hk.2⟩ ⟨hg.os, hg.tape, hg.output, hg.size, fun k hk hnF => hg.block k hk (fun e1 => hnF (hF.1.1 k e1.symm)), fun k hk => hk.1⟩)
end
section
variable {w0 w w' : World} {ts : List Thing}
/-- Two draws of an order are nothing. -/
theorem St.drewN (h : St w0 ts w) (n : Nat) : St w0 ts (w.drewN n) := h.drawn ⟨n, rfl⟩
end
/-- A block of whole numbers (an array, or a slice of fixed length) of one's own. -/
def arrT (b e : Nat) (zs : List Int) : Thing where
  holds w F := w.heap[b]? = some (.cells (nums .i64 zs).toArray e (0, 0)) ∧ ∀ k, F k ↔ k = b
  lt := by
    rintro w F ⟨h, hF⟩ k hk
    rw [hF] at hk
    subst hk
    exact (Array.getElem?_eq_some_iff.mp h).1
  kept := by
    rintro w w' F ⟨h, hF⟩ hk hs
    exact ⟨(hk b ((hF b).mpr rfl)).trans h, hF⟩
section
variable {w0 w w' : World} {t u : Thing} {ts ts1 : List Thing} {b e : Nat} {zs : List Int}
theorem St.arr (h : St w0 (arrT b e zs :: ts) w) : w.heap[b]? = some (.cells (nums .i64 zs).toArray e (0, 0)) := by
  obtain ⟨F, ⟨h1, h2⟩, -⟩ := h.act1
  exact h1
theorem St.arr_cell (h : St w0 (arrT b e zs :: ts) w) (i : Int) (h0 : 0 ≤ i) (h1 : i < zs.length) : w.cell? ⟨b, i.toNat, none⟩ = some (.int .i64 (rd zs i)) ∧ w.frozen? ⟨b, i.toNat, none⟩ = false := by
  have ha := h.arr
  have hl : i.toNat < zs.length := by omega
  constructor
  · simp [World.cell?, ha, nums, rd, List.getD_eq_getElem?_getD, List.getElem?_eq_getElem hl]
  · simp [World.frozen?, ha]
theorem St.arr_set (h : St w0 (arrT b e zs :: ts) w) (i : Int) (v : Int) : St w0 (arrT b e (zs.set i.toNat v) :: ts) (w.setCell ⟨b, i.toNat, none⟩ (.int .i64 v)) := by
  have ha := h.arr
  obtain ⟨F, ⟨h1, h2⟩, hk, -⟩ := h.act1
  refine hk _ F _ ⟨?_, h2⟩ ⟨rfl, rfl, rfl, by simp, fun k hk hF => Below.heap_setCell w _ _ _ (fun e => hF ((h2 k).mpr e)), fun k hk => .inl hk⟩
  simp [World.setCell, Array.getElem?_modify, ha, nums, List.map_set]
theorem St.arr_made (h : St w0 ts w) (e : Nat) (zs : List Int) : St w0 (arrT w.heap.size e zs :: ts) (w.alloc (.cells (nums .i64 zs).toArray e)) := by
  refine h.made (F' := fun k => k = w.heap.size) ⟨?_, fun k => Iff.rfl⟩ (fun k hk => by omega) (below_alloc (Below.refl _ _) _)
  show (w.heap.push _)[w.heap.size]? = _
  rw [Array.getElem?_push, if_pos rfl]
end
theorem w64 {x : Int} (h0 : -9223372036854775808 ≤ x) (h1 : x ≤ 9223372036854775807) : wrap64 x = x := by unfold wrap64; omega
theorem rd_set (zs : List Int) (i j v : Int) (hi : 0 ≤ i) (hj : 0 ≤ j) : rd (zs.set i.toNat v) j = if i = j ∧ i < zs.length then v else rd zs j := by
  show (zs.set i.toNat v).getD j.toNat 0 = _
  rw [List.getD_eq_getElem?_getD, List.getElem?_set]
  by_cases h : i = j
  · subst h
    rw [if_pos rfl]
    by_cases h2 : i < zs.length
    · rw [if_pos (by omega), if_pos ⟨rfl, h2⟩]; rfl
    · rw [if_neg (by omega), if_neg (by omega)]
      show _ = zs.getD i.toNat 0
      rw [List.getD_eq_getElem?_getD, List.getElem?_eq_none (by omega)]
  · rw [if_neg (by omega), if_neg (fun h2 => h h2.1)]
    show _ = zs.getD j.toNat 0
    rw [List.getD_eq_getElem?_getD]
end Go.Proofs.Ytpoecjieagkoaaa.Sep
