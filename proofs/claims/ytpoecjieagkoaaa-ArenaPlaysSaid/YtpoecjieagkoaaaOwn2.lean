/- Rows and boxes of one's own, beside values that are only read. No condition. -/
import Derived.Test.YtpoecjieagkoaaaOwn
import Derived.Test.YtpoecjieagkoaaaWNEv
namespace Go.Proofs.Ytpoecjieagkoaaa.Own
open Go Go.RowKit Go.Proofs.YtpoecjieagkoaaaW.PrintWords Go.Proofs.YtpoecjieagkoaaaW.PrintLast Go.Proofs.YtpoecjieagkoaaaW.PrintMore
set_option linter.unusedVariables false
/-- A row (elements of type e) of one's own; what its elements lead to is only read. -/
def rowT {α : Type} (d : Kd α) (e : Nat) (v : Value) (xs : List α) : Thing where
  holds w F P := (∀ k, F k ↔ v.ownBlock = some k) ∧ Kd.N d e w 0 (fun k => F k ∨ P k) v xs
  lt h k hk := Kd.N_lt h.2 k ((h.1 k).mp hk)
  mono h hP := ⟨h.1, Kd.N_mono h.2 (fun k a => a.imp id (hP k))⟩
  kept h hk hs := ⟨h.1, Kd.N_mono (Kd.N_step (Kd.N_bound h.2) (fun k a _ => hk k a.1 a.2)) (fun k a => a.1.imp id (fun b => ⟨b, a.2⟩))⟩
/-- A block of one's own, known whole. -/
def boxT (b e : Nat) (cells : Array Value) : Thing where
  holds w F P := (∀ k, F k ↔ k = b) ∧ w.heap[b]? = some (.cells cells e (0, 0))
  lt h k hk := by
    have := (h.1 k).mp hk
    subst this
    exact (Array.getElem?_eq_some_iff.mp h.2).1
  mono h hP := h
  kept h hk hs := ⟨h.1, (hk _ (.inl ((h.1 _).mpr rfl)) (Array.getElem?_eq_some_iff.mp h.2).1).trans h.2⟩
section
variable {w0 w w' : World} {F0 P0 : Nat → Prop} {t u : Thing} {ts ts1 : List Thing} {α : Type} {d : Kd α} {e : Nat} {v : Value} {xs : List α}
/-- A call, told by itself, beside other things. -/
theorem St.call {P : Program} {n : Nat} {args : Array Value} {β : Type} {R : Ending → β → Prop} {T : β → List Thing} (h : St w0 F0 P0 (ts1 ++ ts) w) (hc : ∀ F1 P1, St w F1 P1 ts1 w → Calls P n args w fun e w' => ∃ x, R e x ∧ St w F1 P1 (T x) w') : Calls P n args w fun e w' => ∃ x, R e x ∧ St w0 F0 P0 (T x ++ ts) w' := by
  obtain ⟨F1, P1, h1, hk⟩ := h.part
  refine (hc F1 P1 h1).mono ?_
  rintro e w' ⟨x, hR, hS⟩
  exact ⟨x, hR, hk w' _ hS⟩
theorem St.rot {a b c : Thing} (h : St w0 F0 P0 (a :: b :: c :: ts) w) : St w0 F0 P0 (b :: c :: a :: ts) w := h.nth2.nth2
theorem St.nil (h : St w0 F0 P0 ts w) (d : Kd α) (e : Nat) : St w0 F0 P0 (rowT d e (.slice none 0 0) [] :: ts) w := by
  obtain ⟨F, hF, hm⟩ := h
  exact ⟨⟨F, ⟨fun _ => False, F, fun k => by simp, ⟨fun k => by simp [Value.ownBlock], Kd.N_nil _ _ _ _ _⟩, fun k a => a.elim, hF⟩, hm⟩⟩
theorem St.row (h : St w0 F0 P0 (rowT d e v xs :: ts) w) : ∃ ok, Kd.N d e w 0 ok v xs := by
  obtain ⟨F, ⟨F1, F2, h1, h2, h3, h4⟩, hm⟩ := h
  exact ⟨_, h2.2⟩
theorem St.slice (h : St w0 F0 P0 (rowT d e v xs :: ts) w) : ∃ A c, v = .slice A xs.length c := by
  obtain ⟨ok, hN⟩ := h.row
  exact Kd.N_slice hN
theorem St.reads {A : Option Addr} {n c : Nat} (h : St w0 F0 P0 (rowT d e (.slice A n c) xs :: ts) w) : n = xs.length ∧ xs.length ≤ c ∧ d.C w A xs.length xs := by
  obtain ⟨ok, hN⟩ := h.row
  obtain ⟨h1, h2, h3⟩ := Kd.N_reads' hN
  exact ⟨h1, by omega, h3⟩
/-- A row that is written no more. -/
theorem St.freeze {A : Option Addr} {n c : Nat} (h : St w0 F0 P0 (rowT d e (.slice A n c) xs :: ts) w) : n = xs.length ∧ xs.length ≤ c ∧ St w0 F0 P0 (valT (fun W => d.C W A xs.length xs) :: ts) w := by
  obtain ⟨r1, r2, r3⟩ := h.reads
  obtain ⟨F, ⟨F1, F2, h1, h2, h3, h4⟩, hm⟩ := h
  subst r1
  have hf : ∀ k, F k → F0 k ∨ w0.heap.size ≤ k := hm.fresh
  refine ⟨rfl, r2, ⟨⟨F2, ⟨fun _ => False, F2, fun k => by simp, ⟨fun _ => id, Kd.F_mono (Kd.N_F h2.2) (fun k a => ?_)⟩, fun k a => a.elim, h4.mono (fun k a => ⟨a.1, fun b => a.2 ((h1 k).mpr (.inr b))⟩)⟩, ⟨hm.os, hm.tape, hm.output, hm.size, hm.block, fun k a => hf k ((h1 k).mpr (.inr a))⟩⟩⟩⟩
  rcases a with a | a
  · exact ⟨.inr (hf k ((h1 k).mpr (.inl a))), h3 k a⟩
  · exact ⟨a.1, fun b => a.2 ((h1 k).mpr (.inr b))⟩
/-- A row that a call has made. -/
theorem St.got (h : St w0 F0 P0 ts w) {base : Nat} {ok : Nat → Prop} (hr : d.R e w' base ok v xs) (hb : Below w.heap.size w w') (hbase : w.heap.size ≤ base) : St w0 F0 P0 (rowT d e v xs :: ts) w' := by
  have hN := Kd.R_N (Kd.R_bound hr)
  refine h.made hb (fun P hP => ⟨fun k => v.ownBlock = some k, ⟨fun k => Iff.rfl, Kd.N_mono (Kd.N_lower hN (Nat.zero_le _)) (fun k a => ?_)⟩, fun k a => ?_⟩)
  · by_cases hv : v.ownBlock = some k
    · exact .inl hv
    · exact .inr (.inr ⟨Nat.le_trans hbase a.2.1, hv⟩)
  · exact Nat.le_trans hbase (Kd.N_base hN k a)
/-- A new box. -/
theorem St.box (h : St w0 F0 P0 ts w) (cells : Array Value) (e : Nat) : St w0 F0 P0 (boxT w.heap.size e cells :: ts) (w.alloc (.cells cells e)) := by
  refine h.made (below_alloc (Below.refl _ _) _) (fun P hP => ⟨fun k => k = w.heap.size, ⟨fun k => Iff.rfl, ?_⟩, fun k a => by omega⟩)
  show (w.heap.push _)[w.heap.size]? = _
  rw [Array.getElem?_push, if_pos rfl]
theorem St.boxed {b : Nat} {cells : Array Value} (h : St w0 F0 P0 (boxT b e cells :: ts) w) : w.heap[b]? = some (.cells cells e (0, 0)) ∧ b < w.heap.size := by
  obtain ⟨F, ⟨F1, F2, h1, h2, h3, h4⟩, hm⟩ := h
  exact ⟨h2.2, (Array.getElem?_eq_some_iff.mp h2.2).1⟩
theorem St.box_cell {b : Nat} {cells : Array Value} (h : St w0 F0 P0 (boxT b e cells :: ts) w) (j : Nat) (u : Value) (hj : cells[j]? = some u) : w.cell? ⟨b, j, none⟩ = some u ∧ w.frozen? ⟨b, j, none⟩ = false := by
  have hb := h.boxed.1
  constructor
  · simp [World.cell?, hb, hj]
  · simp [World.frozen?, hb]
theorem St.box_set {b : Nat} {cells : Array Value} (h : St w0 F0 P0 (boxT b e cells :: ts) w) (j : Nat) (u : Value) : St w0 F0 P0 (boxT b e (cells.setIfInBounds j u) :: ts) (w.setCell ⟨b, j, none⟩ u) := by
  obtain ⟨F1, P1, h1, hk⟩ := St.part (ts1 := [boxT b e cells]) h
  refine hk _ [_] ?_
  obtain ⟨F, ⟨G1, G2, g1, g2, g3, g4⟩, hm⟩ := h1
  refine ⟨⟨F, ⟨G1, G2, g1, ⟨g2.1, ?_⟩, g3, g4⟩, ⟨rfl, rfl, rfl, by simp, fun k hk hF => Below.heap_setCell w _ _ _ (fun e => hF ?_), fun k a => hm.fresh k a⟩⟩⟩
  · simp [World.setCell, Array.getElem?_modify, g2.2, Array.setIfInBounds]
  · have hF1 : F k := (g1 k).mpr (.inl ((g2.1 k).mpr e))
    rcases hm.fresh k hF1 with c | c
    · exact c
    · exact absurd hk (by omega)
end
section
variable {P : Program} {ops : Array Oper} {rest : List Oper} {o : Oper} {a : Act} {Q : Exit → Act → World → Prop} {α : Type}
variable {W W0 : World} {F0 P0 : Nat → Prop} {ts : List Thing}
/-- append(v, x) onto a row of one's own. -/
theorem St.append (d : Kd α) (hgd : o.guard = none) (s x : Operand) (t e : TypeId) (z : Value) (bytes : Nat)
    (ho : o.op = .call { callee := .builtin .append, args := #[s, x], argTypes := #[t, t] })
    (ht : P.underlying t = some (.slice e)) (hinfo : (P.info? e).map (fun i => (i.zero, i.size, i.bytes)) = some (some z, d.sz, bytes)) (hz : z.cells.size = d.sz) (hs0 : 0 < d.sz) (hb0 : 0 < bytes)
    (v : Value) (xs : List α) (p : α) (cs : List Value) (hs : a.eval s = v) (hx : a.eval x = .slice (some ⟨W.heap.size, 0, none⟩) 1 1)
    (HS : St W0 F0 P0 (valT (fun W => d.K W p cs) :: rowT d e v xs :: ts) W) (hl : (xs.length + 1) * bytes ≤ 140737488355328)
    (h : ∀ v1 w1, St W0 F0 P0 (rowT d e v1 (xs ++ [p]) :: ts) w1 → wpList P ops Q rest (a.put o.dst v1) w1) :
    wpList P ops Q (o :: rest) a (W.alloc (.cells cs.toArray e)) := by
  obtain ⟨F1, P1, h1, hk⟩ := St.part (ts1 := [valT (fun W => d.K W p cs), rowT d e v xs]) HS
  obtain ⟨F, ⟨A1, A2, a1, a2, a3, B1, B2, b1, b2, b3, b4⟩, hm⟩ := h1
  have hown : ∀ k, v.ownBlock = some k → F k := fun k hk => (a1 k).mpr (.inr ((b1 k).mpr (.inl ((b2.1 k).mpr hk))))
  have hF1 : ∀ k, F k → k < W.heap.size → F1 k := fun k hk hlt => (hm.fresh k hk).elim id (fun c => by omega)
  refine Kd.N_append d (w0 := W) 0 hgd s x t e z bytes ho ht hinfo hz hs0 hb0 v xs p cs (fun k => B1 k ∨ ((P1 k ∨ F1 k ∨ W.heap.size ≤ k) ∧ ¬ F k) ∨ W.heap.size ≤ k) (fun k => (P1 k ∨ F1 k ∨ W.heap.size ≤ k) ∧ ¬ F k) hs hx a2.2 (fun k hk => ⟨.inr (.inl hk), fun e => hk.2 (hown k e.symm)⟩) (fun k hk => .inr (.inr hk)) (Kd.N_mono b2.2 (fun k c => c.imp id .inl)) (Below.refl 0 W) (Nat.zero_le _) hl ?_
  intro v1 w1 hN hb hg hat
  refine h v1 w1 (hk w1 [rowT d e v1 (xs ++ [p])] ⟨⟨fun k => v1.ownBlock = some k, ⟨fun k => v1.ownBlock = some k, fun _ => False, fun k => by simp, ⟨fun k => Iff.rfl, Kd.N_mono hN (fun k c => ?_)⟩, fun k _ => id, fun k => id⟩, ⟨hg.os, hg.tape, hg.output, hg.size, fun k hk hnF => hg.block k hk (fun e1 => hnF (hF1 k (hown k e1.symm) hk)), fun k hk => ?_⟩⟩⟩)
  · by_cases hv : v1.ownBlock = some k
    · exact .inl hv
    · refine .inr ⟨?_, hv⟩
      rcases c with c | c | c
      · have h2 := Kd.N_lt b2.2 k ((b2.1 k).mp c)
        exact .inr (.inl (hF1 k (hown k ((b2.1 k).mp c)) h2))
      · exact c.1
      · exact .inr (.inr c)
  · rcases hat with c | ⟨b, c, hle⟩
    · rw [c] at hk
      exact .inl (hF1 k (hown k hk) (Kd.N_lt b2.2 k hk))
    · rw [c] at hk
      injection hk with hk
      subst hk
      exact .inr hle
/-- append(v, ys...) onto a row of one's own; ys is read. -/
theorem St.append_rows (d : Kd α) (hgd : o.guard = none) (s x : Operand) (t e : TypeId) (z : Value) (bytes : Nat)
    (ho : o.op = .call { callee := .builtin .append, args := #[s, x], argTypes := #[t, t] })
    (ht : P.underlying t = some (.slice e)) (hinfo : (P.info? e).map (fun i => (i.zero, i.size, i.bytes)) = some (some z, d.sz, bytes)) (hz : z.cells.size = d.sz) (hs0 : 0 < d.sz) (hb0 : 0 < bytes)
    (v : Value) (xs ys : List α) (A : Option Addr) (m c : Nat) (hs : a.eval s = v) (hx : a.eval x = .slice A m c)
    (HS : St W0 F0 P0 (valT (fun W => d.C W A m ys) :: rowT d e v xs :: ts) W) (hl : (xs.length + m) * bytes ≤ 140737488355328)
    (h : ∀ v1 w1, St W0 F0 P0 (rowT d e v1 (xs ++ ys) :: ts) w1 → wpList P ops Q rest (a.put o.dst v1) w1) :
    wpList P ops Q (o :: rest) a W := by
  obtain ⟨F1, P1, h1, hk⟩ := St.part (ts1 := [valT (fun W => d.C W A m ys), rowT d e v xs]) HS
  obtain ⟨F, ⟨A1, A2, a1, a2, a3, B1, B2, b1, b2, b3, b4⟩, hm⟩ := h1
  have hown : ∀ k, v.ownBlock = some k → F k := fun k hk => (a1 k).mpr (.inr ((b1 k).mpr (.inl ((b2.1 k).mpr hk))))
  have hF1 : ∀ k, F k → k < W.heap.size → F1 k := fun k hk hlt => (hm.fresh k hk).elim id (fun c => by omega)
  refine Kd.N_append_rows d (w0 := W) 0 hgd s x t e z bytes ho ht hinfo hz hs0 hb0 v xs ys A m c (fun k => B1 k ∨ ((P1 k ∨ F1 k ∨ W.heap.size ≤ k) ∧ ¬ F k) ∨ W.heap.size ≤ k) (fun k => (P1 k ∨ F1 k ∨ W.heap.size ≤ k) ∧ ¬ F k) hs hx (Kd.N_mono b2.2 (fun k c => c.imp id .inl)) a2.2 (fun k hk => ⟨.inr (.inl hk), fun e => hk.2 (hown k e.symm)⟩) (fun k hk => .inr (.inr hk)) (Below.refl 0 W) (Nat.zero_le _) hl ?_
  intro v1 w1 hN hb hg hat
  refine h v1 w1 (hk w1 [rowT d e v1 (xs ++ ys)] ⟨⟨fun k => v1.ownBlock = some k, ⟨fun k => v1.ownBlock = some k, fun _ => False, fun k => by simp, ⟨fun k => Iff.rfl, Kd.N_mono hN (fun k c => ?_)⟩, fun k _ => id, fun k => id⟩, ⟨hg.os, hg.tape, hg.output, hg.size, fun k hk hnF => hg.block k hk (fun e1 => hnF (hF1 k (hown k e1.symm) hk)), fun k hk => ?_⟩⟩⟩)
  · by_cases hv : v1.ownBlock = some k
    · exact .inl hv
    · refine .inr ⟨?_, hv⟩
      rcases c with c | c | c
      · have h2 := Kd.N_lt b2.2 k ((b2.1 k).mp c)
        exact .inr (.inl (hF1 k (hown k ((b2.1 k).mp c)) h2))
      · exact c.1
      · exact .inr (.inr c)
  · rcases hat with c | ⟨b, c, hle⟩
    · rw [c] at hk
      exact .inl (hF1 k (hown k hk) (Kd.N_lt b2.2 k hk))
    · rw [c] at hk
      injection hk with hk
      subst hk
      exact .inr hle
end
end Go.Proofs.Ytpoecjieagkoaaa.Own
