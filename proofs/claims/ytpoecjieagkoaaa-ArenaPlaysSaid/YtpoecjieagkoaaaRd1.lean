/- Values that are read, boxes by their pointers, and the operations that make them, in whatever order. No condition. -/
import Derived.Test.YtpoecjieagkoaaaReg1
import Derived.Test.YtpoecjieagkoaaaOwn3
namespace Go.Proofs.Ytpoecjieagkoaaa.Own
open Go Go.RowKit Go.Proofs.YtpoecjieagkoaaaW.PrintWords Go.Proofs.YtpoecjieagkoaaaW.PrintLast Go.Proofs.YtpoecjieagkoaaaW.PrintMore
set_option linter.unusedVariables false
/-- v reads as the list L. -/
def Rd {α : Type} (d : Kd α) (v : Value) (L : List α) (W : World) : Prop := ∃ A c, v = .slice A L.length c ∧ L.length ≤ c ∧ d.C W A L.length L
def rdT {α : Type} (d : Kd α) (v : Value) (L : List α) : Thing := valT (Rd d v L)
def tupAt : Value → Nat → Value
  | .tuple xs, i => xs.getD i undef
  | v, _ => v
theorem tupAt_tuple0 (a : Value) (r : List Value) : tupAt (.tuple ⟨a :: r⟩) 0 = a := rfl
theorem tupAt_tuple1 (a b : Value) (r : List Value) : tupAt (.tuple ⟨a :: b :: r⟩) 1 = b := rfl
theorem tupAt_tuple2 (a b c : Value) (r : List Value) : tupAt (.tuple ⟨a :: b :: c :: r⟩) 2 = c := rfl
theorem tupAt_tuple3 (a b c d : Value) (r : List Value) : tupAt (.tuple ⟨a :: b :: c :: d :: r⟩) 3 = d := rfl
/-- A block of one's own behind a pointer. -/
def ptrT (v : Value) (e : Nat) (cells : Array Value) : Thing := packT (ι := {b : Nat // v = .pointer (some ⟨b, 0, none⟩)}) (fun b => [boxT b.1 e cells])
section
variable {w0 w w' : World} {F0 P0 : Nat → Prop} {t u : Thing} {ts : List Thing} {α : Type} {d : Kd α} {e : Nat} {v : Value} {xs L : List α}
theorem St.rd_of_row (h : St w0 F0 P0 (rowT d e v xs :: ts) w) : St w0 F0 P0 (rdT d v xs :: ts) w := by
  obtain ⟨A, c, rfl⟩ := h.slice
  obtain ⟨-, hc, h2⟩ := h.freeze
  exact h2.imp (fun W hC => ⟨A, c, rfl, hc, hC⟩)
theorem St.slice_ (h : St w0 F0 P0 (rowT d e v xs :: ts) w) : ∃ A n c, v = .slice A n c := by
  obtain ⟨A, c, rfl⟩ := h.slice
  exact ⟨_, _, _, rfl⟩
theorem St.rd_open (h : St w0 F0 P0 (rdT d v L :: ts) w) : ∃ A c, v = .slice A L.length c ∧ L.length ≤ c ∧ d.C w A L.length L := St.now h
theorem St.rd_C {A : Option Addr} {n c : Nat} (h : St w0 F0 P0 (rdT d (.slice A n c) L :: ts) w) : n = L.length ∧ L.length ≤ c ∧ d.C w A L.length L := by
  obtain ⟨A', c', h1, h2, h3⟩ := h.rd_open
  injection h1 with h4 h5 h6
  subst h4; subst h6
  exact ⟨h5, h2, h3⟩
theorem St.rd_nil (h : St w0 F0 P0 ts w) (d : Kd α) : St w0 F0 P0 (rdT d (.slice none 0 0) ([] : List α) :: ts) w :=
  h.pure (fun W => ⟨none, 0, rfl, Nat.le_refl _, ⟨rfl, by simp, fun h => absurd h (by simp)⟩⟩)
theorem St.drops {ts1 : List Thing} (h : St w0 F0 P0 (ts1 ++ ts) w) : St w0 F0 P0 ts w := by
  induction ts1 with
  | nil => exact h
  | cons a r ih => exact ih h.drop
theorem St.mem {t : Thing} (hm : t ∈ ts) (h : St w0 F0 P0 ts w) : St w0 F0 P0 [t] w := by
  obtain ⟨s, r, rfl⟩ := List.append_of_mem hm
  have h1 := (St.pick h).perm (ts' := (s ++ r) ++ [t]) (List.perm_append_comm (l₁ := [t]) (l₂ := s ++ r))
  exact h1.drops
/-- A value that is read is read once more. -/
theorem St.copy {Q : World → Prop} (hm : valT Q ∈ ts) (h : St w0 F0 P0 ts w) : St w0 F0 P0 (valT Q :: ts) w := by
  obtain ⟨s, r, rfl⟩ := List.append_of_mem hm
  exact ((St.pick h).dup).perm (List.Perm.cons _ List.perm_middle.symm)
theorem St.form (h : St w0 F0 P0 (rowT d e v xs :: ts) w) (hp : 0 < xs.length) : ∃ g cap, v = .slice (some ⟨g, 0, none⟩) xs.length cap := by
  obtain ⟨ok, hN⟩ := h.row
  obtain ⟨g, cap, hv, -⟩ := Kd.N_form hN hp
  exact ⟨g, cap, hv⟩
theorem St.int_cell {k : IntKind} {g n c : Nat} {zs : List Int} (h : St w0 F0 P0 (rowT (Kd.int k) e (.slice (some ⟨g, 0, none⟩) n c) zs :: ts) w) (i : Int) (h0 : 0 ≤ i) (h1 : i < zs.length) : w.cell? ⟨g, i.toNat, none⟩ = some (.int k (rd zs i)) := by
  obtain ⟨-, -, hC⟩ := h.reads
  obtain ⟨ad, e1, hcell⟩ := Kd.at_int hC i h0 h1
  injection e1 with e1
  subst e1
  have h3 : (⟨g, 0, none⟩ : Addr).add i.toNat = ⟨g, i.toNat, none⟩ := by simp only [Addr.add]; split <;> simp_all
  rw [h3] at hcell
  exact hcell
theorem St.ptr_of_box {b : Nat} {cells : Array Value} (h : St w0 F0 P0 (boxT b e cells :: ts) w) : St w0 F0 P0 (ptrT (.pointer (some ⟨b, 0, none⟩)) e cells :: ts) w := St.pack (f := fun b' : {b' : Nat // (Value.pointer (some ⟨b, 0, none⟩)) = .pointer (some ⟨b', 0, none⟩)} => [boxT b'.1 e cells]) ⟨b, rfl⟩ h
theorem St.ptr_open {cells : Array Value} (h : St w0 F0 P0 (ptrT v e cells :: ts) w) : ∃ b, v = .pointer (some ⟨b, 0, none⟩) ∧ St w0 F0 P0 (boxT b e cells :: ts) w := by
  obtain ⟨⟨b, hb⟩, h2⟩ := h.unpack
  exact ⟨b, hb, h2⟩
/-- What a store has written: the pointer and the value. -/
def ghostT (v : Value) (e : Nat) : Thing := packT (ι := {x : Value × Value // v = .tuple #[x.1, x.2]}) (fun x => [ptrT x.1.1 e x.1.2.cells])
theorem St.ghost {p x : Value} (h : St w0 F0 P0 (ptrT p e x.cells :: ts) w) : St w0 F0 P0 (ghostT (.tuple #[p, x]) e :: ts) w := St.pack (f := fun y : {y : Value × Value // (Value.tuple #[p, x]) = .tuple #[y.1, y.2]} => [ptrT y.1.1 e y.1.2.cells]) ⟨(p, x), rfl⟩ h
theorem St.ghost_open {p x : Value} (h : St w0 F0 P0 (ghostT (.tuple #[p, x]) e :: ts) w) : St w0 F0 P0 (ptrT p e x.cells :: ts) w := by
  obtain ⟨⟨⟨q, y⟩, hy⟩, h2⟩ := h.unpack
  simp only [Value.tuple.injEq, Array.mk.injEq, List.cons.injEq, and_true] at hy
  obtain ⟨rfl, rfl⟩ := hy
  exact h2
/-- A value that is read, made of what is new. -/
theorem St.made_val {Q : World → Prop} (h : St w0 F0 P0 ts w) (hb : Below w.heap.size w w') (hQ : Foot Q w' (fun k => w.heap.size ≤ k)) : St w0 F0 P0 (valT Q :: ts) w' :=
  h.made hb (fun P hP => ⟨fun _ => False, ⟨fun _ => id, Foot.mono hQ (fun k a => .inr ⟨a, id⟩)⟩, fun k a => a.elim⟩)
theorem St.split {Q Q' : World → Prop} (h : St w0 F0 P0 (valT (fun W => Q W ∧ Q' W) :: ts) w) : St w0 F0 P0 (valT Q :: valT Q' :: ts) w := ((h.dup.imp (fun W a => a.2)).swap.imp (fun W a => a.1))
theorem foot_rd {base B : Nat} {ok : Nat → Prop} (hr : d.R e w' base ok v xs) (hB : B ≤ base) : Foot (Rd d v xs) w' (fun k => B ≤ k) := by
  obtain ⟨A, c, rfl⟩ := Kd.R_slice hr
  have h1 := Kd.R_F (Kd.R_bound hr)
  have h2 := (Kd.R_reads' hr).2.1
  exact Foot.mono (Foot.imp h1 (fun W hC => ⟨A, c, rfl, h2, hC⟩)) (fun k a => Nat.le_trans hB a.2.1)
theorem St.box_sets {b : Nat} {cells : Array Value} (h : St w0 F0 P0 (boxT b e cells :: ts) w) (vs : List Value) (hl : vs.length = cells.size) : St w0 F0 P0 (boxT b e vs.toArray :: ts) (w.setCells b 0 vs) := by
  obtain ⟨F1, P1, h1, hk⟩ := St.part (ts1 := [boxT b e cells]) h
  refine hk _ [_] ?_
  obtain ⟨F, ⟨G1, G2, g1, g2, g3, g4⟩, hm⟩ := h1
  obtain ⟨s1, s2, s3, s4⟩ := setCells_same b vs 0 w
  obtain ⟨cur', c1, c2, c3⟩ := setCells_row vs 0 w cells g2.2 (by omega)
  refine ⟨⟨F, ⟨G1, G2, g1, ⟨g2.1, ?_⟩, g3, g4⟩, ⟨s1, s2, s3, by omega, fun k hk hF => setCells_far vs 0 k (fun e => hF ?_), fun k a => hm.fresh k a⟩⟩⟩
  · have : cur' = vs.toArray := by
      apply Array.ext'
      rw [c3, List.take_zero, List.drop_of_length_le (by rw [Array.length_toList]; omega)]
      simp
    rw [← this]; exact c1
  · have hF1 : F k := (g1 k).mpr (.inl ((g2.1 k).mpr e))
    rcases hm.fresh k hF1 with c | c
    · exact c
    · exact absurd hk (by omega)
end
section
variable {P : Program} {ops : Array Oper} {rest : List Oper} {o : Oper} {a : Act} {Q : Exit → Act → World → Prop} {Kc : Act → World → Prop} {α : Type}
variable {W W0 : World} {F0 P0 : Nat → Prop} {ts : List Thing}
/-- append(v, x...) in whatever order; x is read. -/
theorem St.app_step (d : Kd α) (hw : Region.wanted o (yielded ops a.tmps) = true) (s x : Operand) (t e : TypeId) (z : Value) (bytes : Nat)
    (ho : o.op = .call { callee := .builtin .append, args := #[s, x], argTypes := #[t, t] })
    (ht : P.underlying t = some (.slice e)) (hinfo : (P.info? e).map (fun i => (i.zero, i.size, i.bytes)) = some (some z, d.sz, bytes)) (hz : z.cells.size = d.sz) (hs0 : 0 < d.sz) (hb0 : 0 < bytes)
    {v u : Value} {xs ys : List α} (hs : a.eval s = v) (hx : a.eval x = u)
    (HS : St W0 F0 P0 (rdT d u ys :: rowT d e v xs :: ts) W) (hl : (xs.length + ys.length) * bytes ≤ 140737488355328)
    (h : ∀ v1 w1, St W0 F0 P0 (rowT d e v1 (xs ++ ys) :: ts) w1 → Kc (a.put o.dst v1) w1) :
    if Region.wanted o (yielded ops a.tmps) = true then Oper.wp P o a W Kc Q else Kc (a.put o.dst undef) W := by
  obtain ⟨A, c, rfl, hc, hC⟩ := HS.rd_open
  obtain ⟨F1, P1, h1, hk⟩ := St.part (ts1 := [rdT d (.slice A ys.length c) ys, rowT d e v xs]) HS
  obtain ⟨F, ⟨A1, A2, a1, a2, a3, B1, B2, b1, b2, b3, b4⟩, hm⟩ := h1
  have hown : ∀ k, v.ownBlock = some k → F k := fun k hk => (a1 k).mpr (.inr ((b1 k).mpr (.inl ((b2.1 k).mpr hk))))
  have hF1 : ∀ k, F k → k < W.heap.size → F1 k := fun k hk hlt => (hm.fresh k hk).elim id (fun c => by omega)
  have hFt : Kd.F d W (fun k => (P1 k ∨ F1 k ∨ W.heap.size ≤ k) ∧ ¬ F k) A ys.length ys := Foot.imp a2.2 (fun W' hR => by
    obtain ⟨A', c', e1, -, e3⟩ := hR
    injection e1 with e1
    subst e1; exact e3)
  refine Kd.N_append_rows_step d (w0 := W) 0 hw s x t e z bytes ho ht hinfo hz hs0 hb0 v xs ys A ys.length c (fun k => B1 k ∨ ((P1 k ∨ F1 k ∨ W.heap.size ≤ k) ∧ ¬ F k) ∨ W.heap.size ≤ k) (fun k => (P1 k ∨ F1 k ∨ W.heap.size ≤ k) ∧ ¬ F k) hs hx (Kd.N_mono b2.2 (fun k c => c.imp id .inl)) hFt (fun k hk => ⟨.inr (.inl hk), fun e => hk.2 (hown k e.symm)⟩) (fun k hk => .inr (.inr hk)) (Below.refl 0 W) (Nat.zero_le _) hl ?_
  intro v1 w1 hN hb hg hat
  refine h v1 w1 (hk w1 [rowT d e v1 (xs ++ ys)] ⟨⟨fun k => v1.ownBlock = some k, ⟨fun k => v1.ownBlock = some k, fun _ => False, fun k => by simp, ⟨fun k => Iff.rfl, Kd.N_mono hN (fun k c => ?_)⟩, fun k _ => id, fun k => id⟩, ⟨hg.os, hg.tape, hg.output, hg.size, fun k hk hnF => hg.block k hk (fun e1 => hnF (hF1 k (hown k e1.symm) hk)), fun k hk => ?_⟩⟩⟩)
  · by_cases hv : v1.ownBlock = some k
    · exact .inl hv
    · refine .inr ⟨?_, hv⟩
      rcases c with c | c | c
      · have h2 := Kd.N_lt b2.2 k ((b2.1 k).mp c)
        exact .inr (.inl (hF1 k (hown k ((b2.1 k).mp c)) h2))
      · exact c.1
      · exact .inr (.inr c)
  · rcases hat with c | ⟨b, c, hle⟩
    · rw [c] at hk
      exact .inl (hF1 k (hown k hk) (Kd.N_lt b2.2 k hk))
    · rw [c] at hk
      injection hk with hk
      subst hk
      exact .inr hle
/-- A literal whose elements' cells are read. -/
theorem St.lit_step (d : Kd α) (e : Nat) (hw : Region.wanted o (yielded ops a.tmps) = true) {N' : Tmp} (hd : o.dst = some N') {xs : List α} {inner : List Value}
    (hrun : (execOp a.eval o).run P W = .ok (.value (.slice (some ⟨W.heap.size, 0, none⟩) xs.length xs.length)) (W.alloc (.cells inner.toArray e)))
    (HS : St W0 F0 P0 (valT (fun W => Reps (d.K W) d.sz xs inner) :: ts) W) (hm : xs.length ≤ 9223372036854775807)
    (h : ∀ v1 w1, St W0 F0 P0 (rowT d e v1 xs :: ts) w1 → Kc (a.put o.dst v1) w1) :
    if Region.wanted o (yielded ops a.tmps) = true then Oper.wp P o a W Kc Q else Kc (a.put o.dst undef) W := by
  obtain ⟨F1, P1, h1, hk⟩ := St.part (ts1 := [valT (fun W => Reps (d.K W) d.sz xs inner)]) HS
  obtain ⟨F, ⟨A1, A2, a1, a2, a3, a4⟩, hm1⟩ := h1
  have hrep : Reps (Kd.FK d W (fun k => (P1 k ∨ F1 k ∨ W.heap.size ≤ k) ∧ ¬ F k)) d.sz xs inner := ⟨(Foot.now a2.2).1, fun j p hj => Foot.imp a2.2 (fun W' hR => hR.2 j p hj)⟩
  refine Kd.N_lit_step d (w0 := W) 0 e hw hd hrun hrep (ok := fun k => P1 k ∨ F1 k ∨ W.heap.size ≤ k) (fun k a => a.1) (.inr (.inr (Nat.le_refl _))) (Below.refl 0 W) (Nat.zero_le _) hm ?_
  intro v1 w1 hN hb hg hat
  refine h v1 w1 (hk w1 [rowT d e v1 xs] ⟨⟨fun k => v1.ownBlock = some k, ⟨fun k => v1.ownBlock = some k, fun _ => False, fun k => by simp, ⟨fun k => Iff.rfl, Kd.N_mono hN (fun k c => ?_)⟩, fun k _ => id, fun k => id⟩, ⟨hg.os, hg.tape, hg.output, hg.size, fun k hk hnF => hg.block k hk (by simp), fun k hk => ?_⟩⟩⟩)
  · by_cases hv : v1.ownBlock = some k
    · exact .inl hv
    · exact .inr ⟨c, hv⟩
  · obtain ⟨b, c, hle⟩ := hat
    rw [c] at hk
    injection hk with hk
    subst hk
    exact .inr hle
/-- A literal of whole numbers. -/
theorem St.ints_step (k : IntKind) (e : Nat) (hw : Region.wanted o (yielded ops a.tmps) = true) {N' : Tmp} (hd : o.dst = some N') (xs : List Int)
    (hrun : (execOp a.eval o).run P W = .ok (.value (.slice (some ⟨W.heap.size, 0, none⟩) xs.length xs.length)) (W.alloc (.cells (nums k xs).toArray e)))
    (HS : St W0 F0 P0 ts W) (hm : xs.length ≤ 9223372036854775807)
    (h : ∀ v1 w1, St W0 F0 P0 (rowT (Kd.int k) e v1 xs :: ts) w1 → Kc (a.put o.dst v1) w1) :
    if Region.wanted o (yielded ops a.tmps) = true then Oper.wp P o a W Kc Q else Kc (a.put o.dst undef) W := by
  refine St.lit_step (Kd.int k) e hw hd hrun (HS.pure fun W' => ?_) hm h
  exact Kd.reps_scalar xs
/-- A new variable. -/
theorem St.alloc_step (e : Nat) (hw : Region.wanted o (yielded ops a.tmps) = true) {cells : Array Value}
    (hrun : (execOp a.eval o).run P W = .ok (.value (.pointer (some ⟨W.heap.size, 0, none⟩))) (W.alloc (.cells cells e)))
    (HS : St W0 F0 P0 ts W)
    (h : ∀ v1 w1, St W0 F0 P0 (ptrT v1 e cells :: ts) w1 → Kc (a.put o.dst v1) w1) :
    if Region.wanted o (yielded ops a.tmps) = true then Oper.wp P o a W Kc Q else Kc (a.put o.dst undef) W :=
  value_ hw rfl hrun (h _ _ (HS.box cells e).ptr_of_box)
/-- A whole variable is written. -/
theorem St.set_step {e : Nat} (hw : Region.wanted o (yielded ops a.tmps) = true) (t : TypeId) (p x : Operand) (hN : o.dst = none) (ho : o.op = .store t p x) {vp u : Value} {cells : Array Value}
    (hp : a.eval p = vp) (hx : a.eval x = u) (ht : (P.info? t).map (·.size) = some u.cells.size) (hsz : cells.size = u.cells.size) (hone : ∀ c ∈ u.cells.toList, c.oneCell' = true)
    (HS : St W0 F0 P0 (ptrT vp e cells :: ts) W)
    (h : ∀ w1, St W0 F0 P0 (ptrT vp e u.cells :: ts) w1 → Kc a w1) : if Region.wanted o (yielded ops a.tmps) = true then Oper.wp P o a W Kc Q else Kc (a.put none undef) W := by
  obtain ⟨b, rfl, hB⟩ := HS.ptr_open
  have hb := hB.boxed.1
  have hrun : (Instr.storeAt t (.pointer (some ⟨b, 0, none⟩)) u).run P W = .ok () (W.setCells b 0 u.cells.toList) := run_store_run t u u.cells.toList hb rfl (by rw [Array.length_toList]; exact ht) (by rw [Array.length_toList]; omega) hone
  rw [if_pos hw]
  unfold Oper.wp execOp
  simp only [ho, hp, hx, Sem.run_bind, Sem.run_pure, Result.andThen_ok, hrun]
  show Kc (a.put o.dst undef) _
  rw [hN]
  have h2 := (hB.box_sets u.cells.toList (by rw [Array.length_toList]; omega)).ptr_of_box
  rw [show u.cells.toList.toArray = u.cells from by simp] at h2
  exact h _ h2
end
end Go.Proofs.Ytpoecjieagkoaaa.Own
