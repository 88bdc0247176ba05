/- Heap: the first one; it is taken; the document's example. No condition. -/
import Derived.Test.YtkbjihnkbfjhmaaHeap5
namespace Go.Proofs.Ytkbjihnkbfjhmaa.Heap
open Go Go.RowKit Go.Proofs.Ytkbjihnkbfjhmaa.Own Go.Proofs.YtkbjihnkbfjhmaaW.PrintWords Go.Proofs.YtkbjihnkbfjhmaaW.PrintLast Go.Proofs.YtkbjihnkbfjhmaaW.PrintMore
set_option linter.unusedVariables false
set_option linter.unusedSimpArgs false
def Tm.agg (x : Tm) : Value := .agg #[.int .i64 x.t, .int .i64 x.s, .int .i64 x.g]
def zeroTm : Tm := ⟨0, 0, 0⟩
section
variable {w0 w w' : World} {F0 P0 : Nat → Prop} {ts : List Thing} {p eB : Nat} {cells : Array Value} {v : Value} {l : List Tm}
theorem first_none (w : World) : Calls Try.prog 15 #[.pointer none] w fun e w' => e = .returned (.tuple #[zeroTm.agg, .bool false]) ∧ Below w.heap.size w w' := by
  go_enter Try.func15, Try.ntmps15
  go_wp2_with (go_at_call 13; (with_reducible refine (len_none _).mono ?_); rintro e w1 ⟨rfl, rfl⟩)
  refine bodyPost_ret (v := .tuple #[zeroTm.agg, .bool false]) (by simp [results, Try.results15, go_sem]; rfl) rfl ⟨rfl, ?_⟩
  exact below_alloc (Below.refl _ _) _
theorem first_nil (h : St w0 F0 P0 (boxT p eB cells :: rowT kTm 23 v [] :: ts) w) (hv : cells[0]? = some v) :
    Calls Try.prog 15 #[.pointer (some ⟨p, 0, none⟩)] w fun e w' => e = .returned (.tuple #[zeroTm.agg, .bool false]) ∧ Below w.heap.size w w' := by
  obtain ⟨A, c, rfl⟩ := h.drop.slice
  have HS := Aside0.mk h
  have HV := Aside0.mk hv
  clear h hv
  go_enter Try.func15, Try.ntmps15
  go_wp2_with (go_at_call 13; (with_reducible refine (len_st (HS.out.below (below_alloc (Below.refl _ _) _)) HV.out).mono ?_); rintro e w1 ⟨rfl, rfl⟩)
  refine bodyPost_ret (v := .tuple #[zeroTm.agg, .bool false]) (by simp [results, Try.results15, go_sem]; rfl) rfl ⟨rfl, ?_⟩
  exact below_alloc (Below.refl _ _) _
theorem first_cons {x : Tm} (h : St w0 F0 P0 (boxT p eB cells :: rowT kTm 23 v (x :: l) :: ts) w) (hv : cells[0]? = some v) (hlen : l.length ≤ 1000000) :
    Calls Try.prog 15 #[.pointer (some ⟨p, 0, none⟩)] w fun e w' => e = .returned (.tuple #[x.agg, .bool true]) ∧ Below w.heap.size w w' := by
  obtain ⟨g, c, rfl, a0, a1, a2⟩ := elem (h.drop) (i := 0) (by simp)
  simp only [Nat.zero_mul, Nat.zero_add, List.getElem_cons_zero] at a0 a1 a2
  have ch := (h.box_cell 0 _ hv).1
  have HS := Aside0.mk h
  have HV := Aside0.mk hv
  have hb1 := World.block_lt_of_cell? w _ a0
  have hb2 := World.block_lt_of_cell? w _ ch
  have p1 : (((x :: l).length : Nat) : Int) = (l.length : Int) + 1 := by simp
  have e1 : (((l.length : Int) + 1) == 0) = false := beq_eq_false_iff_ne.mpr (by omega)
  have e2 : (0 : Int) < (l.length : Int) + 1 := by omega
  clear h hv p1
  go_enter Try.func15, Try.ntmps15
  go_wp2_with (go_at_call 13; (with_reducible refine (len_st (HS.out.below (below_alloc (Below.refl _ _) _)) HV.out).mono ?_); rintro e w1 ⟨rfl, rfl⟩)
  refine bodyPost_ret (v := .tuple #[x.agg, .bool true]) (by simp [results, Try.results15, go_sem]; rfl) rfl ⟨rfl, ?_⟩
  exact below_alloc (Below.refl _ _) _
theorem St_take {A : Option Addr} {n c : Nat} (h : St w0 F0 P0 (rowT kTm 23 (.slice A n c) l :: ts) w) {m : Nat} (hm : m ≤ l.length) (h0 : 0 < l.length) : St w0 F0 P0 (rowT kTm 23 (.slice A m c) (l.take m) :: ts) w := by
  obtain ⟨F, ⟨F1, F2, h1, h2, h3, h4⟩, hm'⟩ := h
  refine ⟨⟨F, ⟨F1, F2, h1, ⟨fun k => ?_, Kd.N_take h2.2 hm⟩, h3, h4⟩, hm'⟩⟩
  rw [h2.1]
  cases A <;> exact Iff.rfl
def popL (l : List Tm) : List Tm := downL (l.length - 1 + 1) ((swp l 0 (l.length - 1)).take (l.length - 1)) 0
theorem popL_len (l : List Tm) : (popL l).length = l.length - 1 := by
  unfold popL
  rw [downL_len, List.length_take, swp_len]
  omega
theorem box3 {a b c : Value} {T : Nat} {W w1 : World} (h : Below (W.alloc (.cells #[a, b, c] T)).heap.size (W.alloc (.cells #[a, b, c] T)) w1) :
    (w1.cell? ⟨W.heap.size, 0, none⟩ = some a ∧ w1.cell? ⟨W.heap.size, 1, none⟩ = some b ∧ w1.cell? ⟨W.heap.size, 2, none⟩ = some c) ∧ (w1.frozen? ⟨W.heap.size, 0, none⟩ = false ∧ w1.frozen? ⟨W.heap.size, 1, none⟩ = false ∧ w1.frozen? ⟨W.heap.size, 2, none⟩ = false) ∧ W.heap.size < w1.heap.size := by
  have hs := h.size
  have hz : W.heap.size < (W.alloc (.cells #[a, b, c] T)).heap.size := by simp
  have hb : w1.heap[W.heap.size]? = some (.cells #[a, b, c] T (0, 0)) := (h.block _ hz).trans (by show (W.heap.push _)[W.heap.size]? = _; rw [Array.getElem?_push, if_pos rfl])
  refine ⟨⟨?_, ?_, ?_⟩, ⟨?_, ?_, ?_⟩, by omega⟩
  all_goals first | (simp [World.cell?, hb]; done) | (simp [World.frozen?, hb]; done)
/-- Three stores into a box. -/
theorem St_set3 {b T : Nat} {a0 a1 a2 b0 b1 b2 : Value} (h : St w0 F0 P0 (boxT b T #[a0, a1, a2] :: ts) w) : St w0 F0 P0 (boxT b T #[b0, b1, b2] :: ts) (((w.setCell ⟨b, 0, none⟩ b0).setCell ⟨b, 1, none⟩ b1).setCell ⟨b, 2, none⟩ b2) := by
  have h1 := ((h.box_set 0 b0).box_set 1 b1).box_set 2 b2
  simpa using h1
theorem St_alloc (h : St w0 F0 P0 ts w) (o : Obj) : St w0 F0 P0 ts (w.alloc o) := h.below (below_alloc (Below.refl _ _) _)
theorem box_cells3 {b T : Nat} {a0 a1 a2 : Value} (h : St w0 F0 P0 (boxT b T #[a0, a1, a2] :: ts) w) : (w.cell? ⟨b, 0, none⟩ = some a0 ∧ w.cell? ⟨b, 1, none⟩ = some a1 ∧ w.cell? ⟨b, 2, none⟩ = some a2) ∧ (w.frozen? ⟨b, 0, none⟩ = false ∧ w.frozen? ⟨b, 1, none⟩ = false ∧ w.frozen? ⟨b, 2, none⟩ = false) ∧ b < w.heap.size :=
  ⟨⟨(h.box_cell 0 _ rfl).1, (h.box_cell 1 _ rfl).1, (h.box_cell 2 _ rfl).1⟩, ⟨(h.box_cell 0 _ rfl).2, (h.box_cell 1 _ rfl).2, (h.box_cell 2 _ rfl).2⟩, h.boxed.2⟩
theorem pop_none (w : World) : Calls Try.prog 12 #[.pointer none] w fun e w' => e = .returned (.tuple #[zeroTm.agg, .bool false]) ∧ Below w.heap.size w w' := by
  have HS := Aside0.mk ((St.start w (fun _ => True)).box #[.int .i64 0, .int .i64 0, .int .i64 0] 23)
  go_enter Try.func12, Try.ntmps12
  go_wp2_with (go_at_call 15; (with_reducible refine (first_none _).mono ?_); rintro e w1 ⟨rfl, hb⟩; unfold Tm.agg zeroTm; have hS := HS.out.below hb; obtain ⟨⟨k0, k1, k2⟩, ⟨k3, k4, k5⟩, k6⟩ := box_cells3 hS; have HS1 := Aside0.mk (St_alloc (St_set3 (b0 := .int .i64 0) (b1 := .int .i64 0) (b2 := .int .i64 0) hS) (.cells #[.int .i64 0, .int .i64 0, .int .i64 0] 23)); clear hb hS HS)
  obtain ⟨⟨f0, f1, f2⟩, -⟩ := box_cells3 HS1.out
  refine bodyPost_ret (v := .tuple #[zeroTm.agg, .bool false]) (by simp [results, Try.results12, go_sem, f0, f1, f2]; rfl) rfl ⟨rfl, ?_⟩
  exact HS1.out.bel
end
end Go.Proofs.Ytkbjihnkbfjhmaa.Heap
