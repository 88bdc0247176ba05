/- HeapOrder: Compare is an order of timers, and 0 just of the same. No condition. -/
import Derived.Test.YtkbjihnkbfjhmaaHeap8
namespace Go.Proofs.Ytkbjihnkbfjhmaa.Heap
open Go Go.RowKit Go.Proofs.Ytkbjihnkbfjhmaa.Own Go.Proofs.YtkbjihnkbfjhmaaW.PrintWords Go.Proofs.YtkbjihnkbfjhmaaW.PrintLast Go.Proofs.YtkbjihnkbfjhmaaW.PrintMore
set_option linter.unusedVariables false
set_option linter.unusedSimpArgs false
theorem sgn_neg (a b : Int) : sgn a b = - sgn b a := by unfold sgn; split <;> split <;> (try split) <;> omega
theorem sgn_bd (a b : Int) : -1 ≤ sgn a b ∧ sgn a b ≤ 1 := by unfold sgn; split <;> (try split) <;> omega
theorem sgn_zero (a b : Int) : sgn a b = 0 ↔ a = b := by unfold sgn; split <;> (try split) <;> omega
theorem sgn_le (a b : Int) : sgn a b ≤ 0 ↔ a ≤ b := by unfold sgn; split <;> (try split) <;> omega
theorem cmp_neg (x y : Tm) : cmpT x y = - cmpT y x := by
  unfold cmpT
  rw [sgn_neg x.t y.t, sgn_neg x.s y.s, sgn_neg x.g y.g]
  split <;> split <;> (try split) <;> (try split) <;> omega
theorem cmp_bd (x y : Tm) : -1 ≤ cmpT x y ∧ cmpT x y ≤ 1 := by
  have h1 := sgn_bd x.t y.t
  have h2 := sgn_bd x.s y.s
  have h3 := sgn_bd x.g y.g
  unfold cmpT
  split <;> (try split) <;> omega
theorem cmp_zero (x y : Tm) : cmpT x y = 0 ↔ x = y := by
  have h1 := sgn_zero x.t y.t
  have h2 := sgn_zero x.s y.s
  have h3 := sgn_zero x.g y.g
  obtain ⟨a, b, c⟩ := x
  obtain ⟨d, e, f⟩ := y
  simp only at h1 h2 h3
  unfold cmpT
  simp only [Tm.mk.injEq]
  split
  · omega
  · split
    · omega
    · omega
theorem cmp_le (x y : Tm) : cmpT x y ≤ 0 ↔ x.t < y.t ∨ x.t = y.t ∧ (x.s < y.s ∨ x.s = y.s ∧ x.g ≤ y.g) := by
  have h1 := sgn_zero x.t y.t
  have h2 := sgn_zero x.s y.s
  have h4 := sgn_le x.t y.t
  have h5 := sgn_le x.s y.s
  have h6 := sgn_le x.g y.g
  unfold cmpT
  split
  · omega
  · split
    · omega
    · omega
theorem cmp_trans (x y z : Tm) (h1 : cmpT x y ≤ 0) (h2 : cmpT y z ≤ 0) : cmpT x z ≤ 0 := by
  rw [cmp_le] at *
  omega
/-- The cells of three boxes. -/
def Nine (B : Nat) (x y z : Tm) (w : World) : Prop :=
  w.cell? ⟨B, 0, none⟩ = some (.int .i64 x.t) ∧ w.cell? ⟨B, 1, none⟩ = some (.int .i64 x.s) ∧ w.cell? ⟨B, 2, none⟩ = some (.int .i64 x.g) ∧ w.cell? ⟨B + 1, 0, none⟩ = some (.int .i64 y.t) ∧ w.cell? ⟨B + 1, 1, none⟩ = some (.int .i64 y.s) ∧ w.cell? ⟨B + 1, 2, none⟩ = some (.int .i64 y.g) ∧ w.cell? ⟨B + 2, 0, none⟩ = some (.int .i64 z.t) ∧ w.cell? ⟨B + 2, 1, none⟩ = some (.int .i64 z.s) ∧ w.cell? ⟨B + 2, 2, none⟩ = some (.int .i64 z.g)
theorem Nine.below {B : Nat} {x y z : Tm} {w w' : World} (h : Nine B x y z w) (hb : Below w.heap.size w w') : Nine B x y z w' := by
  obtain ⟨h0, h1, h2, h3, h4, h5, h6, h7, h8⟩ := h
  exact ⟨cell_below h0 hb, cell_below h1 hb, cell_below h2 hb, cell_below h3 hb, cell_below h4 hb, cell_below h5 hb, cell_below h6 hb, cell_below h7 hb, cell_below h8 hb⟩
theorem cmp_v (x y : Tm) (w : World) {d : Int} (h : cmpT x y = d) : Calls Try.prog 10 #[.agg #[.int .i64 x.t, .int .i64 x.s, .int .i64 x.g], .agg #[.int .i64 y.t, .int .i64 y.s, .int .i64 y.g]] w fun e w' => e = .returned (.int .i64 d) ∧ Below w.heap.size w w' := h ▸ cmp_calls x y w
set_option maxHeartbeats 1000000 in
theorem order_calls (w : World) (x y z : Tm) : Calls Try.prog 3 #[.agg #[.int .i64 x.t, .int .i64 x.s, .int .i64 x.g], .agg #[.int .i64 y.t, .int .i64 y.s, .int .i64 y.g], .agg #[.int .i64 z.t, .int .i64 z.s, .int .i64 z.g]] w fun e w' => e = .returned (.bool true) ∧ Below w.heap.size w w' := by
  obtain ⟨W, hW⟩ : ∃ W, W = ((w.alloc (.cells #[.int .i64 x.t, .int .i64 x.s, .int .i64 x.g] 23)).alloc (.cells #[.int .i64 y.t, .int .i64 y.s, .int .i64 y.g] 23)).alloc (.cells #[.int .i64 z.t, .int .i64 z.s, .int .i64 z.g] 23) := ⟨_, rfl⟩
  have HB := Aside0.mk (show Below w.heap.size w W by rw [hW]; exact below_alloc (below_alloc (below_alloc (Below.refl _ _) _) _) _)
  have H9 := Aside0.mk (show Nine w.heap.size x y z W by rw [hW]; refine ⟨?_, ?_, ?_, ?_, ?_, ?_, ?_, ?_, ?_⟩ <;> go_simp)
  have HW := Aside0.mk hW
  clear hW
  obtain ⟨d, hd⟩ : ∃ d, cmpT x y = d := ⟨_, rfl⟩
  obtain ⟨e, he⟩ : ∃ e, cmpT y z = e := ⟨_, rfl⟩
  obtain ⟨f, hf⟩ : ∃ f, cmpT x z = f := ⟨_, rfl⟩
  have hg : cmpT y x = -d := by have := cmp_neg x y; omega
  have hdb := cmp_bd x y
  have htr := cmp_trans x y z
  rw [hd, he, hf] at htr
  rw [hd] at hdb
  have hz := cmp_zero x y
  rw [hd] at hz
  have D := Aside0.mk hd
  have E := Aside0.mk he
  have F := Aside0.mk hf
  have G := Aside0.mk hg
  clear hd he hf hg
  have ge1 : decide (-1 ≤ d) = true := decide_eq_true hdb.1
  have le1 : decide (d ≤ 1) = true := decide_eq_true hdb.2
  by_cases hxy : x = y
  · subst hxy
    obtain rfl : d = 0 := hz.mpr rfl
    clear hz
    go_enter Try.func3, Try.ntmps3
    go_wp2_with (first | (go_at_call 9; (with_reducible refine (shown_calls _).mono ?_); rintro e w1 ⟨rfl, hb⟩; rw [← HW.out] at hb; have HB1 := Aside0.mk (HB.out.trans (hb.mono HB.out.size)); have N1 := Aside0.mk (H9.out.below hb); obtain ⟨c0, c1, c2, c3, c4, c5, c6, c7, c8⟩ := N1.out; clear HB H9 hb) | (go_at_call 10; (with_reducible refine (cmp_v _ _ _ D.out).mono ?_); rintro e w2 ⟨rfl, hb⟩; have HB2 := Aside0.mk (HB1.out.trans (hb.mono HB1.out.size)); have N2 := Aside0.mk (N1.out.below hb); clear c0 c1 c2 c3 c4 c5 c6 c7 c8; obtain ⟨c0, c1, c2, c3, c4, c5, c6, c7, c8⟩ := N2.out; clear HB1 N1 hb) | (go_at_call 10; (with_reducible refine (cmp_v _ _ _ E.out).mono ?_); rintro e w3 ⟨rfl, hb⟩; have HB3 := Aside0.mk (HB2.out.trans (hb.mono HB2.out.size)); have N3 := Aside0.mk (N2.out.below hb); clear c0 c1 c2 c3 c4 c5 c6 c7 c8; obtain ⟨c0, c1, c2, c3, c4, c5, c6, c7, c8⟩ := N3.out; clear HB2 N2 hb) | (go_at_call 10; (with_reducible refine (cmp_v _ _ _ F.out).mono ?_); rintro e w4 ⟨rfl, hb⟩; have HB4 := Aside0.mk (HB3.out.trans (hb.mono HB3.out.size)); have N4 := Aside0.mk (N3.out.below hb); clear c0 c1 c2 c3 c4 c5 c6 c7 c8; obtain ⟨c0, c1, c2, c3, c4, c5, c6, c7, c8⟩ := N4.out; clear HB3 N3 hb) | (go_at_call 10; (with_reducible refine (cmp_v _ _ _ G.out).mono ?_); rintro e w5 ⟨rfl, hb⟩; have HB5 := Aside0.mk (HB4.out.trans (hb.mono HB4.out.size)); have N5 := Aside0.mk (N4.out.below hb); clear c0 c1 c2 c3 c4 c5 c6 c7 c8; obtain ⟨c0, c1, c2, c3, c4, c5, c6, c7, c8⟩ := N5.out; clear HB4 N4 hb))
    all_goals (go_ret; first | exact ⟨rfl, HB5.out⟩ | (exfalso; first | omega | simp_all))
  · have hd0 : (d == 0) = false := beq_eq_false_iff_ne.mpr (fun e => hxy (hz.mp e))
    clear hz
    go_enter Try.func3, Try.ntmps3
    go_wp2_with (first | (go_at_call 9; (with_reducible refine (shown_calls _).mono ?_); rintro e w1 ⟨rfl, hb⟩; rw [← HW.out] at hb; have HB1 := Aside0.mk (HB.out.trans (hb.mono HB.out.size)); have N1 := Aside0.mk (H9.out.below hb); obtain ⟨c0, c1, c2, c3, c4, c5, c6, c7, c8⟩ := N1.out; clear HB H9 hb) | (go_at_call 10; (with_reducible refine (cmp_v _ _ _ D.out).mono ?_); rintro e w2 ⟨rfl, hb⟩; have HB2 := Aside0.mk (HB1.out.trans (hb.mono HB1.out.size)); have N2 := Aside0.mk (N1.out.below hb); clear c0 c1 c2 c3 c4 c5 c6 c7 c8; obtain ⟨c0, c1, c2, c3, c4, c5, c6, c7, c8⟩ := N2.out; clear HB1 N1 hb) | (go_at_call 10; (with_reducible refine (cmp_v _ _ _ E.out).mono ?_); rintro e w3 ⟨rfl, hb⟩; have HB3 := Aside0.mk (HB2.out.trans (hb.mono HB2.out.size)); have N3 := Aside0.mk (N2.out.below hb); clear c0 c1 c2 c3 c4 c5 c6 c7 c8; obtain ⟨c0, c1, c2, c3, c4, c5, c6, c7, c8⟩ := N3.out; clear HB2 N2 hb) | (go_at_call 10; (with_reducible refine (cmp_v _ _ _ F.out).mono ?_); rintro e w4 ⟨rfl, hb⟩; have HB4 := Aside0.mk (HB3.out.trans (hb.mono HB3.out.size)); have N4 := Aside0.mk (N3.out.below hb); clear c0 c1 c2 c3 c4 c5 c6 c7 c8; obtain ⟨c0, c1, c2, c3, c4, c5, c6, c7, c8⟩ := N4.out; clear HB3 N3 hb) | (go_at_call 10; (with_reducible refine (cmp_v _ _ _ G.out).mono ?_); rintro e w5 ⟨rfl, hb⟩; have HB5 := Aside0.mk (HB4.out.trans (hb.mono HB4.out.size)); have N5 := Aside0.mk (N4.out.below hb); clear c0 c1 c2 c3 c4 c5 c6 c7 c8; obtain ⟨c0, c1, c2, c3, c4, c5, c6, c7, c8⟩ := N5.out; clear HB4 N4 hb))
    all_goals (go_ret; first | exact ⟨rfl, HB5.out⟩ | (exfalso; first | omega | (apply hxy; cases x; cases y; simp_all; done) | simp_all))
end Go.Proofs.Ytkbjihnkbfjhmaa.Heap
