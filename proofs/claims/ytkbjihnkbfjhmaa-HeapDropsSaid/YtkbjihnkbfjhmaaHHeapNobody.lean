/- HeapNobody: a heap that is nil has none, and a new one has none. No condition. -/
import Derived.Test.YtkbjihnkbfjhmaaHeapQ
namespace Go.Proofs.Ytkbjihnkbfjhmaa.Heap
open Go Go.RowKit Go.Shelf Go.Proofs.Ytkbjihnkbfjhmaa.Own Go.Proofs.YtkbjihnkbfjhmaaW.PrintWords Go.Proofs.YtkbjihnkbfjhmaaW.PrintLast Go.Proofs.YtkbjihnkbfjhmaaW.PrintMore
set_option linter.unusedVariables false
set_option linter.unusedSimpArgs false
section
variable {w0 w w' : World} {F0 P0 : Nat → Prop} {p : Nat} {l : List Tm} {ts : List Thing}
theorem Hp.dropped (h : Hp w0 F0 P0 p l ts w) (hlen : l.length ≤ 100000) (g n : Int) (hn : (l.length : Int) - ((dropG g l).length : Int) = n) :
    Calls Try.prog 16 #[.pointer (some ⟨p, 0, none⟩), .int .i64 g] w fun e w' => e = .returned (.int .i64 n) ∧ Hp w0 F0 P0 p (dropL g l) ts w' := by
  obtain ⟨v, h⟩ := h
  refine (drop_st h rfl hlen g n hn).mono ?_
  rintro e w' ⟨rfl, v', h'⟩
  exact ⟨rfl, v', h'⟩
theorem Hp.tcells {b : Nat} {a0 a1 a2 : Value} {T : Nat} (h : Hp w0 F0 P0 p l (boxT b T #[a0, a1, a2] :: ts) w) : (w.cell? ⟨b, 0, none⟩ = some a0 ∧ w.cell? ⟨b, 1, none⟩ = some a1 ∧ w.cell? ⟨b, 2, none⟩ = some a2) ∧ b < w.heap.size := by
  obtain ⟨v, h⟩ := h
  obtain ⟨h1, -, h2⟩ := box_cells3 h.drop.drop
  exact ⟨h1, h2⟩
theorem Hp.all_nil (h : Hp w0 F0 P0 p [] ts w) :
    Calls Try.prog 14 #[.pointer (some ⟨p, 0, none⟩)] w fun e w' => ∃ A c, e = .returned (.slice A 0 c) ∧ Below w.heap.size w w' := by
  obtain ⟨v, h⟩ := h
  refine (all_st h rfl (by simp)).mono ?_
  rintro e w' ⟨v', rfl, hO, hB⟩
  rcases hO.2 with ⟨rfl, -⟩ | ⟨g, cap, cur, rfl, -⟩
  · exact ⟨_, _, rfl, hB⟩
  · exact ⟨_, _, rfl, hB⟩
end
theorem dropL_nil (g : Int) : dropL g [] = [] := List.length_eq_zero_iff.mp (by unfold dropL; rw [heapify_len]; simp [dropG])
set_option maxRecDepth 100000 in
set_option maxHeartbeats 4000000 in
theorem nobody_calls (w : World) (x : Tm) :
    Calls Try.prog 8 #[.agg #[.int .i64 x.t, .int .i64 x.s, .int .i64 x.g]] w fun e w' => e = .returned (.bool true) ∧ Below w.heap.size w w' := by
  obtain ⟨t, s, g⟩ := x

  show Calls Try.prog 8 #[.agg #[.int .i64 t, .int .i64 s, .int .i64 g]] w _
  have HS := Aside0.mk ((St.start w (fun _ => True)).box #[.int .i64 t, .int .i64 s, .int .i64 g] 23)
  go_enter Try.func8, Try.ntmps8
  go_wp2_with (first
    | (go_at_call 9; go_loud ((with_reducible refine (shown_calls _).mono ?_); rintro e w1 ⟨rfl, hb⟩; have hS := HS.out.below hb; obtain ⟨⟨k0, k1, k2⟩, -, -⟩ := box_cells3 hS; have HS1 := Aside0.mk hS; clear hb hS HS))
    | (go_at_call 11; (with_reducible refine (push_none ⟨t, s, g⟩ _).mono ?_); rintro e w2 ⟨rfl, hb⟩; have HS2 := Aside0.mk (HS1.out.below hb); clear hb HS1 k0 k1 k2)
    | (go_at_call 12; (with_reducible refine (pop_none _).mono ?_); rintro e w3 ⟨rfl, hb⟩; unfold Tm.agg zeroTm; have HS3 := Aside0.mk (St_alloc (HS2.out.below hb) (.cells #[.int .i64 0, .int .i64 0, .int .i64 0] 23)); clear hb HS2)
    | (go_at_call 15; (with_reducible refine (first_none _).mono ?_); rintro e w4 ⟨rfl, hb⟩; unfold Tm.agg zeroTm; have hS := Hp.new (St_alloc (HS3.out.below hb) (.cells #[.int .i64 0, .int .i64 0, .int .i64 0] 23)); rw [World.size_alloc] at hS; have HS4 := Aside0.mk hS; clear hb HS3 hS)
    | (go_at_call 12; go_loud ((with_reducible refine (Hp.pop_nil HS4.out).mono ?_); rintro e w5 ⟨rfl, hS⟩; unfold Tm.agg zeroTm; replace hS := hS.below (below_alloc (Below.refl _ _) (.cells #[.int .i64 0, .int .i64 0, .int .i64 0] 23)); obtain ⟨⟨k0, k1, k2⟩, k3⟩ := hS.tcells; have HS5 := Aside0.mk hS; clear hS HS4))
    | (go_at_call 16; (with_reducible refine (drop_none g _).mono ?_); rintro e w6 ⟨rfl, hb⟩; have HS6 := Aside0.mk (HS5.out.below hb); clear hb HS5)
    | (go_at_call 14; (with_reducible refine (all_none _).mono ?_); rintro e w7 ⟨rfl, rfl⟩)
    | (go_at_call 13; (with_reducible refine (len_none _).mono ?_); rintro e w8 ⟨rfl, rfl⟩; clear k0 k1 k2 k3; obtain ⟨⟨k0, k1, k2⟩, k3⟩ := HS6.out.tcells)
    | (go_at_call 16; (with_reducible refine (Hp.dropped HS6.out (by simp) g 0 rfl).mono ?_); rintro e w9 ⟨rfl, hS⟩; rw [dropL_nil] at hS; have HS7 := Aside0.mk hS; clear hS HS6)
    | (go_at_call 14; (with_reducible refine (Hp.all_nil HS7.out).mono ?_); rintro e w10 ⟨A1, c1, rfl, hb⟩; have HS8 := Aside0.mk (HS7.out.below hb); clear hb HS7))
  go_ret
  exact ⟨rfl, HS8.out.bel⟩
end Go.Proofs.Ytkbjihnkbfjhmaa.Heap
