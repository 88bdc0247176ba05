/- Heap: the first one is taken. No condition. -/
import Derived.Test.YtkbjihnkbfjhmaaHeap6
namespace Go.Proofs.Ytkbjihnkbfjhmaa.Heap
open Go Go.RowKit Go.Proofs.Ytkbjihnkbfjhmaa.Own Go.Proofs.YtkbjihnkbfjhmaaW.PrintWords Go.Proofs.YtkbjihnkbfjhmaaW.PrintLast Go.Proofs.YtkbjihnkbfjhmaaW.PrintMore
set_option linter.unusedVariables false
set_option linter.unusedSimpArgs false
section
variable {w0 w w' : World} {F0 P0 : Nat → Prop} {ts : List Thing} {p eB : Nat} {cells : Array Value} {v : Value} {l : List Tm}
theorem pop_nil (h : St w0 F0 P0 (boxT p eB cells :: rowT kTm 23 v [] :: ts) w) (hv : cells[0]? = some v) :
    Calls Try.prog 12 #[.pointer (some ⟨p, 0, none⟩)] w fun e w' => e = .returned (.tuple #[zeroTm.agg, .bool false]) ∧ St w0 F0 P0 (boxT p eB cells :: rowT kTm 23 v [] :: ts) w' := by
  have HS := Aside0.mk (h.box #[.int .i64 0, .int .i64 0, .int .i64 0] 23)
  have HV := Aside0.mk hv
  clear h hv
  go_enter Try.func12, Try.ntmps12
  go_wp2_with (go_at_call 15; (with_reducible refine (first_nil HS.out.drop HV.out).mono ?_); rintro e w1 ⟨rfl, hb⟩; unfold Tm.agg zeroTm; have hS := HS.out.below hb; obtain ⟨⟨k0, k1, k2⟩, ⟨k3, k4, k5⟩, k6⟩ := box_cells3 hS; have HS1 := Aside0.mk (St_alloc (St_set3 (b0 := .int .i64 0) (b1 := .int .i64 0) (b2 := .int .i64 0) hS) (.cells #[.int .i64 0, .int .i64 0, .int .i64 0] 23)); clear hb hS HS)
  obtain ⟨⟨f0, f1, f2⟩, -⟩ := box_cells3 HS1.out
  refine bodyPost_ret (v := .tuple #[zeroTm.agg, .bool false]) (by simp [results, Try.results12, go_sem, f0, f1, f2]; rfl) rfl ⟨rfl, ?_⟩
  exact HS1.out.drop
theorem swap0 {N : Nat} (h : St w0 F0 P0 (boxT p eB cells :: rowT kTm 23 v l :: ts) w) (hv : cells[0]? = some v) (hN : l.length = N + 1) (hlen : (N : Int) ≤ 100000) :
    Calls Try.prog 24 #[.pointer (some ⟨p, 0, none⟩), .int .i64 0, .int .i64 (N : Int)] w fun e w' => e = .returned (.tuple #[]) ∧ St w0 F0 P0 (boxT p eB cells :: rowT kTm 23 v (swp l 0 N) :: ts) w' :=
  swap_st (i := 0) (k := N) h hv (by omega) (by omega) (by omega)
theorem down0 {N : Nat} (h : St w0 F0 P0 (boxT p eB cells :: rowT kTm 23 v l :: ts) w) (hv : cells[0]? = some v) (hN : l.length = N) (hlen : (N : Int) ≤ 100000) :
    Calls Try.prog 25 #[.pointer (some ⟨p, 0, none⟩), .int .i64 0] w fun e w' => e = .returned (.tuple #[]) ∧ St w0 F0 P0 (boxT p eB cells :: rowT kTm 23 v (downL (N + 1) l 0) :: ts) w' := by
  subst hN
  exact down_st (i := 0) h hv (by omega) (by omega)
theorem take_set {g N c : Nat} (h : St w0 F0 P0 (boxT p eB cells :: rowT kTm 23 (.slice (some ⟨g, 0, none⟩) (N + 1) c) (swp l 0 N) :: ts) w) (hN : l.length = N + 1) :
    St w0 F0 P0 (boxT p eB (cells.setIfInBounds 0 (.slice (some ⟨g, 0, none⟩) N c)) :: rowT kTm 23 (.slice (some ⟨g, 0, none⟩) N c) ((swp l 0 N).take N) :: ts) (w.setCell ⟨p, 0, none⟩ (.slice (some ⟨g, 0, none⟩) N c)) :=
  ((St_take h.swap (by rw [swp_len]; omega) (by rw [swp_len]; omega)).swap).box_set 0 _
set_option maxHeartbeats 2000000 in
theorem pop_cons {x : Tm} (h : St w0 F0 P0 (boxT p eB cells :: rowT kTm 23 v (x :: l) :: ts) w) (hv : cells[0]? = some v) (hlen : l.length ≤ 100000) :
    Calls Try.prog 12 #[.pointer (some ⟨p, 0, none⟩)] w fun e w' => e = .returned (.tuple #[x.agg, .bool true]) ∧ ∃ v', St w0 F0 P0 (boxT p eB (cells.setIfInBounds 0 v') :: rowT kTm 23 v' (popL (x :: l)) :: ts) w' := by
  obtain ⟨A, c, hvs⟩ := h.drop.slice
  have HS := Aside0.mk (h.box #[.int .i64 0, .int .i64 0, .int .i64 0] 23)
  have HV := Aside0.mk hv
  obtain ⟨g, c', hvs2, -⟩ := elem h.drop (i := 0) (by simp)
  obtain rfl : A = some ⟨g, 0, none⟩ := by rw [hvs] at hvs2; injection hvs2
  obtain ⟨N, hN⟩ : ∃ N, N = l.length := ⟨_, rfl⟩
  have hxl : (x :: l).length = N + 1 := by simp [hN]
  rw [hxl] at hvs
  subst hvs
  have hcap : N + 1 ≤ c := by have := h.drop.reads.2.1; omega
  have HX := Aside0.mk hxl
  have hN2 : (N : Int) ≤ 100000 := by omega
  have HN := Aside0.mk hN
  clear h hv hvs2 hN hxl hlen
  have HZ : (cells.setIfInBounds 0 (.slice (some ⟨g, 0, none⟩) N c))[0]? = some (.slice (some ⟨g, 0, none⟩) N c) := by
    have h0 := (Array.getElem?_eq_some_iff.mp HV.out).1
    simp [h0]
  have HZ := Aside0.mk HZ
  have HT := Aside0.mk (show ((swp (x :: l) 0 N).take N).length = N by rw [List.length_take, swp_len, HX.out]; omega)
  go_enter Try.func12, Try.ntmps12
  go_wp2_with (first | (go_at_call 15; go_loud ((with_reducible refine (first_cons HS.out.drop HV.out (by have := HN.out; omega)).mono ?_); rintro e w1 ⟨rfl, hb⟩; unfold Tm.agg; have hS := (HS.out.below hb).rot; have HS1 := Aside0.mk ((hS.box #[.int .i64 x.t, .int .i64 x.s, .int .i64 x.g] 23).rot); have ch := (HS1.out.box_cell 0 _ HV.out).1; clear hb hS HS)) | (go_at_call 24; go_loud ((with_reducible refine (swap0 HS1.out HV.out HX.out hN2).mono ?_); rintro e w2 ⟨rfl, hS⟩; have ch2 := hS.box_cell 0 _ HV.out; obtain ⟨ch3, ch4⟩ := ch2; have HS2 := Aside0.mk (take_set hS HX.out); have ch5 := (HS2.out.box_cell 0 _ HZ.out).1; clear hS HS1)) | (go_at_call 25; go_loud ((with_reducible refine (down0 HS2.out HZ.out HT.out hN2).mono ?_); rintro e w3 ⟨rfl, hS⟩; obtain ⟨⟨m0, m1, m2⟩, -, -⟩ := box_cells3 hS.nth2; obtain ⟨⟨k0, k1, k2⟩, ⟨k3, k4, k5⟩, k6⟩ := box_cells3 hS.drop.drop.drop; have HS3 := Aside0.mk (St_set3 (b0 := .int .i64 x.t) (b1 := .int .i64 x.s) (b2 := .int .i64 x.g) hS.nth2.drop.nth2); clear hS HS2)))
  obtain ⟨⟨f0, f1, f2⟩, -⟩ := box_cells3 HS3.out
  refine bodyPost_ret (v := .tuple #[x.agg, .bool true]) (by simp [results, Try.results12, go_sem, f0, f1, f2]; rfl) rfl ⟨rfl, .slice (some ⟨g, 0, none⟩) N c, ?_⟩
  have h := HS3.out.drop
  unfold popL
  rw [HX.out, Nat.add_sub_cancel]
  exact h
end
end Go.Proofs.Ytkbjihnkbfjhmaa.Heap
