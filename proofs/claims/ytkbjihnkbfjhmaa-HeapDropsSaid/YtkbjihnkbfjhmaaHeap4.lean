/- Heap: a timer is put in; the first one. No condition. -/
import Derived.Test.YtkbjihnkbfjhmaaHeap3
namespace Go.Proofs.Ytkbjihnkbfjhmaa.Heap
open Go Go.RowKit Go.Proofs.Ytkbjihnkbfjhmaa.Own Go.Proofs.YtkbjihnkbfjhmaaW.PrintWords Go.Proofs.YtkbjihnkbfjhmaaW.PrintLast Go.Proofs.YtkbjihnkbfjhmaaW.PrintMore
set_option linter.unusedVariables false
set_option linter.unusedSimpArgs false
theorem infoT : (Try.prog.info? 23).map (fun i => (i.zero, i.size, i.bytes)) = some (some (.agg #[.int .i64 0, .int .i64 0, .int .i64 0]), kTm.sz, 24) := by kernel_rfl
section
variable {w0 w w' : World} {F0 P0 : Nat → Prop} {ts : List Thing} {p eB : Nat} {cells : Array Value} {v : Value} {l : List Tm}
theorem keep4 {a0 a1 a2 a3 : Addr} {v0 v1 v2 v3 : Value} (h : w.cell? a0 = some v0 ∧ w.cell? a1 = some v1 ∧ w.cell? a2 = some v2 ∧ w.cell? a3 = some v3) (hb : Below w.heap.size w w') :
    w'.cell? a0 = some v0 ∧ w'.cell? a1 = some v1 ∧ w'.cell? a2 = some v2 ∧ w'.cell? a3 = some v3 := by
  obtain ⟨h0, h1, h2, h3⟩ := h
  exact ⟨cell_below h0 hb, cell_below h1 hb, cell_below h2 hb, cell_below h3 hb⟩
def pushL (l : List Tm) (x : Tm) : List Tm := upL l.length (l ++ [x]) l.length
theorem pushL_len (l : List Tm) (x : Tm) : (pushL l x).length = l.length + 1 := by unfold pushL; rw [upL_len]; simp
set_option maxHeartbeats 2000000 in
theorem push_st (h : St w0 F0 P0 (boxT p eB cells :: rowT kTm 23 v l :: ts) w) (hv : cells[0]? = some v) (hlen : l.length ≤ 100000) (x : Tm) :
    Calls Try.prog 11 #[.pointer (some ⟨p, 0, none⟩), .agg #[.int .i64 x.t, .int .i64 x.s, .int .i64 x.g]] w fun e w' => e = .returned (.tuple #[]) ∧ ∃ v', St w0 F0 P0 (boxT p eB (cells.setIfInBounds 0 v') :: rowT kTm 23 v' (pushL l x) :: ts) w' := by
  obtain ⟨ch, cf⟩ := h.box_cell 0 _ hv
  have hlt := h.boxed.2
  have HS := Aside0.mk (h.below (below_alloc (Below.refl _ _) (.cells #[.int .i64 x.t, .int .i64 x.s, .int .i64 x.g] 23))).swap
  have HV := Aside0.mk hv
  have hBox : (w.alloc (.cells #[.int .i64 x.t, .int .i64 x.s, .int .i64 x.g] 23)).drew.cell? ⟨p, 0, none⟩ = some v ∧ (w.alloc (.cells #[.int .i64 x.t, .int .i64 x.s, .int .i64 x.g] 23)).drew.cell? ⟨w.heap.size, 0, none⟩ = some (.int .i64 x.t) ∧ (w.alloc (.cells #[.int .i64 x.t, .int .i64 x.s, .int .i64 x.g] 23)).drew.cell? ⟨w.heap.size, 1, none⟩ = some (.int .i64 x.s) ∧ (w.alloc (.cells #[.int .i64 x.t, .int .i64 x.s, .int .i64 x.g] 23)).drew.cell? ⟨w.heap.size, 2, none⟩ = some (.int .i64 x.g) := by
    refine ⟨cell_below (w := w) ch (below_drew1 (below_alloc (Below.refl _ _) _)), ?_, ?_, ?_⟩ <;> go_simp
  clear h hv
  go_enter Try.func11, Try.ntmps11
  go_wp2
  refine start_ (n := 11) (S := fun w' => w'.cell? ⟨p, 0, none⟩ = some v ∧ w'.cell? ⟨w.heap.size, 0, none⟩ = some (.int .i64 x.t) ∧ w'.cell? ⟨w.heap.size, 1, none⟩ = some (.int .i64 x.s) ∧ w'.cell? ⟨w.heap.size, 2, none⟩ = some (.int .i64 x.g)) (ds := [7, 10]) #[false, false, false, false, false, false, false, false, false, false, false] (by kernel_rfl) rfl rfl ?_ (fun hHeld => ?_)
  · exact hBox
  refine pure_ (i := 0) (N := (some 6)) (v := ?_) (a' := ?_) #[true, false, false, false, false, false, false, false, false, false, false] rfl rfl (by kernel_rfl) (fun _ _ _ h => h) (Or.inl ⟨by rfl, ?_⟩) ?_ ?_
  rotate_left
  · intro w'; go_simp; with_reducible rfl
  rotate_left
  · simp only [Act.put, List.setIfInBounds_toArray, List.set_cons_zero, List.set_cons_succ]; rfl
  refine pure_ (i := 1) (N := (some 7)) (v := ?_) (a' := ?_) #[true, true, false, false, false, false, false, false, false, false, false] rfl rfl (by kernel_rfl) (fun _ _ _ h => h) (Or.inl ⟨by rfl, ?_⟩) ?_ ?_
  rotate_left
  · intro w'; go_simp; with_reducible rfl
  rotate_left
  · simp only [Act.put, List.setIfInBounds_toArray, List.set_cons_zero, List.set_cons_succ]; rfl
  refine pure_ (i := 2) (N := (some 8)) (v := ?_) (a' := ?_) #[true, true, true, false, false, false, false, false, false, false, false] rfl rfl (by kernel_rfl) (fun _ _ _ h => h) (Or.inl ⟨by rfl, ?_⟩) ?_ ?_
  rotate_left
  · intro w'; go_simp; with_reducible rfl
  rotate_left
  · simp only [Act.put, List.setIfInBounds_toArray, List.set_cons_zero, List.set_cons_succ]; rfl
  refine pure_ (i := 3) (N := (some 9)) (v := ?_) (a' := ?_) #[true, true, true, true, false, false, false, false, false, false, false] rfl rfl (by kernel_rfl) (fun _ _ _ h => h) (Or.inl ⟨by rfl, ?_⟩) ?_ ?_
  rotate_left
  · intro w'; go_simp; with_reducible rfl
  rotate_left
  · simp only [Act.put, List.setIfInBounds_toArray, List.set_cons_zero, List.set_cons_succ]; rfl
  refine take_ (i := 4) (N := (some 10)) (v := ?_) (a' := ?_) #[true, true, true, true, true, false, false, false, false, false, false] rfl rfl (by kernel_rfl) (fun _ _ _ h => h) (Or.inl ⟨by rfl, ?_⟩) hHeld ?_ ?_
  rotate_left
  · (intro w' hw'_; try dsimp only at hw'_); go_split_ands; go_simp; with_reducible rfl
  rotate_left
  · simp only [Act.put, List.setIfInBounds_toArray, List.set_cons_zero, List.set_cons_succ]; rfl
  refine take_ (i := 5) (N := (some 11)) (v := ?_) (a' := ?_) #[true, true, true, true, true, true, false, false, false, false, false] rfl rfl (by kernel_rfl) (fun _ _ _ h => h) (Or.inl ⟨by rfl, ?_⟩) hHeld ?_ ?_
  rotate_left
  · (intro w' hw'_; try dsimp only at hw'_); go_split_ands; go_simp; with_reducible rfl
  rotate_left
  · simp only [Act.put, List.setIfInBounds_toArray, List.set_cons_zero, List.set_cons_succ]; rfl
  refine one_ (i := 6) (N := (some 12)) #[true, true, true, true, true, true, true, false, false, false, false] rfl rfl (by kernel_rfl) (by decide) (fun K hK => ?_)
  refine value_ (w1 := ?_) (v := ?_) (by rfl) rfl ?_ ?_
  rotate_left 2
  · go_simp
    constructor
    · rfl
    · rfl
  refine hK.out _ _ (keep4 hHeld (below_alloc (Below.refl _ _) _)) (fun hHeld => ?_)
  clear hK
  refine norm_ (a' := ?_) ?_ ?_
  rotate_left
  · simp only [Act.put, List.setIfInBounds_toArray, List.set_cons_zero, List.set_cons_succ]; rfl
  refine last_ (i := 7) (N := (some 13)) #[true, true, true, true, true, true, true, true, false, false, false] rfl rfl (by kernel_rfl) (by decide) (fun K hK => ?_)
  refine St.append_step kTm rfl (.tmp 10) (.tmp 12) 27 23 (.agg #[.int .i64 0, .int .i64 0, .int .i64 0]) 24 rfl Try.underlying27 infoT rfl (by decide) (by decide) v l x [.int .i64 x.t, .int .i64 x.s, .int .i64 x.g] rfl (by simp [Act.eval]) ((HS.out.drawn ⟨1, rfl⟩).pure (fun W => kTm_mk W x)) (by omega) ?_
  intro v1 w1 hS
  obtain ⟨A1, c1, e1⟩ := hS.slice
  rw [List.length_append, List.length_singleton] at e1
  subst e1
  obtain ⟨z1, z2⟩ := hS.swap.box_cell 0 _ HV.out
  have HS1 := Aside0.mk (hS.swap.box_set 0 (.slice A1 (l.length + 1) c1)).swap
  clear hS HS hHeld
  refine hK.out _ _ ?_
  clear hK
  refine norm_ (a' := ?_) ?_ ?_
  rotate_left
  · simp only [Act.put, List.setIfInBounds_toArray, List.set_cons_zero, List.set_cons_succ]; rfl
  refine pure_ (i := 8) (N := (some 14)) (v := ?_) (a' := ?_) #[true, true, true, true, true, true, true, true, true, false, false] rfl rfl (by kernel_rfl) (fun _ _ _ h => h) (Or.inl ⟨by rfl, ?_⟩) ?_ ?_
  rotate_left
  · intro w'; go_simp; with_reducible rfl
  rotate_left
  · simp only [Act.put, List.setIfInBounds_toArray, List.set_cons_zero, List.set_cons_succ]; rfl
  refine pure_ (i := 9) (N := (some 15)) (v := ?_) (a' := ?_) #[true, true, true, true, true, true, true, true, true, true, false] rfl rfl (by kernel_rfl) (fun _ _ _ h => h) (Or.inl ⟨by rfl, ?_⟩) ?_ ?_
  rotate_left
  · intro w'; go_simp; with_reducible rfl
  rotate_left
  · simp only [Act.put, List.setIfInBounds_toArray, List.set_cons_zero, List.set_cons_succ]; rfl
  refine last_ (i := 10) (N := none) #[true, true, true, true, true, true, true, true, true, true, true] rfl rfl (by kernel_rfl) (by decide) (fun K hK => ?_)
  refine skip_ (w1 := ?_) (by rfl) rfl ?_ ?_
  rotate_left
  · go_simp
    rfl
  refine hK.out _ _ ?_
  clear hK
  refine done_ (by kernel_rfl) ?_
  have hcz : (cells.setIfInBounds 0 (.slice A1 (l.length + 1) c1))[0]? = some (.slice A1 (l.length + 1) c1) := by
    have h0 := (Array.getElem?_eq_some_iff.mp HV.out).1
    simp [h0]
  have HCZ := Aside0.mk hcz
  have HL := Aside0.mk (show l.length < (l ++ [x]).length ∧ (l ++ [x]).length ≤ 1000000 by simp; omega)
  clear hcz
  go_wp2_with (go_at_call 23; (with_reducible refine (up_st HS1.out.swap HCZ.out HL.out.1 HL.out.2).mono ?_); rintro e w2 ⟨rfl, hS⟩; have HS2 := Aside0.mk hS; clear hS HS1)
  go_end0
  refine ⟨rfl, .slice A1 (l.length + 1) c1, ?_⟩
  unfold pushL
  exact HS2.out
theorem push_none (x : Tm) (w : World) :
    Calls Try.prog 11 #[.pointer none, .agg #[.int .i64 x.t, .int .i64 x.s, .int .i64 x.g]] w fun e w' => e = .returned (.tuple #[]) ∧ Below w.heap.size w w' := by
  go_enter Try.func11, Try.ntmps11
  go_wp2
  refine bodyPost_ret (results_none rfl _ _ _) rfl ?_
  exact ⟨rfl, below_alloc (Below.refl _ _) _⟩
end
end Go.Proofs.Ytkbjihnkbfjhmaa.Heap
