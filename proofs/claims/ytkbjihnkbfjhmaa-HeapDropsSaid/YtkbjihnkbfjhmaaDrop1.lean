/- Timers: a row of one's own is shortened, its rest cleared. No condition. -/
import Derived.Test.YtkbjihnkbfjhmaaIter4
import Derived.Lib.SliceRun
namespace Go.Proofs.Ytkbjihnkbfjhmaa.Own
open Go Go.RowKit Go.Proofs.YtkbjihnkbfjhmaaW.PrintWords Go.Proofs.YtkbjihnkbfjhmaaW.PrintLast Go.Proofs.YtkbjihnkbfjhmaaW.PrintMore
section
variable {w0 w w' : World} {F0 P0 : Nat → Prop} {ts : List Thing} {α : Type} {d : Kd α} {e : Nat} {v v' : Value} {l l' : List α}
/-- A row of one's own is turned within its block. -/
theorem St.mod (h : St w0 F0 P0 (rowT d e v l :: ts) w) (hg : w.grownBy w' v.ownBlock) (ho : v'.ownBlock = v.ownBlock) (hN : ∀ ok : Nat → Prop, (∀ k, v'.ownBlock = some k → ok k) → Kd.N d e w' 0 ok v' l') : St w0 F0 P0 (rowT d e v' l' :: ts) w' := by
  obtain ⟨F1, P1, h1, hk⟩ := St.part (ts1 := [rowT d e v l]) h
  obtain ⟨F, ⟨A1, A2, a1, a2, a3, a4⟩, hm⟩ := h1
  have hlt : ∀ k, v.ownBlock = some k → k < w.heap.size := Kd.N_lt a2.2
  have hF : ∀ k, F k ↔ v.ownBlock = some k := fun k => (a1 k).trans ⟨fun c => c.elim (fun q => (a2.1 k).mp q) (fun q => (a4 k q).elim), fun c => .inl ((a2.1 k).mpr c)⟩
  have hF1 : ∀ k, F k → k < w.heap.size → F1 k := fun k hk hlt => (hm.fresh k hk).elim id (fun c => by omega)
  refine hk w' [_] ⟨⟨F, ⟨F, fun _ => False, fun k => by simp, ⟨fun k => by rw [ho]; exact hF k, hN _ (fun k hk => .inl ((hF k).mpr (by rw [← ho]; exact hk)))⟩, fun k _ => id, fun k => id⟩, ⟨hg.os, hg.tape, hg.output, hg.size, fun k hk hnF => hg.block k hk (fun e1 => hnF (hF1 k ((hF k).mpr e1.symm) hk)), fun k hk => .inl (hF1 k hk (hlt k ((hF k).mp hk)))⟩⟩⟩
theorem setCells_heap (g : Nat) : ∀ (vs : List Value) (o : Nat) (w : World) (cur : Array Value) (fr : Nat × Nat), w.heap[g]? = some (.cells cur e fr) → ∃ cur', (w.setCells g o vs).heap[g]? = some (.cells cur' e fr) ∧ cur'.size = cur.size ∧ ∀ t, t < o → cur'[t]? = cur[t]?
  | [], o, w, cur, fr, h => ⟨cur, h, rfl, fun _ _ => rfl⟩
  | x :: r, o, w, cur, fr, h => by
    have h1 : (w.setCell ⟨g, o, none⟩ x).heap[g]? = some (.cells (cur.setIfInBounds o x) e fr) := by
      simp [World.setCell, Array.getElem?_modify, h]
    obtain ⟨cur', h2, h3, h4⟩ := setCells_heap g r (o + 1) _ _ _ h1
    refine ⟨cur', h2, by rw [h3]; simp, fun t ht => (h4 t (by omega)).trans ?_⟩
    rw [Array.getElem?_setIfInBounds_ne (by omega)]
theorem setCells_grown (g : Nat) : ∀ (vs : List Value) (o : Nat) (w : World), w.grownBy (w.setCells g o vs) (some g)
  | [], o, w => ⟨rfl, rfl, rfl, Nat.le_refl _, fun _ _ _ => rfl⟩
  | x :: r, o, w => by
    have h1 := grownBy_setCell_at w g o x
    have h2 := setCells_grown g r (o + 1) (w.setCell ⟨g, o, none⟩ x)
    exact ⟨h2.os.trans h1.os, h2.tape.trans h1.tape, h2.output.trans h1.output, Nat.le_trans h1.size h2.size, fun k hk hne => (h2.block k (Nat.lt_of_lt_of_le hk h1.size) hne).trans (h1.block k hk hne)⟩
where
  grownBy_setCell_at (w : World) (b o : Nat) (v : Value) : w.grownBy (w.setCell ⟨b, o, none⟩ v) (some b) :=
    ⟨rfl, rfl, rfl, by simp, fun k _ hk => Below.heap_setCell w _ v k (fun e => hk (by rw [e]))⟩
end
end Go.Proofs.Ytkbjihnkbfjhmaa.Own
namespace Go.Proofs.Ytkbjihnkbfjhmaa.Heap
open Go Go.Proofs Go.RowKit Go.Shelf Go.Proofs.Ytkbjihnkbfjhmaa.Own Go.Proofs.YtkbjihnkbfjhmaaW.PrintWords Go.Proofs.YtkbjihnkbfjhmaaW.PrintLast Go.Proofs.YtkbjihnkbfjhmaaW.PrintMore
set_option linter.unusedVariables false
set_option linter.unusedSimpArgs false
section
variable {w0 w w' : World} {F0 P0 : Nat → Prop} {ts : List Thing} {v : Value} {l : List Tm}
/-- The block of a row that isn't empty. -/
theorem owns (h : St w0 F0 P0 (rowT kTm 23 v l :: ts) w) (h0 : 0 < l.length) : ∃ g cap cur, v = .slice (some ⟨g, 0, none⟩) l.length cap ∧ w.heap[g]? = some (.cells cur 23 (0, 0)) ∧ l.length ≤ cap ∧ cap ≤ maxLen ∧ cur.size = cap * 3 ∧ cur.toList.take (l.length * 3) = flat l := by
  obtain ⟨ok, hN⟩ := h.row
  have hel := fun (i : Nat) (hi : i < l.length) => elem h hi
  obtain ⟨q0, rows, hl, hR, hf⟩ := hN
  obtain ⟨-, inner, ho, -⟩ := hR
  rcases ho.2 with ⟨hv, h1⟩ | ⟨g, cap, cur, hv, hb, hh, hnc, hcm, hcz, -⟩
  · rw [hl] at h1; omega
  · rw [hl] at hv hnc
    refine ⟨g, cap, cur, hv, hh, hnc, hcm, hcz, List.ext_getElem? fun t => ?_⟩
    by_cases ht : t < l.length * 3
    · rw [List.getElem?_take, if_pos ht, flat_get l t ht, Array.getElem?_toList]
      have hi : t / 3 < l.length := by omega
      obtain ⟨g', c', e1, a0, a1, a2⟩ := hel (t / 3) hi
      rw [hv] at e1
      injection e1 with e1
      injection e1 with e1
      injection e1 with e1
      subst e1
      rw [getElem!_pos l (t / 3) hi]
      generalize l[t / 3] = x at a0 a1 a2
      simp only [World.cell?, hh] at a0 a1 a2
      have h3 : t % 3 = 0 ∨ t % 3 = 1 ∨ t % 3 = 2 := by omega
      rcases h3 with h3 | h3 | h3
      · rw [show t / 3 * 3 = t by omega] at a0; rw [h3]; exact a0
      · rw [show t / 3 * 3 + 1 = t by omega] at a1; rw [h3]; exact a1
      · rw [show t / 3 * 3 + 2 = t by omega] at a2; rw [h3]; exact a2
    · rw [List.getElem?_eq_none (by simp; omega), List.getElem?_eq_none (by rw [flat_len]; omega)]
theorem flat_take (l : List Tm) (i : Nat) (hi : i ≤ l.length) : flat (l.take i) = (flat l).take (i * 3) := by
  have h1 : flat l = flat (l.take i) ++ flat (l.drop i) := by
    unfold flat
    rw [← List.flatMap_append, List.take_append_drop]
  have h2 : (flat (l.take i)).length = i * 3 := by rw [flat_len, List.length_take, Nat.min_eq_left hi]
  rw [h1, ← h2, List.take_left]
theorem zero_cells (w : World) : (zeroValue 23).run Try.prog w = .ok (.agg #[.int .i64 0, .int .i64 0, .int .i64 0]) w := by kernel_rfl
theorem clear_run (ty : TypeId) (w : World) (g o n c : Nat) (cur : Array Value) (hn : 0 < n) (hb : w.heap[g]? = some (.cells cur 23 (0, 0))) (hsz : o + n * 3 ≤ cur.size) :
    (Builtin.clear_ #[27] ty #[.slice (some ⟨g, o, none⟩) n c]).run Try.prog w = .ok (.tuple #[]) (w.setCells g o (Builtin.zeroCells #[.int .i64 0, .int .i64 0, .int .i64 0] n).toList) := by
  have hl : (Builtin.zeroCells #[.int .i64 0, .int .i64 0, .int .i64 0] n).toList.length = n * 3 := by simp [Builtin.zeroCells]
  have hst := run_storeCells_cells (P := Try.prog) g o (Builtin.zeroCells #[.int .i64 0, .int .i64 0, .int .i64 0] n).toList 0 w
    (by rw [hl]; intro j hj; simp only [World.cell?, hb]; rw [Array.getElem?_eq_getElem (by omega)]; rfl)
    (by rw [hl]; intro j hj; simp [World.frozen?, hb])
    (by
      intro u hu
      simp [Builtin.zeroCells] at hu
      obtain ⟨j, -, rfl⟩ := hu
      have h3 : j % 3 = 0 ∨ j % 3 = 1 ∨ j % 3 = 2 := by omega
      rcases h3 with h3 | h3 | h3 <;> rw [h3] <;> rfl)
  simp only [Nat.add_zero] at hst
  obtain ⟨m, rfl⟩ : ∃ m, n = m + 1 := ⟨n - 1, by omega⟩
  simp [Builtin.clear_, run_underlying Try.underlying27, zero_cells, Value.cells, hst]
/-- The rest cleared, the row shortened. -/
theorem cut (h : St w0 F0 P0 (rowT kTm 23 v l :: ts) w) {g c i : Nat} (hv : v = .slice (some ⟨g, 0, none⟩) l.length c) (hi : i ≤ l.length) (h0 : 0 < l.length) (vs : List Value) :
    St w0 F0 P0 (rowT kTm 23 (.slice (some ⟨g, 0, none⟩) i c) (l.take i) :: ts) (w.setCells g (i * 3) vs) := by
  obtain ⟨g', c', cur, hv', hb, h1, h2, h3, h4⟩ := owns h h0
  rw [hv] at hv'
  injection hv' with q1 _ q3
  injection q1 with q1
  injection q1 with q1
  subst q1 q3
  obtain ⟨cur', k1, k2, k3⟩ := setCells_heap g vs (i * 3) w cur (0, 0) hb
  refine h.mod (by rw [hv]; exact setCells_grown g vs (i * 3) w) (by rw [hv]; rfl) (fun ok hok => ?_)
  have hlt : (l.take i).length = i := by rw [List.length_take, Nat.min_eq_left hi]
  have hO : (w.setCells g (i * 3) vs).ownsRow 0 23 3 (.slice (some ⟨g, 0, none⟩) i c) (l.take i).length (flat (l.take i)) := by
    rw [hlt]
    refine ⟨by rw [flat_len, hlt], .inr ⟨g, c, cur', rfl, Nat.zero_le _, k1, by omega, h2, by rw [k2, h3], ?_⟩⟩
    rw [flat_take l i hi, ← h4, List.take_take, Nat.min_eq_left (Nat.mul_le_mul_right _ hi)]
    refine List.ext_getElem? fun t => ?_
    rw [List.getElem?_take, List.getElem?_take]
    split
    · rename_i ht
      rw [Array.getElem?_toList, Array.getElem?_toList]
      exact k3 t ht
    · rfl
  refine Kd.N_mono (Kd.N_bound (Kd.R_N ⟨fun k hk => hk, flat (l.take i), hO, reps_flat _ _ (fun x => M_of _ _ _ x)⟩)) (fun k hk => hok k hk.1)
end
end Go.Proofs.Ytkbjihnkbfjhmaa.Heap
