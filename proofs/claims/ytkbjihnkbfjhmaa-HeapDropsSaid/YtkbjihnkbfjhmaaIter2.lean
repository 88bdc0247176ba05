/- Timers gathered from an iterator. No condition. -/
import Derived.Test.YtkbjihnkbfjhmaaIter1
import Derived.Maps.AppendAt
namespace Go.Proofs.Ytkbjihnkbfjhmaa.Heap
open Go Go.Proofs Go.RowKit Go.Shelf Go.Proofs.Ytkbjihnkbfjhmaa.Own Go.Proofs.YtkbjihnkbfjhmaaW.PrintWords Go.Proofs.YtkbjihnkbfjhmaaW.PrintLast Go.Proofs.YtkbjihnkbfjhmaaW.PrintMore
set_option linter.unusedVariables false
set_option linter.unusedSimpArgs false
attribute [local go_sem] Oper.semAt_some
def flat (l : List Tm) : List Value := l.flatMap Tm.cells
theorem flat_snoc (l : List Tm) (x : Tm) : flat (l ++ [x]) = flat l ++ x.cells := by simp [flat]
theorem cells_three (W : World) (a b c : Value) (e : TypeId) : ∀ j u, [a, b, c][j]? = some u → (W.alloc (.cells #[a, b, c] e)).cell? ((⟨W.heap.size, 0, none⟩ : Addr).add j) = some u := by
  intro j u hj
  have h0 : (W.alloc (.cells #[a, b, c] e)).heap[W.heap.size]? = some (.cells #[a, b, c] e) := World.alloc_heap_new W _
  have h1 : (⟨W.heap.size, 0, none⟩ : Addr).add j = ⟨W.heap.size, j, none⟩ := by
    simp only [Addr.add]; split
    · simp_all
    · simp
  rw [h1]
  unfold World.cell?
  rw [h0]
  simpa using hj
theorem cells_of {W : World} {B : Nat} {e : TypeId} {a b c : Value} (h : W.heap[B]? = some (.cells #[a, b, c] e (0, 0))) : W.cell? ⟨B, 0, none⟩ = some a ∧ W.cell? ⟨B, 1, none⟩ = some b ∧ W.cell? ⟨B, 2, none⟩ = some c := by
  refine ⟨?_, ?_, ?_⟩ <;> simp [World.cell?, h]
set_option maxRecDepth 100000 in
set_option maxHeartbeats 4000000 in
theorem appendSeq_in (F : Fence) (n : Nat) (hF : F.fn 38) (hV : F.fn 36) (hro : F.round = none) (hn : 4 ≤ n) (Bs : Nat) (A : Option Addr) (c : Nat) (zs : List Tm) (hsm : zs.length ≤ 1000000) (w : World) (hBs : Bs < w.heap.size)
    (hc : w.cell? ⟨Bs, 0, none⟩ = some (.slice A zs.length c)) (hR : ∀ W', Below w.heap.size w W' → kTm.C W' A zs.length zs) :
    CallsIn F n Try.prog 38 #[.slice none 0 0, .func (.func 36) #[] #[.pointer (some ⟨Bs, 0, none⟩)]] w fun e W' => ∃ v, e = .returned v ∧ W'.ownsRow w.heap.size 23 3 v zs.length (flat zs) ∧ Below w.heap.size w W' := by
  have h1 : 1 ≤ n := by omega
  obtain ⟨i0, hi, hz0, hz1, hz2⟩ := info_parts infoT
  refine callsIn_of_wp_marks Try.func38 rfl hF ?_ hro
  simp only [Try.ntmps38, List.size_toArray, List.length_cons, List.length_nil, Nat.reduceAdd, Nat.reduceSub, Array.replicate_succ, Array.replicate_zero, List.push_toArray, List.append_toArray, List.nil_append, List.cons_append]
  gi_wp2
  have bO := Boxed.new w 27 (.slice none 0 0)
  have hB0 : Below w.heap.size w (w.alloc (.cells #[.slice none 0 0] 27)) := (Below.refl _ w).alloc (Nat.le_refl _) _
  have hcW := (hB0.cell (p := ⟨Bs, 0, none⟩) hBs).trans hc
  have hsW : (w.alloc (.cells #[.slice none 0 0] 27)).heap.size = w.heap.size + 1 := by simp
  refine wpIn_rangeFunc_ownH hro h1 (gf := 36) (lb := #[.pointer (some ⟨Bs, 0, none⟩)]) rfl hV (enters_of Try.func36 (by kernel_rfl) rfl)
    (values_stops F (n - 1) hV hro (by omega) Bs w.heap.size A c zs hsm (w.alloc (.cells #[.slice none 0 0] 27)) (by omega) (by omega) hcW (fun W' h => hR W' (hB0.trans h))) belowK_t (belowK_b (by omega)) (Below.refl _ _) (fun _ => rfl)
    (fun pre W => (∃ v, Boxed W w.heap.size 27 v ∧ W.ownsRow w.heap.size 23 3 v pre.length (flat pre) ∧ (v = .slice none 0 0 ↔ pre.length = 0)) ∧ Below w.heap.size w W)
    (fun _ _ _ => False)
    (OwnFrom.and (Own.from (holdsRow_own w.heap.size w.heap.size 27 23 3 (fun pre : List Tm => pre.length) flat (fun (pre : List Tm) v => v = .slice none 0 0 ↔ pre.length = 0)) _) (ownFrom_below (Nat.le_refl _) (by omega)))
    (fun _ _ _ _ _ hs _ _ => hs)
    ⟨⟨_, bO, World.ownsRow_nil _ _ _ _, by simp⟩, hB0⟩
    (fun x a' W => ∃ Bx, W.heap[Bx]? = some (.cells #[.int .i64 x.t, .int .i64 x.s, .int .i64 x.g] 23 (0, 0)) ∧ a' = { tmps := #[.slice none 0 0, .func (.func 36) #[] #[.pointer (some ⟨Bs, 0, none⟩)], .pointer (some ⟨w.heap.size, 0, none⟩), undef, .slice none 0 0, .pointer (some ⟨Bx, 0, none⟩), .func (.func 36) #[] #[.pointer (some ⟨Bs, 0, none⟩)], x.agg, undef, undef, undef, undef, undef], defers := [] })
    (fun x a' _ X Y row hs hg hr => by
      obtain ⟨Bx, q0, q3⟩ := hs
      refine ⟨Bx, (hg.block Bx (Array.getElem?_eq_some_iff.1 q0).1 (fun e => ?_)).trans q0, q3⟩
      obtain ⟨o, ho, hc⟩ := (hr Bx e.symm).2
      rw [q0] at ho; cases ho; cases hc)
    ?assign ?body ?done ?stop
  case assign =>
    rintro l pre x W K ⟨⟨v, hv, hrow, hnil⟩, hB⟩ hK
    unfold Tm.agg
    gi_wp2
    exact hK _ _ ((KeepsOthers.alloc _ _).from _) ((Below.refl _ W).alloc hB.size _) ⟨⟨v, hv.alloc _, hrow.alloc _, hnil⟩, hB.alloc hB.size _⟩ ⟨W.heap.size, World.alloc_heap_new W _, rfl⟩
  case body =>
    rintro l pre x a' W hl - ⟨⟨v, hv, hrow, -⟩, hB⟩ ⟨Bx, q, rfl⟩ hlt
    obtain ⟨q0, q1, q2⟩ := cells_of q
    have hcv := hv.cell
    unfold Tm.agg
    gi_wp2_with (gi_at_builtin; refine wpListIn_append_own _ rfl _ _ 27 rfl w.heap.size 23 i0 (.agg #[.int .i64 0, .int .i64 0, .int .i64 0]) 3 24 Try.underlying27 hi hz0 hz1 hz2 rfl (by decide) _ _ _ rfl (hrow.alloc _) ⟨W.heap.size, 0, none⟩ 1 1 x.cells rfl rfl (cells_three _ _ _ _ _) (by simp [Value.oneCell', Tm.cells]) (by have := (by decide : 1000000 ≤ maxLen); omega) (by omega) (by have := hB.size; simp; omega) ?_; intro v' w1 hown' hgrow _; obtain ⟨g', cap', rfl⟩ := ownsRow_succ hown'; obtain ⟨hv1, hv2, hr2, hk2, hb2⟩ := hv.appended (by decide) hrow hB.size (Nat.le_refl _) hown' hgrow; have hc1 := hv1.cell; have hf1 := hv1.frozen)
    exact ⟨hk2.from _, hb2, ⟨_, hv2, by rw [flat_snoc, List.length_append]; exact hr2, by simp⟩, hB.trans hb2⟩
  case done =>
    rintro D ys W hD rfl ⟨⟨v, hv, hrow, -⟩, hB⟩ hK
    have hcv := hv.cell
    gi_wp2
    refine ⟨by simp, .inl ⟨_, _, rfl, run_takeDeferred hK, ?_⟩⟩
    exact ⟨_, results_tmp rfl _ _ _, v, rfl, ownsRow_putObj hrow _ hK rfl, hB.trans (belowK_b (w := w) (Nat.le_refl _) W D _ _ (by omega) hK rfl rfl)⟩
  case stop =>
    rintro D c pre W _ _ h _
    exact h.elim
end Go.Proofs.Ytkbjihnkbfjhmaa.Heap
