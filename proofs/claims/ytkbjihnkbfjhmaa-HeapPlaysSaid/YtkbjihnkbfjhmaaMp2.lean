/- Heap: the document's list. No condition. -/
import Derived.Test.YtkbjihnkbfjhmaaMp1
import Derived.Lib.SliceRun
import Derived.BigFrame
import Derived.Deep.QuietTactic
import Derived.BigQuiet
import Derived.Test.YtkbjihnkbfjhmaaProg
import Derived.Below
import Derived.Deep.Draws
import Derived.Deep.AppendLies
import Derived.Maps.AppendAt
import Derived.OwnWalk
import Derived.Laws.BytesArg
import Derived.Laws.MakeOwn
import Derived.Laws.OwnMore
import Derived.Deep.OwnRows
import Derived.Tactics
import Derived.Lib.ConvBytes
import Derived.Laws.Slices
import Derived.WalkKit
import Derived.KernelRfl
import Derived.RowKit3
import Derived.Deep.LoopGhost
import Derived.WideLaws
import Derived.Deep.DeepCutAuto
import Derived.Deep.CutBlock
import Derived.Deep.RegionHeld3
import Derived.Laws.Rows
import Derived.Lib.AppendStr
import Derived.ArgAppend
import Derived.Laws.IdiomCopy
import Derived.OrdersHeld
import Derived.Laws.BitsLemmas
import Derived.RowKit
import Derived.Test.YtkbjihnkbfjhmaaWWords
import Derived.Test.YtkbjihnkbfjhmaaWLast
import Derived.Test.YtkbjihnkbfjhmaaWTab
import Derived.Test.YtkbjihnkbfjhmaaWFour
import Derived.Test.YtkbjihnkbfjhmaaWQPut
import Derived.Test.YtkbjihnkbfjhmaaWApart
import Derived.Test.YtkbjihnkbfjhmaaWArr
import Derived.Test.YtkbjihnkbfjhmaaWZeros
import Derived.Test.YtkbjihnkbfjhmaaWFoot
import Derived.Test.YtkbjihnkbfjhmaaWKept
import Derived.Test.YtkbjihnkbfjhmaaWShare
import Derived.Test.YtkbjihnkbfjhmaaWN
import Derived.Test.YtkbjihnkbfjhmaaWFootNe
import Derived.Test.YtkbjihnkbfjhmaaWAt
import Derived.Test.YtkbjihnkbfjhmaaWEqStruct
import Derived.Test.YtkbjihnkbfjhmaaWRepsOne
import Derived.Test.YtkbjihnkbfjhmaaWInv
import Derived.Test.YtkbjihnkbfjhmaaWInvWords
import Derived.Test.YtkbjihnkbfjhmaaWGuard
import Derived.Test.YtkbjihnkbfjhmaaWNEv
import Derived.Test.YtkbjihnkbfjhmaaWMore
namespace Go.Proofs.Ytkbjihnkbfjhmaa.Own
open Go Go.RowKit Go.Proofs.YtkbjihnkbfjhmaaW.PrintWords Go.Proofs.YtkbjihnkbfjhmaaW.PrintLast Go.Proofs.YtkbjihnkbfjhmaaW.PrintMore
section
variable {w0 w w' : World} {F0 P0 : Nat → Prop} {ts : List Thing} {α : Type} {d : Kd α} {e : Nat} {v v' : Value} {l l' : List α}
/-- A row of one's own is turned within its block. -/
theorem St.mod (h : St w0 F0 P0 (rowT d e v l :: ts) w) (hg : w.grownBy w' v.ownBlock) (ho : v'.ownBlock = v.ownBlock) (hN : ∀ ok : Nat → Prop, (∀ k, v'.ownBlock = some k → ok k) → Kd.N d e w' 0 ok v' l') : St w0 F0 P0 (rowT d e v' l' :: ts) w' := by
  obtain ⟨F1, P1, h1, hk⟩ := St.part (ts1 := [rowT d e v l]) h
  obtain ⟨F, ⟨A1, A2, a1, a2, a3, a4⟩, hm⟩ := h1
  have hlt : ∀ k, v.ownBlock = some k → k < w.heap.size := Kd.N_lt a2.2
  have hF : ∀ k, F k ↔ v.ownBlock = some k := fun k => (a1 k).trans ⟨fun c => c.elim (fun q => (a2.1 k).mp q) (fun q => (a4 k q).elim), fun c => .inl ((a2.1 k).mpr c)⟩
  have hF1 : ∀ k, F k → k < w.heap.size → F1 k := fun k hk hlt => (hm.fresh k hk).elim id (fun c => by omega)
  refine hk w' [_] ⟨⟨F, ⟨F, fun _ => False, fun k => by simp, ⟨fun k => by rw [ho]; exact hF k, hN _ (fun k hk => .inl ((hF k).mpr (by rw [← ho]; exact hk)))⟩, fun k _ => id, fun k => id⟩, ⟨hg.os, hg.tape, hg.output, hg.size, fun k hk hnF => hg.block k hk (fun e1 => hnF (hF1 k ((hF k).mpr e1.symm) hk)), fun k hk => .inl (hF1 k hk (hlt k ((hF k).mp hk)))⟩⟩⟩
theorem setCells_heap (g : Nat) : ∀ (vs : List Value) (o : Nat) (w : World) (cur : Array Value) (fr : Nat × Nat), w.heap[g]? = some (.cells cur e fr) → ∃ cur', (w.setCells g o vs).heap[g]? = some (.cells cur' e fr) ∧ cur'.size = cur.size ∧ ∀ t, t < o → cur'[t]? = cur[t]?
  | [], o, w, cur, fr, h => ⟨cur, h, rfl, fun _ _ => rfl⟩
  | x :: r, o, w, cur, fr, h => by
    have h1 : (w.setCell ⟨g, o, none⟩ x).heap[g]? = some (.cells (cur.setIfInBounds o x) e fr) := by
      simp [World.setCell, Array.getElem?_modify, h]
    obtain ⟨cur', h2, h3, h4⟩ := setCells_heap g r (o + 1) _ _ _ h1
    refine ⟨cur', h2, by rw [h3]; simp, fun t ht => (h4 t (by omega)).trans ?_⟩
    rw [Array.getElem?_setIfInBounds_ne (by omega)]
theorem setCells_grown (g : Nat) : ∀ (vs : List Value) (o : Nat) (w : World), w.grownBy (w.setCells g o vs) (some g)
  | [], o, w => ⟨rfl, rfl, rfl, Nat.le_refl _, fun _ _ _ => rfl⟩
  | x :: r, o, w => by
    have h1 := grownBy_setCell_at w g o x
    have h2 := setCells_grown g r (o + 1) (w.setCell ⟨g, o, none⟩ x)
    exact ⟨h2.os.trans h1.os, h2.tape.trans h1.tape, h2.output.trans h1.output, Nat.le_trans h1.size h2.size, fun k hk hne => (h2.block k (Nat.lt_of_lt_of_le hk h1.size) hne).trans (h1.block k hk hne)⟩
where
  grownBy_setCell_at (w : World) (b o : Nat) (v : Value) : w.grownBy (w.setCell ⟨b, o, none⟩ v) (some b) :=
    ⟨rfl, rfl, rfl, by simp, fun k _ hk => Below.heap_setCell w _ v k (fun e => hk (by rw [e]))⟩
end
end Go.Proofs.Ytkbjihnkbfjhmaa.Own
namespace Go.Proofs.Ytkbjihnkbfjhmaa.Heap
open Go Go.Proofs Go.RowKit Go.Shelf Go.Proofs.Ytkbjihnkbfjhmaa.Own Go.Proofs.YtkbjihnkbfjhmaaW.PrintWords Go.Proofs.YtkbjihnkbfjhmaaW.PrintLast Go.Proofs.YtkbjihnkbfjhmaaW.PrintMore
set_option linter.unusedVariables false
set_option linter.unusedSimpArgs false
section
variable {w0 w w' : World} {F0 P0 : Nat → Prop} {ts : List Thing} {v : Value} {l : List Tm}
/-- The block of a row that isn't empty. -/
theorem owns (h : St w0 F0 P0 (rowT kTm 23 v l :: ts) w) (h0 : 0 < l.length) : ∃ g cap cur, v = .slice (some ⟨g, 0, none⟩) l.length cap ∧ w.heap[g]? = some (.cells cur 23 (0, 0)) ∧ l.length ≤ cap ∧ cap ≤ maxLen ∧ cur.size = cap * 3 ∧ cur.toList.take (l.length * 3) = flat l := by
  obtain ⟨ok, hN⟩ := h.row
  have hel := fun (i : Nat) (hi : i < l.length) => elem h hi
  obtain ⟨q0, rows, hl, hR, hf⟩ := hN
  obtain ⟨-, inner, ho, -⟩ := hR
  rcases ho.2 with ⟨hv, h1⟩ | ⟨g, cap, cur, hv, hb, hh, hnc, hcm, hcz, -⟩
  · rw [hl] at h1; omega
  · rw [hl] at hv hnc
    refine ⟨g, cap, cur, hv, hh, hnc, hcm, hcz, List.ext_getElem? fun t => ?_⟩
    by_cases ht : t < l.length * 3
    · rw [List.getElem?_take, if_pos ht, flat_get l t ht, Array.getElem?_toList]
      have hi : t / 3 < l.length := by omega
      obtain ⟨g', c', e1, a0, a1, a2⟩ := hel (t / 3) hi
      rw [hv] at e1
      injection e1 with e1
      injection e1 with e1
      injection e1 with e1
      subst e1
      rw [getElem!_pos l (t / 3) hi]
      generalize l[t / 3] = x at a0 a1 a2
      simp only [World.cell?, hh] at a0 a1 a2
      have h3 : t % 3 = 0 ∨ t % 3 = 1 ∨ t % 3 = 2 := by omega
      rcases h3 with h3 | h3 | h3
      · rw [show t / 3 * 3 = t by omega] at a0; rw [h3]; exact a0
      · rw [show t / 3 * 3 + 1 = t by omega] at a1; rw [h3]; exact a1
      · rw [show t / 3 * 3 + 2 = t by omega] at a2; rw [h3]; exact a2
    · rw [List.getElem?_eq_none (by simp; omega), List.getElem?_eq_none (by rw [flat_len]; omega)]
theorem flat_take (l : List Tm) (i : Nat) (hi : i ≤ l.length) : flat (l.take i) = (flat l).take (i * 3) := by
  have h1 : flat l = flat (l.take i) ++ flat (l.drop i) := by
    unfold flat
    rw [← List.flatMap_append, List.take_append_drop]
  have h2 : (flat (l.take i)).length = i * 3 := by rw [flat_len, List.length_take, Nat.min_eq_left hi]
  rw [h1, ← h2, List.take_left]
theorem zero_cells (w : World) : (zeroValue 23).run Try.prog w = .ok (.agg #[.int .i64 0, .int .i64 0, .int .i64 0]) w := by kernel_rfl
theorem clear_run (ty : TypeId) (w : World) (g o n c : Nat) (cur : Array Value) (hn : 0 < n) (hb : w.heap[g]? = some (.cells cur 23 (0, 0))) (hsz : o + n * 3 ≤ cur.size) :
    (Builtin.clear_ #[27] ty #[.slice (some ⟨g, o, none⟩) n c]).run Try.prog w = .ok (.tuple #[]) (w.setCells g o (Builtin.zeroCells #[.int .i64 0, .int .i64 0, .int .i64 0] n).toList) := by
  have hl : (Builtin.zeroCells #[.int .i64 0, .int .i64 0, .int .i64 0] n).toList.length = n * 3 := by simp [Builtin.zeroCells]
  have hst := run_storeCells_cells (P := Try.prog) g o (Builtin.zeroCells #[.int .i64 0, .int .i64 0, .int .i64 0] n).toList 0 w
    (by rw [hl]; intro j hj; simp only [World.cell?, hb]; rw [Array.getElem?_eq_getElem (by omega)]; rfl)
    (by rw [hl]; intro j hj; simp [World.frozen?, hb])
    (by
      intro u hu
      simp [Builtin.zeroCells] at hu
      obtain ⟨j, -, rfl⟩ := hu
      have h3 : j % 3 = 0 ∨ j % 3 = 1 ∨ j % 3 = 2 := by omega
      rcases h3 with h3 | h3 | h3 <;> rw [h3] <;> rfl)
  simp only [Nat.add_zero] at hst
  obtain ⟨m, rfl⟩ : ∃ m, n = m + 1 := ⟨n - 1, by omega⟩
  simp [Builtin.clear_, run_underlying Try.underlying27, zero_cells, Value.cells, hst]
/-- The rest cleared, the row shortened. -/
theorem cut (h : St w0 F0 P0 (rowT kTm 23 v l :: ts) w) {g c i : Nat} (hv : v = .slice (some ⟨g, 0, none⟩) l.length c) (hi : i ≤ l.length) (h0 : 0 < l.length) (vs : List Value) :
    St w0 F0 P0 (rowT kTm 23 (.slice (some ⟨g, 0, none⟩) i c) (l.take i) :: ts) (w.setCells g (i * 3) vs) := by
  obtain ⟨g', c', cur, hv', hb, h1, h2, h3, h4⟩ := owns h h0
  rw [hv] at hv'
  injection hv' with q1 _ q3
  injection q1 with q1
  injection q1 with q1
  subst q1 q3
  obtain ⟨cur', k1, k2, k3⟩ := setCells_heap g vs (i * 3) w cur (0, 0) hb
  refine h.mod (by rw [hv]; exact setCells_grown g vs (i * 3) w) (by rw [hv]; rfl) (fun ok hok => ?_)
  have hlt : (l.take i).length = i := by rw [List.length_take, Nat.min_eq_left hi]
  have hO : (w.setCells g (i * 3) vs).ownsRow 0 23 3 (.slice (some ⟨g, 0, none⟩) i c) (l.take i).length (flat (l.take i)) := by
    rw [hlt]
    refine ⟨by rw [flat_len, hlt], .inr ⟨g, c, cur', rfl, Nat.zero_le _, k1, by omega, h2, by rw [k2, h3], ?_⟩⟩
    rw [flat_take l i hi, ← h4, List.take_take, Nat.min_eq_left (Nat.mul_le_mul_right _ hi)]
    refine List.ext_getElem? fun t => ?_
    rw [List.getElem?_take, List.getElem?_take]
    split
    · rename_i ht
      rw [Array.getElem?_toList, Array.getElem?_toList]
      exact k3 t ht
    · rfl
  refine Kd.N_mono (Kd.N_bound (Kd.R_N ⟨fun k hk => hk, flat (l.take i), hO, reps_flat _ _ (fun x => M_of _ _ _ x)⟩)) (fun k hk => hok k hk.1)
end
end Go.Proofs.Ytkbjihnkbfjhmaa.Heap
namespace Go.Proofs.Ytkbjihnkbfjhmaa.Heap
open Go Go.Proofs Go.RowKit Go.Shelf Go.Proofs.Ytkbjihnkbfjhmaa.Own Go.Proofs.YtkbjihnkbfjhmaaW.PrintWords Go.Proofs.YtkbjihnkbfjhmaaW.PrintLast Go.Proofs.YtkbjihnkbfjhmaaW.PrintMore
set_option linter.unusedVariables false
set_option linter.unusedSimpArgs false
theorem del1_calls (x : Tm) (g : Int) (gb : Nat) (b : Bool) (hb : (x.g == g) = b) (w : World) (hc : w.cell? ⟨gb, 0, none⟩ = some (.int .i64 g)) :
    Calls Try.prog 28 #[.agg #[.int .i64 x.t, .int .i64 x.s, .int .i64 x.g], .pointer (some ⟨gb, 0, none⟩)] w fun e w' => e = .returned (.bool b) ∧ Below w.heap.size w w' := by
  subst hb
  have hlt := World.block_lt_of_cell? w _ hc
  go_enter Try.func28, Try.ntmps28
  go_wp2
  go_ret
  exact ⟨rfl, below_alloc (Below.refl _ _) _⟩
def fi (g : Int) (l : List Tm) : Nat := l.findIdx (fun x => x.g == g)
theorem fi_le (g : Int) (l : List Tm) : fi g l ≤ l.length := List.findIdx_le_length
set_option maxHeartbeats 1000000 in
theorem index_calls (A : Option Addr) (c : Nat) (l : List Tm) (g : Int) (gb : Nat) (hlen : l.length ≤ 1000000) (w : World) (hC : kTm.C w A l.length l) (hc : w.cell? ⟨gb, 0, none⟩ = some (.int .i64 g)) (R : Int) (hR : (if fi g l < l.length then (fi g l : Int) else -1) = R) :
    Calls Try.prog 37 #[.slice A l.length c, .func (.func 28) #[] #[.pointer (some ⟨gb, 0, none⟩)]] w fun e w' => e = .returned (.int .i64 R) ∧ Below w.heap.size w w' := by
  have HC := Aside0.mk hC
  have HR := Aside0.mk hR
  have HG := Aside0.mk hc
  clear hC hc hR
  go_enter Try.func37, Try.ntmps37
  go_wp2
  go_loopg [5, 8] (l.length + 1) (fun kq v5 v8 w' => ∃ i : Nat, v8 = .int .i64 (i : Int) ∧ Aside0 (i + kq = l.length + 1 ∧ i ≤ l.length ∧ i ≤ fi g l) ∧ Aside0 (Below w.heap.size w w'))
  case atStart => exact ⟨0, rfl, ⟨by omega, Nat.zero_le _, Nat.zero_le _⟩, ⟨Below.refl _ _⟩⟩
  case round =>
    obtain ⟨i, rfl, HK, HB⟩ := hrel
    cases gk with
    | zero => exact absurd HK.out (by omega)
    | succ k1 =>
      by_cases hin : i < l.length
      · have c1 : decide ((i : Int) < (l.length : Int)) = true := decide_eq_true (by omega)
        have c1n : decide (i < l.length) = true := decide_eq_true (by omega)
        obtain ⟨ad, rfl, a0, a1, a2⟩ := at_elem (Kd.C_below HC.out HB.out) hin
        have hg := cell_below HG.out HB.out
        have HG2 := Aside0.mk hg
        have p0 : (i : Int) ≤ 1000000 := by omega
        have p1 : (0 : Int) ≤ (i : Int) := by omega
        have p2 : (i : Int) < (l.length : Int) := by omega
        have HL := Aside0.mk hin
        by_cases hx : (l[i].g == g) = true
        · have HF := Aside0.mk (show fi g l = i by
            have h1 : fi g l ≤ i := by
              refine Nat.le_of_not_lt fun hlt => ?_
              have h2 := List.not_of_lt_findIdx hlt
              rw [hx] at h2; cases h2
            exact Nat.le_antisymm h1 HK.out.2.2)
          have HX := Aside0.mk hx
          generalize l[i] = x at a0 a1 a2 HX
          clear hx hin hg
          go_wp2_with (go_at_call 28; (with_reducible refine (del1_calls x g gb true HX.out _ HG2.out).mono ?_); rintro e w2 ⟨rfl, hb⟩; have HB2 := Aside0.mk (HB.out.trans (hb.mono HB.out.size)); clear hb)
          go_ret
          exact ⟨by rw [← HR.out, HF.out, if_pos HL.out]; rfl, HB2.out⟩
        · replace hx : (l[i].g == g) = false := by simpa using hx
          have HF := Aside0.mk (show i + 1 ≤ fi g l by
            have h1 := HK.out.2.2
            rcases Nat.lt_or_eq_of_le h1 with h2 | h2
            · exact h2
            · exfalso
              have h3 : l.findIdx (fun x => x.g == g) < l.length := by show fi g l < l.length; omega
              have h4 := List.findIdx_getElem (p := fun x : Tm => x.g == g) (w := h3)
              have h5 : l.findIdx (fun x => x.g == g) = i := by show fi g l = i; omega
              simp only [h5] at h4
              rw [hx] at h4
              cases h4)
          have HX := Aside0.mk hx
          clear hx
          generalize l[i] = x at a0 a1 a2 HX
          clear hin hg
          go_wp2_with (go_at_call 28; (with_reducible refine (del1_calls x g gb false HX.out _ HG2.out).mono ?_); rintro e w2 ⟨rfl, hb⟩; have HB2 := Aside0.mk (HB.out.trans (hb.mono HB.out.size)); clear hb)
          go_roundg k1
          case measure => have := HK.out; omega
          case rel => exact ⟨i + 1, by first | rfl | go_num, ⟨by have := HK.out; omega, HL.out, HF.out⟩, HB2⟩
      · have c1 : decide ((i : Int) < (l.length : Int)) = false := decide_eq_false (by omega)
        have c1n : decide (i < l.length) = false := decide_eq_false (by omega)
        have HF := Aside0.mk (show ¬ fi g l < l.length by have := HK.out; omega)
        clear hin
        go_wp2
        go_ret
        exact ⟨by rw [← HR.out, if_neg HF.out]; rfl, HB.out⟩
def dropG (g : Int) (l : List Tm) : List Tm := l.filter (fun x => !(x.g == g))
theorem dropG_len (g : Int) (l : List Tm) : (dropG g l).length ≤ l.length := List.length_filter_le _ _
theorem dropG_snoc (g : Int) (l : List Tm) (x : Tm) : dropG g (l ++ [x]) = dropG g l ++ (if (x.g == g) = true then [] else [x]) := by
  unfold dropG
  rw [List.filter_append]
  by_cases h : (x.g == g) = true <;> simp [h]
theorem dropG_take_lt (g : Int) (l : List Tm) (k j : Nat) (hk : fi g l < j) (hj : j ≤ l.length) : (dropG g (l.take j)).length < j := by
  have h1 : ∀ (l : List Tm) (j : Nat), l.findIdx (fun x => x.g == g) < j → j ≤ l.length → (dropG g (l.take j)).length < j := by
    intro l
    induction l with
    | nil => intro j h1 h2; simp at h2; omega
    | cons x l ih =>
      intro j h1 h2
      cases j with
      | zero => omega
      | succ j =>
        rw [List.take_succ_cons]
        by_cases hx : (x.g == g) = true
        · have h3 := dropG_len g (l.take j)
          have h4 : dropG g (x :: l.take j) = dropG g (l.take j) := by unfold dropG; rw [List.filter_cons_of_neg (by simp [hx])]
          rw [h4]
          rw [List.length_take] at h3
          omega
        · have h4 : dropG g (x :: l.take j) = x :: dropG g (l.take j) := by unfold dropG; rw [List.filter_cons_of_pos (by simp [hx])]
          rw [h4, List.length_cons]
          have h5 : l.findIdx (fun x => x.g == g) < j := by
            rw [List.findIdx_cons] at h1
            simp [hx] at h1
            exact h1
          have := ih j h5 (by simpa using h2)
          omega
  exact h1 l j hk hj
theorem dropG_before (g : Int) (l : List Tm) (j : Nat) (hj : j ≤ fi g l) (hl : j ≤ l.length) : dropG g (l.take j) = l.take j := by
  unfold dropG
  refine List.filter_eq_self.mpr fun x hx => ?_
  obtain ⟨i, hi, rfl⟩ := List.getElem_of_mem hx
  rw [List.length_take] at hi
  rw [List.getElem_take]
  have := List.not_of_lt_findIdx (p := fun x : Tm => x.g == g) (xs := l) (i := i) (by show i < fi g l; omega)
  simpa using this
end Go.Proofs.Ytkbjihnkbfjhmaa.Heap
namespace Go.Proofs.Ytkbjihnkbfjhmaa.Heap
open Go Go.Proofs Go.RowKit Go.Shelf Go.Proofs.Ytkbjihnkbfjhmaa.Own Go.Proofs.YtkbjihnkbfjhmaaW.PrintWords Go.Proofs.YtkbjihnkbfjhmaaW.PrintLast Go.Proofs.YtkbjihnkbfjhmaaW.PrintMore
set_option linter.unusedVariables false
set_option linter.unusedSimpArgs false
section
variable {w0 w w' : World} {F0 P0 : Nat → Prop} {ts : List Thing} {l : List Tm}
theorem put3 {g c i : Nat} {n : Nat} (h : St w0 F0 P0 (rowT kTm 23 (.slice (some ⟨g, 0, none⟩) n c) l :: ts) w) (hi : i < l.length) (x : Tm) :
    St w0 F0 P0 (rowT kTm 23 (.slice (some ⟨g, 0, none⟩) n c) (l.set i x) :: ts) (((w.setCell ⟨g, i * 3, none⟩ (.int .i64 x.t)).setCell ⟨g, i * 3 + 1, none⟩ (.int .i64 x.s)).setCell ⟨g, i * 3 + 2, none⟩ (.int .i64 x.g)) :=
  (St.put kTm (h.pure (fun W => kTm_mk W x)) hi).1
theorem cell3 {g c i : Nat} {n : Nat} (h : St w0 F0 P0 (rowT kTm 23 (.slice (some ⟨g, 0, none⟩) n c) l :: ts) w) (hi : i < l.length) :
    (w.cell? ⟨g, i * 3, none⟩ = some (.int .i64 l[i].t) ∧ w.cell? ⟨g, i * 3 + 1, none⟩ = some (.int .i64 l[i].s) ∧ w.cell? ⟨g, i * 3 + 2, none⟩ = some (.int .i64 l[i].g)) ∧ (w.frozen? ⟨g, i * 3, none⟩ = false ∧ w.frozen? ⟨g, i * 3 + 1, none⟩ = false ∧ w.frozen? ⟨g, i * 3 + 2, none⟩ = false) ∧ g < w.heap.size := by
  obtain ⟨-, cur, hb, -⟩ := St.put kTm (h.pure (fun W => kTm_mk W l[i])) hi
  obtain ⟨g', c', e1, a0, a1, a2⟩ := elem h hi
  injection e1 with e1
  injection e1 with e1
  injection e1 with e1
  subst e1
  exact ⟨⟨a0, a1, a2⟩, ⟨by simp [World.frozen?, hb], by simp [World.frozen?, hb], by simp [World.frozen?, hb]⟩, (Array.getElem?_eq_some_iff.mp hb).1⟩
set_option maxRecDepth 100000 in
set_option maxHeartbeats 4000000 in
theorem delete_st {v : Value} {g : Int} {gb : Nat} (h : St w0 F0 P0 (rowT kTm 23 v l :: boxT gb 3 #[.int .i64 g] :: ts) w) (hlen : l.length ≤ 1000000) :
    Calls Try.prog 29 #[v, .func (.func 28) #[] #[.pointer (some ⟨gb, 0, none⟩)]] w fun e w' => ∃ v', e = .returned v' ∧ St w0 F0 P0 (rowT kTm 23 v' (dropG g l) :: boxT gb 3 #[.int .i64 g] :: ts) w' := by
  have hg := (h.drop.box_cell 0 _ rfl).1
  have HS := Aside0.mk h
  obtain ⟨A, c, rfl⟩ := h.slice
  have hC := h.reads.2.2
  by_cases hf : fi g l < l.length
  · obtain ⟨g0, c', hv, -⟩ := elem h hf
    injection hv with hv1 _ hv2
    subst hv1 hv2
    have hix := index_calls (some ⟨g0, 0, none⟩) c l g gb hlen w hC hg (fi g l : Int) (by rw [if_pos hf])
    have hcap : l.length ≤ c := h.reads.2.1
    have HF := Aside0.mk hf
    have e1 : ((fi g l : Int) == -1) = false := beq_eq_false_iff_ne.mpr (by omega)
    have e2 : decide ((fi g l : Int) = -1) = false := decide_eq_false (by omega)
    obtain ⟨k0, hk0⟩ : ∃ k, fi g l = k := ⟨_, rfl⟩
    have HK0 := Aside0.mk hk0
    rw [hk0] at hix e1 e2
    have p9 : (k0 : Int) ≤ 1000000 := by omega
    clear h hg hC hf hk0
    go_enter Try.func29, Try.ntmps29
    go_wp2_with (go_at_call 37; (with_reducible refine hix.mono ?_); rintro e w1 ⟨rfl, hb⟩; have HS1 := Aside0.mk (HS.out.below hb); clear hb HS hix)
    clear e1 e2
    go_loopg [5, 6, 7] (l.length + 1) (fun kq v5 v6 v7 w' => ∃ (i j : Nat) (l' : List Tm), v5 = .int .i64 (i : Int) ∧ v6 = .int .i64 (j : Int) ∧ Aside0 (j + kq = l.length + 2 + k0 ∧ i < j ∧ j ≤ l.length ∧ l'.length = l.length ∧ l'.take i = dropG g (l.take j) ∧ l'.drop j = l.drop j) ∧ Aside0 (St w0 F0 P0 (rowT kTm 23 (.slice (some ⟨g0, 0, none⟩) l.length c) l' :: boxT gb 3 #[.int .i64 g] :: ts) w'))
    case atStart =>
      refine ⟨k0, k0 + 1, l, rfl, by first | rfl | go_num, ⟨by omega, by omega, by have := HF.out; have := HK0.out; omega, rfl, ?_, rfl⟩, HS1⟩
      have h1 : k0 < l.length := by have := HF.out; have := HK0.out; omega
      have h2 : (l[k0].g == g) = true := by
        have h3 : l.findIdx (fun x => x.g == g) < l.length := HF.out
        have h4 := List.findIdx_getElem (p := fun x : Tm => x.g == g) (w := h3)
        have h5 : l.findIdx (fun x => x.g == g) = k0 := HK0.out
        simp only [h5] at h4
        exact h4
      rw [List.take_succ_eq_append_getElem h1, dropG_snoc, if_pos h2, List.append_nil, dropG_before g l k0 (by have := HK0.out; omega) (by omega)]
    case round =>
      clear HS1
      obtain ⟨i, j, l', rfl, rfl, HK, HS⟩ := hrel
      cases gk with
      | zero => exact absurd HK.out.1 (by have := HK.out.2.2.1; omega)
      | succ k1 =>
        obtain ⟨q1, q2, q3, q4, q5, q6⟩ := HK.out
        have hi' : i < l'.length := by omega
        have i0 : (i : Int) ≤ 1000000 := by omega
        have i1 : (0 : Int) ≤ (i : Int) := by omega
        have i2 : (i : Int) < (l.length : Int) := by omega
        have j0 : (j : Int) ≤ 1000000 := by omega
        have j1 : (0 : Int) ≤ (j : Int) := by omega
        by_cases hin : j < l.length
        · have c1 : decide ((j : Int) < (l.length : Int)) = true := decide_eq_true (by omega)
          have c1n : decide (j < l.length) = true := decide_eq_true (by omega)
          have j2 : (j : Int) < (l.length : Int) := by omega
          have hj' : j < l'.length := by omega
          have hlj : l'[j] = l[j] := by
            have h1 : (l'.drop j)[0]? = (l.drop j)[0]? := by rw [q6]
            rw [List.getElem?_drop, List.getElem?_drop, Nat.add_zero, List.getElem?_eq_getElem hj', List.getElem?_eq_getElem hin] at h1
            injection h1
          have q6' : l'.drop (j + 1) = l.drop (j + 1) := by
            rw [← List.drop_drop, q6, List.drop_drop]
          have q5' := fun b (hb : (l[j].g == g) = b) => show dropG g (l.take (j + 1)) = l'.take i ++ (if b = true then [] else [l[j]]) by
            rw [List.take_succ_eq_append_getElem hin, dropG_snoc, ← q5, hb]
          obtain ⟨⟨a0, a1, a2⟩, -, -⟩ := cell3 HS.out hj'
          rw [hlj] at a0 a1 a2
          obtain ⟨x, hx⟩ : ∃ x, x = l[j] := ⟨_, rfl⟩
          rw [← hx] at a0 a1 a2 q5'
          have hB := Aside0.mk (HS.out.box #[.int .i64 x.t, .int .i64 x.s, .int .i64 x.g] 23)
          have hg := (hB.out.drop.drop.box_cell 0 _ rfl).1
          have HG := Aside0.mk hg
          obtain ⟨b, hb⟩ : ∃ b, (x.g == g) = b := ⟨_, rfl⟩
          have Q5 := Aside0.mk (q5' b hb)
          have Q6 := Aside0.mk q6'
          have HBX := Aside0.mk hb
          have HI := Aside0.mk hi'
          have HJ := Aside0.mk hin
          clear q1 q2 q3 q4 q5 q6 q5' q6' hx hlj hg hb hi' hj' hin
          cases b with
          | true =>
            go_wp2_with (go_at_call 28; (with_reducible refine (del1_calls x g gb true HBX.out _ HG.out).mono ?_); rintro e w2 ⟨rfl, hb⟩; have HS2 := Aside0.mk (hB.out.drop.below hb); clear hb hB)
            go_roundg k1
            case measure => have := HK.out; omega
            case rel => exact ⟨i, j + 1, l', rfl, by first | rfl | go_num, ⟨by have := HK.out; omega, by have := HK.out; omega, by have := HJ.out; omega, HK.out.2.2.2.1, by rw [Q5.out]; simp, Q6.out⟩, HS2⟩
          | false =>
            go_wp2_with (go_at_call 28; (with_reducible refine (del1_calls x g gb false HBX.out _ HG.out).mono ?_); rintro e w2 ⟨rfl, hb⟩; have hS := hB.out.below hb; obtain ⟨⟨m0, m1, m2⟩, -, -⟩ := box_cells3 hS; obtain ⟨⟨n0, n1, n2⟩, ⟨n3, n4, n5⟩, n6⟩ := cell3 hS.drop HI.out; have HS2 := Aside0.mk (put3 hS.drop HI.out x); clear hb hB hS)
            go_roundg k1
            case measure => have := HK.out; omega
            case rel =>
              refine ⟨i + 1, j + 1, l'.set i x, by first | rfl | go_num, by first | rfl | go_num, ⟨by have := HK.out; omega, by have := HK.out; omega, by have := HJ.out; omega, by rw [List.length_set]; exact HK.out.2.2.2.1, ?_, ?_⟩, HS2⟩
              · rw [Q5.out]
                have h1 := HI.out
                rw [List.take_succ_eq_append_getElem (by rw [List.length_set]; exact h1), List.take_set_of_le (Nat.le_refl i)]
                simp
              · rw [List.drop_set_of_lt (by have := HK.out; omega)]
                exact Q6.out
        · obtain rfl : j = l.length := by omega
          have c1 : decide ((l.length : Int) < (l.length : Int)) = false := decide_eq_false (by omega)
          have c1n : decide (l.length < l.length) = false := decide_eq_false (by omega)
          rw [List.take_length] at q5
          have hil : i < l.length := by omega
          have hci : ¬ c = i := by omega
          obtain ⟨g', c', cur, hv', hb', h1', h2', h3', -⟩ := owns (l := l') (by rw [← q4] at HS; exact HS.out) (by omega)
          injection hv' with r1 _ r3
          injection r1 with r1
          injection r1 with r1
          subst r1 r3
          have hcl : ∀ ty, (Builtin.clear_ #[27] ty #[.slice (some ⟨g0, i * 3, none⟩) (l.length - i) (c - i)]).run Try.prog wr = _ := fun ty => clear_run ty wr g0 (i * 3) (l.length - i) (c - i) cur (by omega) hb' (by omega)
          have HS2 := Aside0.mk (cut (l := l') (by rw [← q4] at HS; exact HS.out) (by rw [q4]) (Nat.le_of_lt hi') (by omega) (Builtin.zeroCells #[.int .i64 0, .int .i64 0, .int .i64 0] (l.length - i)).toList)
          rw [q5] at HS2
          generalize (Builtin.zeroCells #[.int .i64 0, .int .i64 0, .int .i64 0] (l.length - i)).toList = vs at hcl HS2
          clear q1 q2 q3 q4 q5 q6 hb' h1' h2' h3' HS hin HK
          go_wp2_with (simp only [hcl])
          go_ret
          exact ⟨_, rfl, HS2.out⟩
  · have hix := index_calls A c l g gb hlen w hC hg (-1) (by rw [if_neg hf])
    have HF := Aside0.mk (show dropG g l = l by
      have h1 := dropG_before g l l.length (by have := fi_le g l; omega) (Nat.le_refl _)
      rwa [List.take_length] at h1)
    clear h hg hC hf
    go_enter Try.func29, Try.ntmps29
    go_wp2_with (go_at_call 37; (with_reducible refine hix.mono ?_); rintro e w1 ⟨rfl, hb⟩; have HS1 := Aside0.mk (HS.out.below hb); clear hb HS hix)
    go_ret
    exact ⟨_, rfl, by rw [HF.out]; exact HS1.out⟩
end
end Go.Proofs.Ytkbjihnkbfjhmaa.Heap
namespace Go.Proofs.Ytkbjihnkbfjhmaa.Heap
open Go Go.Proofs Go.RowKit Go.Shelf Go.Proofs.Ytkbjihnkbfjhmaa.Own Go.Proofs.YtkbjihnkbfjhmaaW.PrintWords Go.Proofs.YtkbjihnkbfjhmaaW.PrintLast Go.Proofs.YtkbjihnkbfjhmaaW.PrintMore
set_option linter.unusedVariables false
set_option linter.unusedSimpArgs false
def heapify : Nat → List Tm → List Tm
  | 0, l => l
  | k + 1, l => heapify k (downL (l.length + 1) l k)
theorem heapify_len : ∀ (k : Nat) (l : List Tm), (heapify k l).length = l.length
  | 0, _ => rfl
  | k + 1, l => by rw [heapify, heapify_len, downL_len]
theorem heapify_perm : ∀ (k : Nat) (l : List Tm), (heapify k l).Perm l
  | 0, _ => .refl _
  | k + 1, l => (heapify_perm k _).trans (down_perm _ _ _)
def dropL (g : Int) (l : List Tm) : List Tm := heapify ((dropG g l).length / 2) (dropG g l)
section
variable {w0 w w' : World} {F0 P0 : Nat → Prop} {ts : List Thing} {p eB : Nat} {cells : Array Value} {v : Value} {l : List Tm}
theorem down_eq {i : Nat} {x : Int} (h : St w0 F0 P0 (boxT p eB cells :: rowT kTm 23 v l :: ts) w) (hv : cells[0]? = some v) (hi : i ≤ l.length) (hlen : l.length ≤ 1000000) (hx : x = (i : Int)) :
    Calls Try.prog 25 #[.pointer (some ⟨p, 0, none⟩), .int .i64 x] w fun e w' => e = .returned (.tuple #[]) ∧ St w0 F0 P0 (boxT p eB cells :: rowT kTm 23 v (downL (l.length + 1) l i) :: ts) w' := by
  subst hx
  exact down_st h hv hi hlen
theorem drop_none (g : Int) (w : World) :
    Calls Try.prog 16 #[.pointer none, .int .i64 g] w fun e w' => e = .returned (.int .i64 0) ∧ Below w.heap.size w w' := by
  go_enter Try.func16, Try.ntmps16
  go_wp2
  go_ret
  exact ⟨rfl, below_alloc (Below.refl _ _) _⟩
set_option maxRecDepth 100000 in
set_option maxHeartbeats 4000000 in
theorem drop_st (h : St w0 F0 P0 (boxT p eB cells :: rowT kTm 23 v l :: ts) w) (hv : cells[0]? = some v) (hlen : l.length ≤ 100000) (g : Int) (n : Int) (hn : (l.length : Int) - ((dropG g l).length : Int) = n) :
    Calls Try.prog 16 #[.pointer (some ⟨p, 0, none⟩), .int .i64 g] w fun e w' => e = .returned (.int .i64 n) ∧ ∃ v', St w0 F0 P0 (boxT p eB (cells.setIfInBounds 0 v') :: rowT kTm 23 v' (dropL g l) :: ts) w' := by
  obtain ⟨A, c, hvs⟩ := h.drop.slice
  have HS := Aside0.mk (h.box #[.int .i64 g] 3).rot.rot
  have hch := (HS.out.drop.drop.box_cell 0 _ hv).1
  have hch0 := (h.box_cell 0 _ hv).1
  have HV := Aside0.mk hv
  have HZ : ∀ u : Value, (cells.setIfInBounds 0 u)[0]? = some u := fun u => by
    have h0 := (Array.getElem?_eq_some_iff.mp HV.out).1
    simp [h0]
  have HZ := Aside0.mk HZ
  have HLEN := Aside0.mk (show l.length ≤ 1000000 by omega)
  have HDL := Aside0.mk (dropG_len g l)
  have HN := Aside0.mk hn
  have p0 : (l.length : Int) ≤ 100000 := by omega
  subst hvs
  clear h hv hn
  go_enter Try.func16, Try.ntmps16
  go_wp2_with (go_at_call 29; go_loud ((with_reducible refine (delete_st HS.out HLEN.out).mono ?_); rintro e w1 ⟨v1, rfl, hS⟩; obtain ⟨A1, c1, hv1⟩ := hS.slice; subst hv1; have hk := hS.drop.drop.box_cell 0 _ HV.out; obtain ⟨k0, k1⟩ := hk; have HS1 := Aside0.mk (hS.swap.drop.swap.box_set 0 (.slice A1 (dropG g l).length c1)); clear hS HS))
  obtain ⟨m, hm⟩ : ∃ m, (dropG g l).length = m := ⟨_, rfl⟩
  have HM := Aside0.mk hm
  obtain ⟨dl, hdl⟩ : ∃ dl, dropG g l = dl := ⟨_, rfl⟩
  have HDL2 := Aside0.mk hdl
  rw [hm] at HS1 HN ⊢
  rw [hdl] at HS1
  have m0 : (m : Int) ≤ 100000 := by have := HDL.out; omega
  have w1e : wrap64 (wrap64 ((m : Int) / 2) - 1) = ((m / 2 : Nat) : Int) - 1 := by
    have h1 : wrap64 ((m : Int) / 2) = (m : Int) / 2 := by unfold wrap64; omega
    rw [h1]
    unfold wrap64
    omega
  rw [w1e]
  clear w1e hm hdl
  go_loopg [7] (m / 2 + 1) (fun kq v7 w' => ∃ (k : Nat) (l' : List Tm), v7 = .int .i64 ((k : Int) - 1) ∧ Aside0 (kq = k + 1 ∧ k ≤ m / 2 ∧ l'.length = m ∧ heapify k l' = dropL g l) ∧ Aside0 (St w0 F0 P0 (boxT p eB (cells.setIfInBounds 0 (.slice A1 m c1)) :: rowT kTm 23 (.slice A1 m c1) l' :: ts) w'))
  case atStart => exact ⟨m / 2, dl, rfl, ⟨rfl, Nat.le_refl _, by rw [← HDL2.out]; exact HM.out, by unfold dropL; rw [HM.out, HDL2.out]⟩, HS1⟩
  case round =>
    clear HS1
    obtain ⟨k, l', rfl, HK, HS⟩ := hrel
    cases gk with
    | zero => exact absurd HK.out.1 (by omega)
    | succ k1 =>
      have hz := (HS.out.box_cell 0 _ (HZ.out _)).1
      cases k with
      | zero =>
        have HE := Aside0.mk (show l' = dropL g l from HK.out.2.2.2)
        have c1 : decide ((0 : Int) ≤ -1) = false := rfl
        go_wp2
        go_ret
        exact ⟨by rw [← HN.out]; rfl, _, by rw [← HE.out]; exact HS.out⟩
      | succ k =>
        have c1 : decide ((0 : Int) ≤ (k : Int)) = true := decide_eq_true (by omega)
        have e1 : ((k + 1 : Nat) : Int) - 1 = (k : Int) := by omega
        rw [e1]
        have q0 : (k : Int) ≤ 100000 := by have := HK.out.2.1; omega
        have q1 : (0 : Int) ≤ (k : Int) := by omega
        have HIK := Aside0.mk (show k ≤ l'.length ∧ l'.length ≤ 1000000 by have := HK.out; omega)
        go_wp2_with (go_at_call 25; go_loud ((with_reducible refine (down_eq (x := (k : Int)) HS.out (HZ.out _) HIK.out.1 HIK.out.2 rfl).mono ?_); rintro e w2 ⟨rfl, hS⟩; have HS2 := Aside0.mk hS; clear hS HS))
        go_roundg k1
        case measure => have := HK.out; omega
        case rel => exact ⟨k, downL (l'.length + 1) l' k, by first | rfl | go_num, ⟨by have := HK.out; omega, by have := HK.out; omega, by rw [downL_len]; exact HK.out.2.2.1, HK.out.2.2.2⟩, HS2⟩
end
end Go.Proofs.Ytkbjihnkbfjhmaa.Heap
namespace Go.Proofs.Ytkbjihnkbfjhmaa.Heap
set_option linter.unusedVariables false
set_option linter.unusedSimpArgs false
def heapFrom (b : Nat) (l : List Tm) : Prop := ∀ j, 0 < j → j < l.length → b ≤ (j - 1) / 2 → le (tat l ((j - 1) / 2)) (tat l j)
structure DnB (b : Nat) (l : List Tm) (i : Nat) : Prop where
  at_ : b ≤ i
  rest : ∀ j, 0 < j → j < l.length → b ≤ (j - 1) / 2 → (j - 1) / 2 ≠ i → le (tat l ((j - 1) / 2)) (tat l j)
  kids : ∀ j, 0 < j → j < l.length → (j - 1) / 2 = i → 0 < i → b ≤ (i - 1) / 2 → le (tat l ((i - 1) / 2)) (tat l j)
theorem DnB.step {b : Nat} {l : List Tm} {i : Nat} (h : DnB b l i) (hi : i < l.length) (hm : leastOf l i ≠ i) : DnB b (swp l i (leastOf l i)) (leastOf l i) := by
  obtain ⟨s1, s2, s3⟩ := leastOf_spec hi
  generalize leastOf l i = m at s1 s2 s3 hm ⊢
  have s3 := s3.resolve_left hm
  have sw := tat_swp hi s3.2.2
  have hb := h.at_
  refine ⟨by omega, fun j j0 jl jb jp => ?_, fun j j0 jl jp m0 mb => ?_⟩
  · rw [swp_len] at jl
    by_cases e1 : j = i
    · subst e1
      rw [sw j, if_neg (by omega), if_pos rfl, sw, if_neg (by omega), if_neg (by omega)]
      exact h.kids m s3.2.1 s3.2.2 s3.1 j0 jb
    · by_cases e2 : j = m
      · subst e2
        rw [sw j, if_pos rfl, sw, if_neg (by omega), if_pos s3.1]
        exact s2
      · rw [sw j, if_neg e2, if_neg e1, sw, if_neg (by omega)]
        by_cases e3 : (j - 1) / 2 = i
        · rw [if_pos e3]; exact s1 j j0 jl e3
        · rw [if_neg e3]; exact h.rest j j0 jl jb e3
  · rw [swp_len] at jl
    rw [sw ((m - 1) / 2), if_neg (by omega), if_pos s3.1, sw j, if_neg (by omega), if_neg (by omega)]
    have := h.rest j j0 jl (by omega) (by omega)
    rw [jp] at this
    exact this
theorem DnB.done {b : Nat} {l : List Tm} {i : Nat} (h : DnB b l i) (hm : i < l.length → leastOf l i = i) : heapFrom b l := fun j j0 jl jb => by
  by_cases e : (j - 1) / 2 = i
  · have hi : i < l.length := by omega
    have := (leastOf_spec hi).1 j j0 jl e
    rw [hm hi] at this
    rw [e]; exact this
  · exact h.rest j j0 jl jb e
theorem downB : ∀ (f : Nat) (b : Nat) (l : List Tm) (i : Nat), l.length - i < f → DnB b l i → heapFrom b (downL f l i)
  | 0, b, l, i, hf, h => by omega
  | f + 1, b, l, i, hf, h => by
    simp only [downL]
    by_cases hm : leastOf l i = i
    · rw [if_pos hm]; exact h.done (fun _ => hm)
    · rw [if_neg hm]
      have hc := (leastOf_cases l i).resolve_left hm
      exact downB f b _ _ (by rw [swp_len]; omega) (h.step (by omega) hm)
theorem heapify_heap : ∀ (k : Nat) (l : List Tm), heapFrom k l → isHeap (heapify k l)
  | 0, l, h => fun j j0 jl => h j j0 jl (Nat.zero_le _)
  | k + 1, l, h => by
    rw [heapify]
    refine heapify_heap k _ (downB _ k l k (by omega) ⟨Nat.le_refl _, fun j j0 jl jb jp => h j j0 jl (by omega), fun j j0 jl jp i0 ib => by omega⟩)
theorem dropL_heap (g : Int) (l : List Tm) : isHeap (dropL g l) := heapify_heap _ _ (fun j j0 jl jb => by omega)
theorem dropL_perm (g : Int) (l : List Tm) : (dropL g l).Perm (dropG g l) := heapify_perm _ _
theorem dropG_perm {g : Int} {l m : List Tm} (h : l.Perm m) : (dropG g l).Perm (dropG g m) := h.filter _
end Go.Proofs.Ytkbjihnkbfjhmaa.Heap
namespace Go.Proofs.Ytkbjihnkbfjhmaa.Heap
open Go Go.RowKit Go.Shelf Go.Proofs.Ytkbjihnkbfjhmaa.Own Go.Proofs.YtkbjihnkbfjhmaaW.PrintWords Go.Proofs.YtkbjihnkbfjhmaaW.PrintLast Go.Proofs.YtkbjihnkbfjhmaaW.PrintMore
set_option linter.unusedVariables false
set_option linter.unusedSimpArgs false
section
variable {w0 w w' : World} {F0 P0 : Nat → Prop} {p : Nat} {l : List Tm} {ts : List Thing}
theorem Hp.dropped (h : Hp w0 F0 P0 p l ts w) (hlen : l.length ≤ 100000) (g n : Int) (hn : (l.length : Int) - ((dropG g l).length : Int) = n) :
    Calls Try.prog 16 #[.pointer (some ⟨p, 0, none⟩), .int .i64 g] w fun e w' => e = .returned (.int .i64 n) ∧ Hp w0 F0 P0 p (dropL g l) ts w' := by
  obtain ⟨v, h⟩ := h
  refine (drop_st h rfl hlen g n hn).mono ?_
  rintro e w' ⟨rfl, v', h'⟩
  exact ⟨rfl, v', h'⟩
theorem Hp.tcells {b : Nat} {a0 a1 a2 : Value} {T : Nat} (h : Hp w0 F0 P0 p l (boxT b T #[a0, a1, a2] :: ts) w) : (w.cell? ⟨b, 0, none⟩ = some a0 ∧ w.cell? ⟨b, 1, none⟩ = some a1 ∧ w.cell? ⟨b, 2, none⟩ = some a2) ∧ b < w.heap.size := by
  obtain ⟨v, h⟩ := h
  obtain ⟨h1, -, h2⟩ := box_cells3 h.drop.drop
  exact ⟨h1, h2⟩
theorem Hp.all_nil (h : Hp w0 F0 P0 p [] ts w) :
    Calls Try.prog 14 #[.pointer (some ⟨p, 0, none⟩)] w fun e w' => ∃ A c, e = .returned (.slice A 0 c) ∧ Below w.heap.size w w' := by
  obtain ⟨v, h⟩ := h
  refine (all_st h rfl (by simp)).mono ?_
  rintro e w' ⟨v', rfl, hO, hB⟩
  rcases hO.2 with ⟨rfl, -⟩ | ⟨g, cap, cur, rfl, -⟩
  · exact ⟨_, _, rfl, hB⟩
  · exact ⟨_, _, rfl, hB⟩
end
theorem dropL_nil (g : Int) : dropL g [] = [] := List.length_eq_zero_iff.mp (by unfold dropL; rw [heapify_len]; simp [dropG])
set_option maxRecDepth 100000 in
set_option maxHeartbeats 4000000 in
theorem nobody_calls (w : World) (x : Tm) :
    Calls Try.prog 8 #[.agg #[.int .i64 x.t, .int .i64 x.s, .int .i64 x.g]] w fun e w' => e = .returned (.bool true) ∧ Below w.heap.size w w' := by
  obtain ⟨t, s, g⟩ := x

  show Calls Try.prog 8 #[.agg #[.int .i64 t, .int .i64 s, .int .i64 g]] w _
  have HS := Aside0.mk ((St.start w (fun _ => True)).box #[.int .i64 t, .int .i64 s, .int .i64 g] 23)
  go_enter Try.func8, Try.ntmps8
  go_wp2_with (first
    | (go_at_call 9; go_loud ((with_reducible refine (shown_calls _).mono ?_); rintro e w1 ⟨rfl, hb⟩; have hS := HS.out.below hb; obtain ⟨⟨k0, k1, k2⟩, -, -⟩ := box_cells3 hS; have HS1 := Aside0.mk hS; clear hb hS HS))
    | (go_at_call 11; (with_reducible refine (push_none ⟨t, s, g⟩ _).mono ?_); rintro e w2 ⟨rfl, hb⟩; have HS2 := Aside0.mk (HS1.out.below hb); clear hb HS1 k0 k1 k2)
    | (go_at_call 12; (with_reducible refine (pop_none _).mono ?_); rintro e w3 ⟨rfl, hb⟩; unfold Tm.agg zeroTm; have HS3 := Aside0.mk (St_alloc (HS2.out.below hb) (.cells #[.int .i64 0, .int .i64 0, .int .i64 0] 23)); clear hb HS2)
    | (go_at_call 15; (with_reducible refine (first_none _).mono ?_); rintro e w4 ⟨rfl, hb⟩; unfold Tm.agg zeroTm; have hS := Hp.new (St_alloc (HS3.out.below hb) (.cells #[.int .i64 0, .int .i64 0, .int .i64 0] 23)); rw [World.size_alloc] at hS; have HS4 := Aside0.mk hS; clear hb HS3 hS)
    | (go_at_call 12; go_loud ((with_reducible refine (Hp.pop_nil HS4.out).mono ?_); rintro e w5 ⟨rfl, hS⟩; unfold Tm.agg zeroTm; replace hS := hS.below (below_alloc (Below.refl _ _) (.cells #[.int .i64 0, .int .i64 0, .int .i64 0] 23)); obtain ⟨⟨k0, k1, k2⟩, k3⟩ := hS.tcells; have HS5 := Aside0.mk hS; clear hS HS4))
    | (go_at_call 16; (with_reducible refine (drop_none g _).mono ?_); rintro e w6 ⟨rfl, hb⟩; have HS6 := Aside0.mk (HS5.out.below hb); clear hb HS5)
    | (go_at_call 14; (with_reducible refine (all_none _).mono ?_); rintro e w7 ⟨rfl, rfl⟩)
    | (go_at_call 13; (with_reducible refine (len_none _).mono ?_); rintro e w8 ⟨rfl, rfl⟩; clear k0 k1 k2 k3; obtain ⟨⟨k0, k1, k2⟩, k3⟩ := HS6.out.tcells)
    | (go_at_call 16; (with_reducible refine (Hp.dropped HS6.out (by simp) g 0 rfl).mono ?_); rintro e w9 ⟨rfl, hS⟩; rw [dropL_nil] at hS; have HS7 := Aside0.mk hS; clear hS HS6)
    | (go_at_call 14; (with_reducible refine (Hp.all_nil HS7.out).mono ?_); rintro e w10 ⟨A1, c1, rfl, hb⟩; have HS8 := Aside0.mk (HS7.out.below hb); clear hb HS7))
  go_ret
  exact ⟨rfl, HS8.out.bel⟩
end Go.Proofs.Ytkbjihnkbfjhmaa.Heap
namespace Go.Proofs.Ytkbjihnkbfjhmaa.Heap
open Go Go.RowKit Go.Proofs.Ytkbjihnkbfjhmaa.Own Go.Proofs.YtkbjihnkbfjhmaaW.PrintWords Go.Proofs.YtkbjihnkbfjhmaaW.PrintLast Go.Proofs.YtkbjihnkbfjhmaaW.PrintMore
set_option linter.unusedVariables false
set_option linter.unusedSimpArgs false
def val (x : Tm) : Int := x.t + 3 * x.s + 7 * x.g
def tot (l : List Tm) : Int := (l.map val).sum
theorem tot_cons (x : Tm) (l : List Tm) : tot (x :: l) = val x + tot l := by simp [tot]
theorem tot_perm {l l' : List Tm} (h : l.Perm l') : tot l = tot l' := by
  induction h with
  | nil => rfl
  | cons x _ ih => rw [tot_cons, tot_cons, ih]
  | swap x y l => rw [tot_cons, tot_cons, tot_cons, tot_cons]; omega
  | trans _ _ ih1 ih2 => rw [ih1, ih2]
theorem tot_take {l : List Tm} {i : Nat} (h : i < l.length) : tot (l.take (i + 1)) = tot (l.take i) + val l[i] := by
  unfold tot
  rw [List.take_succ_eq_append_getElem h, List.map_append, List.sum_append]
  simp
theorem w_add (a b : Int) : wrap64 (wrap64 a + b) = wrap64 (a + b) := by unfold wrap64; omega
theorem w_add' (a b : Int) : wrap64 (a + wrap64 b) = wrap64 (a + b) := by unfold wrap64; omega
theorem w_sub (a b : Int) : wrap64 (wrap64 a - b) = wrap64 (a - b) := by unfold wrap64; omega
theorem w_sub' (a b : Int) : wrap64 (a - wrap64 b) = wrap64 (a - b) := by unfold wrap64; omega
theorem w_sum (S : Int) (x : Tm) : wrap64 (wrap64 (wrap64 (wrap64 S + x.t) + wrap64 (3 * x.s)) + wrap64 (7 * x.g)) = wrap64 (S + val x) := by
  rw [w_add S x.t, w_add (S + x.t), w_add' (S + x.t), w_add (S + x.t + 3 * x.s), w_add' (S + x.t + 3 * x.s)]
  congr 1
  unfold val
  omega
theorem w_dif (S : Int) (x : Tm) : wrap64 (wrap64 (wrap64 (wrap64 S - x.t) - wrap64 (3 * x.s)) - wrap64 (7 * x.g)) = wrap64 (S - val x) := by
  rw [w_sub S x.t, w_sub (S - x.t), w_sub' (S - x.t), w_sub (S - x.t - 3 * x.s), w_sub' (S - x.t - 3 * x.s)]
  congr 1
  unfold val
  omega
/-- The cells of an element that came in. -/
theorem arg_elem {w : World} {A : Option Addr} {l : List Tm} (h : kTm.C w A l.length l) {i : Nat} (hi : i < l.length) : ∃ ad, A = some ad ∧ w.cell? (ad.add (i * 3)) = some (.int .i64 l[i].t) ∧ w.cell? ⟨(ad.add (i * 3)).block, (ad.add (i * 3)).off + 1, none⟩ = some (.int .i64 l[i].s) ∧ w.cell? ⟨(ad.add (i * 3)).block, (ad.add (i * 3)).off + 2, none⟩ = some (.int .i64 l[i].g) := by
  obtain ⟨ad, cs, e1, hl, hK, hc⟩ := Kd.C_get h ⟨0, 0, 0⟩ (i : Int) (by omega) (by omega)
  have hx : l.getD (i : Int).toNat ⟨0, 0, 0⟩ = l[i] := by simp [List.getD_eq_getElem?_getD, List.getElem?_eq_getElem hi]
  rw [hx] at hK
  obtain rfl := kTm_open hK
  have h0 := hc 0 _ rfl
  have h1 := hc 1 _ rfl
  have h2 := hc 2 _ rfl
  rw [Int.toNat_natCast] at h0 h1 h2
  refine ⟨ad, e1, h0, ?_, ?_⟩
  · rw [← add_field _ _ 1 (by omega)]; exact h1
  · rw [← add_field _ _ 2 (by omega)]; exact h2
def pushes (l : List Tm) : Nat → List Tm
  | 0 => []
  | i + 1 => pushL (pushes l i) (l.getD i zeroTm)
theorem pushes_len (l : List Tm) : ∀ i, (pushes l i).length = i
  | 0 => rfl
  | i + 1 => by simp only [pushes]; rw [pushL_len, pushes_len]
theorem pushes_heap (l : List Tm) : ∀ i, isHeap (pushes l i)
  | 0 => heap_nil
  | i + 1 => push_heap (pushes_heap l i) _
theorem pushes_perm (l : List Tm) : ∀ i, i ≤ l.length → (pushes l i).Perm (l.take i)
  | 0, _ => by simp [pushes]
  | i + 1, h => by
    simp only [pushes]
    refine (push_perm _ _).trans ?_
    rw [List.take_succ_eq_append_getElem (by omega), show l.getD i zeroTm = l[i] by simp [List.getD_eq_getElem?_getD, List.getElem?_eq_getElem (show i < l.length by omega)]]
    exact ((pushes_perm l i (by omega)).cons _).trans (List.perm_append_singleton _ _).symm
section
variable {w0 w w' : World} {F0 P0 : Nat → Prop} {p b : Nat} {l : List Tm} {z x : Tm}
/-- The heap, the box of the one taken, and that of the last one. -/
def Pair (w0 : World) (p : Nat) (l : List Tm) (b : Nat) (z : Tm) (b2 : Nat) (x : Tm) (w : World) : Prop := Hp w0 (fun _ => False) (fun _ => True) p l [boxT b2 23 #[.int .i64 x.t, .int .i64 x.s, .int .i64 x.g], boxT b 23 #[.int .i64 z.t, .int .i64 z.s, .int .i64 z.g]] w
def One (w0 : World) (p : Nat) (l : List Tm) (b : Nat) (z : Tm) (w : World) : Prop := Hp w0 (fun _ => False) (fun _ => True) p l [boxT b 23 #[.int .i64 z.t, .int .i64 z.s, .int .i64 z.g]] w
theorem One.tbox (h : One w0 p l b z w) (x : Tm) : Pair w0 p l b z w.heap.size x (w.alloc (.cells #[.int .i64 x.t, .int .i64 x.s, .int .i64 x.g] 23)) ∧ b < w.heap.size := by
  obtain ⟨v, h⟩ := h
  exact ⟨⟨v, (h.box #[.int .i64 x.t, .int .i64 x.s, .int .i64 x.g] 23).rot⟩, h.drop.drop.boxed.2⟩
theorem Pair.below {b2 : Nat} (h : Pair w0 p l b z b2 x w) (hb : Below w.heap.size w w') : Pair w0 p l b z b2 x w' := Hp.below h hb
theorem One.cells (h : One w0 p l b z w) : (w.cell? ⟨b, 0, none⟩ = some (.int .i64 z.t) ∧ w.cell? ⟨b, 1, none⟩ = some (.int .i64 z.s) ∧ w.cell? ⟨b, 2, none⟩ = some (.int .i64 z.g)) ∧ (w.frozen? ⟨b, 0, none⟩ = false ∧ w.frozen? ⟨b, 1, none⟩ = false ∧ w.frozen? ⟨b, 2, none⟩ = false) ∧ b < w.heap.size := by
  obtain ⟨v, h⟩ := h
  exact box_cells3 h.drop.drop
theorem Pair.cells {b2 : Nat} (h : Pair w0 p l b z b2 x w) : ((w.cell? ⟨b, 0, none⟩ = some (.int .i64 z.t) ∧ w.cell? ⟨b, 1, none⟩ = some (.int .i64 z.s) ∧ w.cell? ⟨b, 2, none⟩ = some (.int .i64 z.g)) ∧ (w.frozen? ⟨b, 0, none⟩ = false ∧ w.frozen? ⟨b, 1, none⟩ = false ∧ w.frozen? ⟨b, 2, none⟩ = false) ∧ b < w.heap.size) ∧ (w.cell? ⟨b2, 0, none⟩ = some (.int .i64 x.t) ∧ w.cell? ⟨b2, 1, none⟩ = some (.int .i64 x.s) ∧ w.cell? ⟨b2, 2, none⟩ = some (.int .i64 x.g)) := by
  obtain ⟨v, h⟩ := h
  exact ⟨box_cells3 h.drop.drop.drop, (box_cells3 h.drop.drop).1⟩
theorem One.pop (h : One w0 p (x :: l) b z w) (hlen : l.length ≤ 100000) : Calls Try.prog 12 #[.pointer (some ⟨p, 0, none⟩)] w fun e w' => e = .returned (.tuple #[x.agg, .bool true]) ∧ One w0 p (popL (x :: l)) b z w' := Hp.pop_cons h hlen
theorem One.pop_nil (h : One w0 p [] b z w) : Calls Try.prog 12 #[.pointer (some ⟨p, 0, none⟩)] w fun e w' => e = .returned (.tuple #[zeroTm.agg, .bool false]) ∧ One w0 p [] b z w' := Hp.pop_nil h
theorem One.len (h : One w0 p [] b z w) : Calls Try.prog 13 #[.pointer (some ⟨p, 0, none⟩)] w fun e w' => e = .returned (.int .i64 0) ∧ w' = w := Hp.len h (n := 0) rfl
theorem One.below (h : One w0 p l b z w) (hb : Below w.heap.size w w') : One w0 p l b z w' := Hp.below h hb
theorem One.put (h : One w0 p l b z w) (x : Tm) : One w0 p l b x (((w.setCell ⟨b, 0, none⟩ (.int .i64 x.t)).setCell ⟨b, 1, none⟩ (.int .i64 x.s)).setCell ⟨b, 2, none⟩ (.int .i64 x.g)) := by
  obtain ⟨v, h⟩ := h
  exact ⟨v, (St_set3 h.nth2).rot⟩
theorem Pair.put {b2 : Nat} (h : Pair w0 p l b z b2 x w) (y : Tm) : One w0 p l b y (((w.setCell ⟨b, 0, none⟩ (.int .i64 y.t)).setCell ⟨b, 1, none⟩ (.int .i64 y.s)).setCell ⟨b, 2, none⟩ (.int .i64 y.g)) := by
  obtain ⟨v, h⟩ := h
  exact One.put ⟨v, h.nth2.drop⟩ y
end
set_option maxRecDepth 100000 in
set_option maxHeartbeats 4000000 in
theorem sorts_calls (w : World) (A : Option Addr) (c : Nat) (l : List Tm) (hr : kTm.C w A l.length l) (hc : l.length ≤ c) (wf : (∀ x ∈ l, (Lit.int .i64 x.t).wf = true ∧ (Lit.int .i64 x.s).wf = true ∧ (Lit.int .i64 x.g).wf = true) ∧ l.length * 24 ≤ 140737488351232 ∧ l.length ≤ maxLen) :
    Calls Try.prog 4 #[.slice A l.length c] w fun e w' => e = .returned (.bool true) ∧ Below w.heap.size w w' := by
  have HR := Aside0.mk hr
  clear hr wf
  by_cases hbig : 300 < l.length
  · have b1 : decide (300 < l.length) = true := decide_eq_true hbig
    have b2 : decide ((300 : Int) < (l.length : Int)) = true := decide_eq_true (by omega)
    go_enter Try.func4, Try.ntmps4
    go_wp2_with (go_at_call 9; (with_reducible refine (shown_calls _).mono ?_); rintro e w1 ⟨rfl, hb⟩; have HB := Aside0.mk hb; clear hb)
    go_ret
    exact ⟨rfl, HB.out⟩
  · have b1 : decide (300 < l.length) = false := decide_eq_false hbig
    have b2 : decide ((300 : Int) < (l.length : Int)) = false := decide_eq_false (by omega)
    go_enter Try.func4, Try.ntmps4
    go_wp2_with (go_at_call 9; (with_reducible refine (shown_calls _).mono ?_); rintro e w1 ⟨rfl, hb⟩; have HS := Aside0.mk (Hp.new ((St.start w (fun _ => True)).below hb)); clear hb)
    clear b1 b2
    go_loopg [5] (l.length + 1) (fun kq v5 w' => ∃ i : Nat, v5 = .int .i64 (i : Int) ∧ Aside0 (i + kq = l.length + 1 ∧ i ≤ l.length) ∧ Aside0 (Hp w (fun _ => False) (fun _ => True) w1.heap.size (pushes l i) [] w'))
    case atStart => exact ⟨0, rfl, ⟨by omega, Nat.zero_le _⟩, HS⟩
    case round =>
      clear HS
      obtain ⟨i, rfl, HK, HS⟩ := hrel
      cases gk with
      | zero => exact absurd HK.out (by omega)
      | succ k1 =>
        by_cases hin : i < l.length
        · have c1 : decide ((i : Int) < (l.length : Int)) = true := decide_eq_true (by omega)
          have c1n : decide (i < l.length) = true := decide_eq_true (by omega)
          have hwr := Kd.C_below HR.out HS.out.bel
          obtain ⟨ad, rfl, a0, a1, a2⟩ := arg_elem hwr hin
          have p0 : (i : Int) ≤ 300 := by omega
          have p1 : (0 : Int) ≤ (i : Int) := by omega
          have p2 : (i : Int) < (l.length : Int) := by omega
          have HX := Aside0.mk (show pushL (pushes l i) l[i] = pushes l (i + 1) by simp only [pushes]; rw [show l.getD i zeroTm = l[i] by simp [List.getD_eq_getElem?_getD, List.getElem?_eq_getElem hin]])
          have HL := Aside0.mk (show (pushes l i).length ≤ 100000 by rw [pushes_len]; omega)
          have HIN := Aside0.mk hin
          generalize l[i] = x at a0 a1 a2 HX
          clear hwr hin
          go_wp2_with (go_at_call 11; (with_reducible refine (HS.out.push HL.out x HX.out).mono ?_); rintro e w2 ⟨rfl, hS⟩; have HS2 := Aside0.mk hS; clear hS HS)
          go_roundg k1
          case measure => have := HK.out; omega
          case rel => exact ⟨i + 1, by first | rfl | go_num, ⟨by have := HK.out; omega, by have := HIN.out; omega⟩, HS2⟩
        · have c1 : decide ((i : Int) < (l.length : Int)) = false := decide_eq_false (by omega)
          have c1n : decide (i < l.length) = false := decide_eq_false (by omega)
          obtain ⟨n, hn⟩ : ∃ n, n = l.length := ⟨_, rfl⟩
          obtain rfl : i = n := by have := HK.out; omega
          have H0 := Aside0.mk (show (pushes l i).length = i ∧ isHeap (pushes l i) ∧ tot (pushes l i) = tot l by
            refine ⟨pushes_len l i, pushes_heap l i, ?_⟩
            rw [tot_perm (pushes_perm l i (by omega)), hn, List.take_length])
          have hi300 : i ≤ 300 := by omega
          have HN := Aside0.mk hn
          obtain ⟨wo, rfl⟩ : ∃ wo : World, wo = wr := ⟨_, rfl⟩
          have HS0 : ∃ v, St w (fun _ => False) (fun _ => True) (boxT w1.heap.size 30 #[v] :: rowT kTm 23 v (pushes l i) :: [boxT wo.heap.size 23 #[.int .i64 0, .int .i64 0, .int .i64 0]]) (wo.alloc (.cells #[.int .i64 0, .int .i64 0, .int .i64 0] 23)) := by
            obtain ⟨v, hS⟩ := HS.out
            exact ⟨v, (hS.box _ _).rot⟩
          replace HS0 := Aside0.mk HS0
          clear HK hin HS hn hbig
          go_wp2
          go_loopg [7, 8, 9, 10] (i + 1) (fun kq v7 v8 v9 v10 w' => ∃ (k : Nat) (hs : List Tm) (z : Tm), v7 = .int .i64 (wrap64 (tot l - tot hs)) ∧ v8 = .int .i64 (k : Int) ∧ Aside0 (k + kq = i + 1 ∧ k ≤ i ∧ hs.length = i - k ∧ isHeap hs ∧ (0 < k → ∀ y ∈ hs, le z y)) ∧ Aside0 (One w w1.heap.size hs wo.heap.size z w'))
          case atStart => exact ⟨0, pushes l i, zeroTm, by rw [H0.out.2.2, Int.sub_self, show wrap64 0 = 0 by decide +kernel], rfl, ⟨by omega, Nat.zero_le _, by rw [H0.out.1]; rfl, H0.out.2.1, fun h => by omega⟩, HS0⟩
          case round =>
            clear HS0 H0
            obtain ⟨k, hs, z, rfl, rfl, HK, HS⟩ := hrel
            cases gk with
            | zero => exact absurd HK.out.1 (by have := HK.out.2.1; omega)
            | succ k1 =>
              obtain ⟨q1, q2, q3, q4, q5⟩ := HK.out
              by_cases hin : k < i
              · cases hs with
                | nil => rw [List.length_nil] at q3; omega
                | cons x hs =>
                  have c1 : decide ((k : Int) < (l.length : Int)) = true := decide_eq_true (by have := HN.out; omega)
                  have c1n : decide (k < l.length) = true := decide_eq_true (by have := HN.out; omega)
                  have hk0 : (k : Int) ≤ 300 := by omega
                  have HP := Aside0.mk (show (popL (x :: hs)).length = i - (k + 1) ∧ isHeap (popL (x :: hs)) ∧ (∀ y ∈ popL (x :: hs), le x y) ∧ tot l - tot (popL (x :: hs)) = tot l - tot (x :: hs) + val x by
                    refine ⟨by rw [popL_len, q3]; omega, pop_heap q4, fun y hy => head_least q4 y (List.mem_cons_of_mem _ ((pop_perm x hs).mem_iff.mp hy)), ?_⟩
                    rw [tot_perm (pop_perm x hs), tot_cons]
                    omega)
                  have HL := Aside0.mk (show hs.length ≤ 100000 by simp at q3; omega)
                  obtain ⟨S, hS0⟩ : ∃ S, tot l - tot (x :: hs) = S := ⟨_, rfl⟩
                  rw [hS0] at HP ⊢
                  have HKK := Aside0.mk hin
                  by_cases hk1 : 0 < k
                  · have d1 : decide (0 < k) = true := decide_eq_true hk1
                    have hcz := q5 hk1 x (by simp)
                    obtain ⟨d, hd⟩ : ∃ d, cmpT z x = d := ⟨_, rfl⟩
                    have d2 : decide (0 < d) = false := decide_eq_false (by unfold le at hcz; omega)
                    have HD := Aside0.mk hd
                    clear hcz hd q1 q2 q3 q4 q5 hin hk1 hS0
                    go_wp2_with (first | (go_at_call 12; (with_reducible refine (One.pop HS.out HL.out).mono ?_); rintro e w4 ⟨rfl, hS⟩; unfold Tm.agg; obtain ⟨hP, hlt⟩ := hS.tbox x; have HS4 := Aside0.mk hP; obtain ⟨⟨⟨f0, f1, f2⟩, ⟨f3, f4, f5⟩, f6⟩, ⟨g0, g1, g2⟩⟩ := hP.cells; clear hS HS hP) | (go_at_call 10; (with_reducible refine (cmp_v _ _ _ HD.out).mono ?_); rintro e w5 ⟨rfl, hb⟩; have hS := HS4.out.below hb; clear f0 f1 f2 f3 f4 f5 f6 g0 g1 g2; obtain ⟨⟨⟨f0, f1, f2⟩, ⟨f3, f4, f5⟩, f6⟩, ⟨g0, g1, g2⟩⟩ := hS.cells; have HS5 := Aside0.mk (hS.put x); clear hS HS4 hb))
                    go_roundg k1
                    case measure => have := HK.out; omega
                    case rel => exact ⟨k + 1, popL (x :: hs), x, by rw [HP.out.2.2.2]; first | (exact congrArg _ (w_sum S x)) | (rw [← w_sum]), by first | rfl | go_num, ⟨by have := HK.out; omega, by have := HKK.out; omega, HP.out.1, HP.out.2.1, fun _ => HP.out.2.2.1⟩, HS5⟩
                  · obtain rfl : k = 0 := by omega
                    clear q1 q2 q3 q4 q5 hin hk1 hS0
                    go_wp2_with (first | (go_at_call 12; (with_reducible refine (One.pop HS.out HL.out).mono ?_); rintro e w4 ⟨rfl, hS⟩; unfold Tm.agg; obtain ⟨⟨f0, f1, f2⟩, ⟨f3, f4, f5⟩, f6⟩ := hS.cells; have HS5 := Aside0.mk ((hS.put x).below (below_alloc (Below.refl _ _) (.cells #[.int .i64 x.t, .int .i64 x.s, .int .i64 x.g] 23))); clear hS HS))
                    go_roundg k1
                    case measure => have := HK.out; omega
                    case rel => exact ⟨1, popL (x :: hs), x, by rw [HP.out.2.2.2]; first | (exact congrArg _ (w_sum S x)) | (rw [← w_sum]), by first | rfl | go_num, ⟨by have := HK.out; omega, by have := HKK.out; omega, HP.out.1, HP.out.2.1, fun _ => HP.out.2.2.1⟩, HS5⟩
              · obtain rfl : k = i := by omega
                have c1 : decide ((k : Int) < (l.length : Int)) = false := decide_eq_false (by have := HN.out; omega)
                have c1n : decide (k < l.length) = false := decide_eq_false (by have := HN.out; omega)
                obtain rfl : hs = [] := List.length_eq_zero_iff.mp (by omega)
                rw [show tot l - tot [] = tot l by simp [tot]]
                clear q1 q2 q3 q4 q5 hin HK
                go_wp2
                go_loopg [7, 11] (k + 1) (fun kq v7 v11 w' => ∃ j : Nat, v7 = .int .i64 (wrap64 (tot l - tot (l.take j))) ∧ v11 = .int .i64 (j : Int) ∧ Aside0 (j + kq = k + 1 ∧ j ≤ k) ∧ Aside0 (One w w1.heap.size [] wo.heap.size z w'))
                case atStart => exact ⟨0, by rw [List.take_zero, show tot l - tot [] = tot l by simp [tot]], rfl, ⟨by omega, Nat.zero_le _⟩, HS⟩
                case round =>
                  clear HS
                  obtain ⟨j, rfl, rfl, HK, HS⟩ := hrel
                  cases gk with
                  | zero => exact absurd HK.out (by omega)
                  | succ k2 =>
                    by_cases hin : j < l.length
                    · have c2 : decide ((j : Int) < (l.length : Int)) = true := decide_eq_true (by omega)
                      have c2n : decide (j < l.length) = true := decide_eq_true (by omega)
                      have hwr := Kd.C_below HR.out (Hp.bel HS.out)
                      obtain ⟨ad, rfl, a0, a1, a2⟩ := arg_elem hwr hin
                      have p0 : (j : Int) ≤ 300 := by have := HK.out; omega
                      have p1 : (0 : Int) ≤ (j : Int) := by omega
                      have p2 : (j : Int) < (l.length : Int) := by omega
                      have HT := Aside0.mk (tot_take hin)
                      obtain ⟨S, hS0⟩ : ∃ S, tot l - tot (l.take j) = S := ⟨_, rfl⟩
                      have HS0 := Aside0.mk hS0
                      rw [hS0]
                      have HJ := Aside0.mk (show j < k by have := HN.out; omega)
                      generalize l[j] = x at a0 a1 a2 HT
                      clear hwr hin hS0
                      go_wp2
                      go_quiet (fail)
                      go_wp2
                      go_roundg k2
                      case measure => have := HK.out; omega
                      case rel => exact ⟨j + 1, by rw [HT.out, show tot l - (tot (l.take j) + val x) = S - val x by have := HS0.out; omega]; first | (exact congrArg _ (w_dif S x)) | (rw [← w_dif]), by first | rfl | go_num, ⟨by have := HK.out; omega, by have := HJ.out; omega⟩, ⟨Hp.drewN HS.out _⟩⟩
                    · have c2 : decide ((j : Int) < (l.length : Int)) = false := decide_eq_false (by omega)
                      have c2n : decide (j < l.length) = false := decide_eq_false (by omega)
                      obtain rfl : j = k := by have := HK.out; have := HN.out; omega
                      have e0 : wrap64 (tot l - tot (l.take j)) = 0 := by
                        rw [HN.out, List.take_length, Int.sub_self]; decide +kernel
                      rw [e0]
                      clear hin e0 HK
                      go_wp2_with (first | (go_at_call 12; (with_reducible refine (One.pop_nil HS.out).mono ?_); rintro e w6 ⟨rfl, hS⟩; unfold Tm.agg zeroTm; have HS6 := Aside0.mk (hS.below (below_alloc (Below.refl _ _) (.cells #[.int .i64 0, .int .i64 0, .int .i64 0] 23))); clear hS HS) | (go_at_call 13; (with_reducible refine (One.len HS6.out).mono ?_); rintro e w7 ⟨rfl, rfl⟩))
                      go_ret
                      exact ⟨rfl, Hp.bel HS6.out⟩
end Go.Proofs.Ytkbjihnkbfjhmaa.Heap
namespace Go.Proofs.Ytkbjihnkbfjhmaa.Heap
open Go Go.RowKit Go.Shelf Go.Proofs.Ytkbjihnkbfjhmaa.Own Go.Proofs.YtkbjihnkbfjhmaaW.PrintWords Go.Proofs.YtkbjihnkbfjhmaaW.PrintLast Go.Proofs.YtkbjihnkbfjhmaaW.PrintMore
set_option linter.unusedVariables false
set_option linter.unusedSimpArgs false
def Srt (l : List Tm) : Prop := l.Pairwise le
theorem sortL_perm (l : List Tm) : (sortL l).Perm l := List.mergeSort_perm l _
theorem sortL_srt (l : List Tm) : Srt (sortL l) := by
  have h := List.pairwise_mergeSort (le := leB) (fun a b c h1 h2 => (leB_iff a c).mpr (le_trans ((leB_iff a b).mp h1) ((leB_iff b c).mp h2))) (fun a b => by
    by_cases h : le a b
    · rw [(leB_iff a b).mpr h]; rfl
    · rw [(leB_iff b a).mpr (le_of_not h)]; simp) l
  exact h.imp (fun {a b} hab => (leB_iff a b).mp hab)
theorem le_anti {x y : Tm} (h1 : le x y) (h2 : le y x) : x = y := by
  unfold le at h1 h2
  have hn := cmp_neg x y
  exact (cmp_zero x y).mp (by omega)
theorem srt_unique : ∀ {l m : List Tm}, Srt l → Srt m → l.Perm m → l = m := fun h1 h2 hp => List.Perm.eq_of_pairwise (le := le) (fun a b _ _ h1 h2 => le_anti h1 h2) h1 h2 hp
theorem sortL_eq {l m : List Tm} (hs : Srt m) (hp : m.Perm l) : sortL l = m := srt_unique (sortL_srt l) hs ((sortL_perm l).trans hp.symm)
theorem sortL_congr {l m : List Tm} (h : l.Perm m) : sortL l = sortL m := sortL_eq (sortL_srt m) ((sortL_perm m).trans h.symm)
theorem sortL_cons {x : Tm} {l : List Tm} (h : ∀ y ∈ l, le x y) : sortL (x :: l) = x :: sortL l :=
  sortL_eq (List.pairwise_cons.mpr ⟨fun y hy => h y ((sortL_perm l).mem_iff.mp hy), sortL_srt l⟩) ((sortL_perm l).cons x)
theorem sortL_pop {x : Tm} {l : List Tm} (h : isHeap (x :: l)) : sortL (x :: l) = x :: sortL (popL (x :: l)) := by
  rw [sortL_cons (fun y hy => head_least h y (List.mem_cons_of_mem _ hy)), sortL_congr (pop_perm x l)]
theorem cmp_b (x y : Tm) (d : Int) (h : cmpT x y = d) (w : World) : Calls Try.prog 10 #[.agg #[.int .i64 x.t, .int .i64 x.s, .int .i64 x.g], .agg #[.int .i64 y.t, .int .i64 y.s, .int .i64 y.g]] w fun e w' => e = .returned (.int .i64 d) ∧ Below w.heap.size w w' := by
  subst h; exact cmp_calls x y w
theorem wrap_id {x : Int} (h1 : -9223372036854775808 ≤ x) (h2 : x ≤ 9223372036854775807) : IntKind.i64.wrap x = x := Go.IntWalk.i64_in x ⟨h1, h2⟩
theorem keep9 {a0 a1 a2 a3 a4 a5 a6 a7 a8 : Addr} {v0 v1 v2 v3 v4 v5 v6 v7 v8 : Value} {W w w' : World} (h : w.cell? a0 = some v0 ∧ w.cell? a1 = some v1 ∧ w.cell? a2 = some v2 ∧ w.cell? a3 = some v3 ∧ w.cell? a4 = some v4 ∧ w.cell? a5 = some v5 ∧ w.cell? a6 = some v6 ∧ w.cell? a7 = some v7 ∧ w.cell? a8 = some v8 ∧ Aside0 (Below W.heap.size W w)) (hb : Below w.heap.size w w') :
    w'.cell? a0 = some v0 ∧ w'.cell? a1 = some v1 ∧ w'.cell? a2 = some v2 ∧ w'.cell? a3 = some v3 ∧ w'.cell? a4 = some v4 ∧ w'.cell? a5 = some v5 ∧ w'.cell? a6 = some v6 ∧ w'.cell? a7 = some v7 ∧ w'.cell? a8 = some v8 ∧ Aside0 (Below W.heap.size W w') := by
  obtain ⟨h0, h1, h2, h3, h4, h5, h6, h7, h8, h9⟩ := h
  exact ⟨cell_below h0 hb, cell_below h1 hb, cell_below h2 hb, cell_below h3 hb, cell_below h4 hb, cell_below h5 hb, cell_below h6 hb, cell_below h7 hb, cell_below h8 hb, ⟨h9.out.trans (hb.mono h9.out.size)⟩⟩
/-- What is read behind the heap's last change. -/
structure Seen (W : World) (b7 b9 : Nat) (x : Tm) (A1 A2 : Option Addr) (R : List Tm) (w : World) : Prop where
  bel : Below W.heap.size W w
  all : kTm.C w A1 (x :: R).length (x :: R)
  rest : kTm.C w A2 R.length R
  c0 : w.cell? ⟨b7, 0, none⟩ = some (.int .i64 x.t)
  c1 : w.cell? ⟨b7, 1, none⟩ = some (.int .i64 x.s)
  c2 : w.cell? ⟨b7, 2, none⟩ = some (.int .i64 x.g)
  d0 : w.cell? ⟨b9, 0, none⟩ = some (.int .i64 x.t)
  d1 : w.cell? ⟨b9, 1, none⟩ = some (.int .i64 x.s)
  d2 : w.cell? ⟨b9, 2, none⟩ = some (.int .i64 x.g)
theorem Seen.below {W w w' : World} {b7 b9 : Nat} {x : Tm} {A1 A2 : Option Addr} {R : List Tm} (h : Seen W b7 b9 x A1 A2 R w) (hb : Below w.heap.size w w') : Seen W b7 b9 x A1 A2 R w' :=
  ⟨h.bel.trans (hb.mono h.bel.size), Kd.C_below h.all hb, Kd.C_below h.rest hb, cell_below h.c0 hb, cell_below h.c1 hb, cell_below h.c2 hb, cell_below h.d0 hb, cell_below h.d1 hb, cell_below h.d2 hb⟩
section
variable {w0 w w' : World} {F0 P0 : Nat → Prop} {p : Nat} {l : List Tm} {ts : List Thing}
theorem Hp.read {A : Option Addr} {k : List Tm} {ts1 : List Thing} (h : Hp w0 F0 P0 p l (valT (fun W => kTm.C W A k.length k) :: ts1) w) : kTm.C w A k.length k := by
  obtain ⟨v, h⟩ := h
  exact h.drop.drop.now
theorem Hp.tbox (h : Hp w0 F0 P0 p l ts w) (cells : Array Value) (e : Nat) : Hp w0 F0 P0 p l (boxT w.heap.size e cells :: ts) (w.alloc (.cells cells e)) := by
  obtain ⟨v, h⟩ := h
  exact ⟨v, (h.box cells e).rot⟩
theorem Seen.mk' {b7 b9 : Nat} {x : Tm} {A1 A2 : Option Addr} {R : List Tm} (h : Hp w0 F0 P0 p l (valT (fun W => kTm.C W A2 R.length R) :: boxT b9 23 #[.int .i64 x.t, .int .i64 x.s, .int .i64 x.g] :: boxT b7 23 #[.int .i64 x.t, .int .i64 x.s, .int .i64 x.g] :: valT (fun W => kTm.C W A1 (x :: R).length (x :: R)) :: ts) w) : Seen w b7 b9 x A1 A2 R w := by
  obtain ⟨v, h⟩ := h
  obtain ⟨⟨d0, d1, d2⟩, -, -⟩ := box_cells3 h.drop.drop.drop
  obtain ⟨⟨f0, f1, f2⟩, -, -⟩ := box_cells3 h.drop.drop.drop.drop
  exact ⟨Below.refl _ _, h.drop.drop.drop.drop.drop.now, h.drop.drop.now, f0, f1, f2, d0, d1, d2⟩
end
set_option maxRecDepth 100000 in
set_option maxHeartbeats 4000000 in
theorem first_calls (w : World) (A : Option Addr) (c : Nat) (l : List Tm) (hr : kTm.C w A l.length l) (hc : l.length ≤ c) (wf : (∀ x ∈ l, (Lit.int .i64 x.t).wf = true ∧ (Lit.int .i64 x.s).wf = true ∧ (Lit.int .i64 x.g).wf = true) ∧ l.length * 24 ≤ 140737488351232 ∧ l.length ≤ maxLen) :
    Calls Try.prog 5 #[.slice A l.length c] w fun e w' => e = .returned (.bool true) ∧ Below w.heap.size w w' := by
  have HR := Aside0.mk hr
  clear hr wf
  by_cases hbig : 200 < l.length
  · have b1 : decide (200 < l.length) = true := decide_eq_true hbig
    have b2 : decide ((200 : Int) < (l.length : Int)) = true := decide_eq_true (by omega)
    go_enter Try.func5, Try.ntmps5
    go_wp2_with (go_at_call 9; (with_reducible refine (shown_calls _).mono ?_); rintro e w1 ⟨rfl, hb⟩; have HB := Aside0.mk hb; clear hb)
    go_ret
    exact ⟨rfl, HB.out⟩
  · have b1 : decide (200 < l.length) = false := decide_eq_false hbig
    have b2 : decide ((200 : Int) < (l.length : Int)) = false := decide_eq_false (by omega)
    cases l with
    | nil =>
      go_enter Try.func5, Try.ntmps5
      go_wp2_with (go_at_call 9; (with_reducible refine (shown_calls _).mono ?_); rintro e w1 ⟨rfl, hb⟩; have HB := Aside0.mk hb; clear hb)
      go_ret
      exact ⟨rfl, HB.out⟩
    | cons l0 l1 =>
    obtain ⟨l, hl⟩ : ∃ l, l = l0 :: l1 := ⟨_, rfl⟩
    rw [← hl] at b1 b2 hbig hc HR ⊢
    have hpos : 0 < l.length := by rw [hl]; simp
    clear hl
    have b3 : ((l.length : Int) == 0) = false := by rw [beq_eq_false_iff_ne]; omega
    have b4 : decide ((l.length : Int) = 0) = false := decide_eq_false (by omega)
    have b5 : decide (l.length = 0) = false := decide_eq_false (by omega)
    have b6 : ((l.length : Nat) == 0) = false := by rw [beq_eq_false_iff_ne]; omega
    go_enter Try.func5, Try.ntmps5
    go_wp2_with (go_at_call 9; (with_reducible refine (shown_calls _).mono ?_); rintro e w1 ⟨rfl, hb⟩; have HS := Aside0.mk (Hp.new ((St.start w (fun _ => True)).below hb)); clear hb)
    clear b1 b2 b3 b4 b5 b6
    go_loopg [5] (l.length + 1) (fun kq v5 w' => ∃ i : Nat, v5 = .int .i64 (i : Int) ∧ Aside0 (i + kq = l.length + 1 ∧ i ≤ l.length) ∧ Aside0 (Hp w (fun _ => False) (fun _ => True) w1.heap.size (pushes l i) [] w'))
    case atStart => exact ⟨0, rfl, ⟨by omega, Nat.zero_le _⟩, HS⟩
    case round =>
      clear HS
      obtain ⟨i, rfl, HK, HS⟩ := hrel
      cases gk with
      | zero => exact absurd HK.out (by omega)
      | succ k1 =>
        by_cases hin : i < l.length
        · have c1 : decide ((i : Int) < (l.length : Int)) = true := decide_eq_true (by omega)
          have c1n : decide (i < l.length) = true := decide_eq_true (by omega)
          have hwr := Kd.C_below HR.out HS.out.bel
          obtain ⟨ad, rfl, a0, a1, a2⟩ := arg_elem hwr hin
          have p0 : (i : Int) ≤ 300 := by omega
          have p1 : (0 : Int) ≤ (i : Int) := by omega
          have p2 : (i : Int) < (l.length : Int) := by omega
          have HX := Aside0.mk (show pushL (pushes l i) l[i] = pushes l (i + 1) by simp only [pushes]; rw [show l.getD i zeroTm = l[i] by simp [List.getD_eq_getElem?_getD, List.getElem?_eq_getElem hin]])
          have HL := Aside0.mk (show (pushes l i).length ≤ 100000 by rw [pushes_len]; omega)
          have HIN := Aside0.mk hin
          generalize l[i] = x at a0 a1 a2 HX
          clear hwr hin
          go_wp2_with (go_at_call 11; (with_reducible refine (HS.out.push HL.out x HX.out).mono ?_); rintro e w2 ⟨rfl, hS⟩; have HS2 := Aside0.mk hS; clear hS HS)
          go_roundg k1
          case measure => have := HK.out; omega
          case rel => exact ⟨i + 1, by first | rfl | go_num, ⟨by have := HK.out; omega, by have := HIN.out; omega⟩, HS2⟩
        · have c1 : decide ((i : Int) < (l.length : Int)) = false := decide_eq_false (by omega)
          have c1n : decide (i < l.length) = false := decide_eq_false (by omega)
          obtain rfl : i = l.length := by have := HK.out; omega
          clear c1 c1n HK hin
          have hln := pushes_len l l.length
          have hhp := pushes_heap l l.length
          obtain ⟨x, H, hH⟩ : ∃ x H, pushes l l.length = x :: H := by
            cases h : pushes l l.length with
            | nil => rw [h] at hln; simp at hln; omega
            | cons x H => exact ⟨x, H, rfl⟩
          rw [hH] at hln hhp HS
          have hso := sortL_pop hhp
          obtain ⟨R, hRdef⟩ : ∃ R, sortL (popL (x :: H)) = R := ⟨_, rfl⟩
          rw [hRdef] at hso
          have hle : ∀ y ∈ R, le x y := fun y hy => by
            rw [← hRdef] at hy
            exact head_least hhp y (List.mem_cons_of_mem _ ((pop_perm x H).mem_iff.mp ((sortL_perm _).mem_iff.mp hy)))
          have hRl : R.length + 1 = l.length := by
            have h3 : (x :: R).length = (x :: H).length := by rw [← hso, sortL_len]
            rw [List.length_cons] at h3
            omega
          have HL := Aside0.mk (show H.length ≤ 100000 by rw [List.length_cons] at hln; omega)
          have HLx := Aside0.mk (show (x :: H).length ≤ 1000000 by omega)
          have HPL := Aside0.mk (show (popL (x :: H)).length ≤ 1000000 by rw [(pop_perm x H).length_eq]; rw [List.length_cons] at hln; omega)
          have HAL := Aside0.mk hln
          have HRD := Aside0.mk hRdef
          have HSO := Aside0.mk hso
          have HRL := Aside0.mk (And.intro hRl (Nat.le_of_not_lt hbig))
          have HLE := Aside0.mk hle
          clear hln hhp hH hso hRdef hle hRl hpos hbig
          go_wp2_with (first
            | (go_at_call 14; (with_reducible refine (Hp.all HS.out HLx.out).mono ?_); rintro e w2 ⟨A1, c1, rfl, h1, hS⟩; rw [HSO.out] at hS; rw [HAL.out] at h1 ⊢; have HS2 := Aside0.mk hS; clear hS HS)
            | (go_at_call 15; (with_reducible refine (Hp.first_cons HS2.out HL.out).mono ?_); rintro e w3 ⟨rfl, hS⟩; unfold Tm.agg; have HS3 := Aside0.mk (hS.tbox #[.int .i64 x.t, .int .i64 x.s, .int .i64 x.g] 23); clear hS HS2)
            | (go_at_call 12; (with_reducible refine (Hp.pop_cons HS3.out HL.out).mono ?_); rintro e w4 ⟨rfl, hS⟩; unfold Tm.agg; have HS4 := Aside0.mk (hS.tbox #[.int .i64 x.t, .int .i64 x.s, .int .i64 x.g] 23); clear hS HS3)
            | (go_at_call 14; (with_reducible refine (Hp.all HS4.out HPL.out).mono ?_); rintro e w5 ⟨A2, c2, rfl, h2, hS⟩; rw [HRD.out] at hS; obtain ⟨HRB, hS5⟩ : Aside0 (Below w.heap.size w w5) ∧ Aside0 (Seen w5 w3.heap.size w4.heap.size x A1 A2 R w5) := ⟨⟨Hp.bel hS⟩, ⟨Seen.mk' hS⟩⟩; clear hS HS4))
          obtain ⟨hb5, hall, hrest, f0, f1, f2, d0, d1, d2⟩ := hS5.out
          obtain ⟨ad1, rfl, a0, a1, a2⟩ := at_elem hall (i := 0) (by simp)
          have e0 : ad1.add (0 * 3) = ad1 := by simp [Addr.add]
          rw [e0] at a0 a1 a2
          simp only [List.getElem_cons_zero] at a0 a1 a2
          clear e0
          have n1 : ((popL (x :: H)).length : Int) = (l.length : Int) - 1 := by rw [← sortL_len, HRD.out]; have := HRL.out; omega
          have n2 : (popL (x :: H)).length = R.length := by rw [← sortL_len, HRD.out]
          have n3 : R.length ≤ 200 := by have := HRL.out; omega
          rw [n2] at n1 ⊢
          rw [← HRL.out.1] at n1 ⊢
          clear hb5 hall hrest n1
          have wr0 : IntKind.i64.wrap (R.length : Int) = (R.length : Int) := wrap_id (by omega) (by omega)
          go_quiet (fail)
          have HS6 := Aside0.mk (hS5.out.below (pw_below_drewN (Below.refl _ _) nq))
          clear wr0 a0 a1 a2 d0 d1 d2 f0 f1 f2 hS5 n2 n3
          go_wp2
          go_loopg [12] (R.length + 1) (fun kq v12 w' => ∃ j : Nat, v12 = .int .i64 (j : Int) ∧ Aside0 (j + kq = R.length + 1 ∧ j ≤ R.length) ∧ Aside0 (Seen w5 w3.heap.size w4.heap.size x (some ad1) A2 R w'))
          case atStart => exact ⟨0, rfl, ⟨by omega, Nat.zero_le _⟩, HS6⟩
          case round =>
            clear HS6
            obtain ⟨j, rfl, HK, HS⟩ := hrel
            cases gk with
            | zero => exact absurd HK.out (by omega)
            | succ k2 =>
              by_cases hin : j < R.length
              · have c1 : decide ((j : Int) < (R.length : Int)) = true := decide_eq_true (by omega)
                have c1n : decide (j < R.length) = true := decide_eq_true (by omega)
                obtain ⟨hb5, hall, hrest, f0, f1, f2, -, -, -⟩ := HS.out
                obtain ⟨ad2, rfl, b0, b1, b2⟩ := at_elem hrest hin
                obtain ⟨ad1', e1, a0, a1, a2⟩ := at_elem hall (i := j + 1) (by simp; omega)
                injection e1 with e1
                subst e1
                simp only [List.getElem_cons_succ] at a0 a1 a2
                obtain ⟨d, hd⟩ : ∃ d, cmpT x R[j] = d := ⟨_, rfl⟩
                have hd0 : ¬ 0 < d := by have h3 := HLE.out R[j] (List.getElem_mem _); unfold le at h3; omega
                have c2 : decide (0 < d) = false := decide_eq_false hd0
                have HD := Aside0.mk hd
                have p0 : (j : Int) ≤ 300 := by have := HRL.out; omega
                have p1 : (0 : Int) ≤ (j : Int) := by omega
                have p2 : (j : Int) < (R.length : Int) := by omega
                have p3 : (j : Int) + 1 < (R.length : Int) + 1 := by omega
                have p4 : (0 : Int) ≤ (j : Int) + 1 := by omega
                have HIN := Aside0.mk hin
                generalize R[j] = y at a0 a1 a2 b0 b1 b2 HD
                have wr1 : IntKind.i64.wrap ((j : Int) + 1) = (j : Int) + 1 := wrap_id (by omega) (by omega)
                have tn1 : ((j : Int) + 1).toNat = j + 1 := by omega
                clear hd hd0 hb5 hall hrest hin
                go_wp2
                go_region_held3 (fun w' => w'.cell? ⟨w3.heap.size, 0, none⟩ = some (.int .i64 x.t) ∧ w'.cell? ⟨w3.heap.size, 1, none⟩ = some (.int .i64 x.s) ∧ w'.cell? ⟨w3.heap.size, 2, none⟩ = some (.int .i64 x.g) ∧ w'.cell? (ad2.add (j * 3)) = some (.int .i64 y.t) ∧ w'.cell? ⟨(ad2.add (j * 3)).block, (ad2.add (j * 3)).off + 1, none⟩ = some (.int .i64 y.s) ∧ w'.cell? ⟨(ad2.add (j * 3)).block, (ad2.add (j * 3)).off + 2, none⟩ = some (.int .i64 y.g) ∧ w'.cell? (ad1.add ((j + 1) * 3)) = some (.int .i64 y.t) ∧ w'.cell? ⟨(ad1.add ((j + 1) * 3)).block, (ad1.add ((j + 1) * 3)).off + 1, none⟩ = some (.int .i64 y.s) ∧ w'.cell? ⟨(ad1.add ((j + 1) * 3)).block, (ad1.add ((j + 1) * 3)).off + 2, none⟩ = some (.int .i64 y.g) ∧ Aside0 (Below wr.heap.size wr w'))
                  (first | exact hS' | exact keep9 (by assumption) (below_alloc (Below.refl _ _) _) | exact ⟨f0, f1, f2, b0, b1, b2, a0, a1, a2, ⟨below_drew1 (Below.refl _ _)⟩⟩ | assumption)
                  ((go_at_call 10; (with_reducible refine (cmp_b _ _ _ HD.out _).mono ?_); rintro e w' ⟨rfl, hb⟩; have hS' := keep9 (by assumption) hb; clear hb))
                clear wr1 tn1
                have HS7 := Aside0.mk (HS.out.below hS'.2.2.2.2.2.2.2.2.2.out)
                clear HS
                go_wp2
                go_roundg k2
                case measure => have := HK.out; omega
                case rel => exact ⟨j + 1, by first | rfl | go_num, ⟨by have := HK.out; omega, by have := HIN.out; omega⟩, HS7⟩
              · have c1 : decide ((j : Int) < (R.length : Int)) = false := decide_eq_false (by omega)
                have c1n : decide (j < R.length) = false := decide_eq_false (by omega)
                clear hin
                go_wp2
                go_ret
                exact ⟨rfl, HRB.out.trans (HS.out.bel.mono HRB.out.size)⟩
end Go.Proofs.Ytkbjihnkbfjhmaa.Heap
namespace Go.Proofs.Ytkbjihnkbfjhmaa.Own
open Go
theorem SepF.perm {w : World} {P : Nat → Prop} {ts ts' : List Thing} (h : ts.Perm ts') : ∀ {F : Nat → Prop}, SepF ts w F P → SepF ts' w F P := by
  induction h with
  | nil => exact fun h => h
  | cons x _ ih => rintro F ⟨F1, F2, h1, h2, h3, h4⟩; exact ⟨F1, F2, h1, h2, h3, ih h4⟩
  | swap x y l => exact fun h => h.swap
  | trans _ _ ih1 ih2 => exact fun h => ih2 (ih1 h)
theorem St.perm {w0 w : World} {F0 P0 : Nat → Prop} {ts ts' : List Thing} (h : St w0 F0 P0 ts w) (hp : ts.Perm ts') : St w0 F0 P0 ts' w := by
  obtain ⟨F, hF, hm⟩ := h
  exact ⟨⟨F, hF.perm hp, hm⟩⟩
/-- What stands ahead goes behind. -/
theorem St.turn {w0 w : World} {F0 P0 : Nat → Prop} {ts1 ts2 ts : List Thing} (h : St w0 F0 P0 (ts1 ++ ts2 ++ ts) w) : St w0 F0 P0 (ts2 ++ ts1 ++ ts) w := h.perm (List.perm_append_comm.append_right ts)
end Go.Proofs.Ytkbjihnkbfjhmaa.Own
namespace Go.Proofs.Ytkbjihnkbfjhmaa.Heap
open Go Go.RowKit Go.Shelf Go.Proofs.Ytkbjihnkbfjhmaa.Own Go.Proofs.YtkbjihnkbfjhmaaW.PrintWords Go.Proofs.YtkbjihnkbfjhmaaW.PrintLast Go.Proofs.YtkbjihnkbfjhmaaW.PrintMore
set_option linter.unusedVariables false
set_option linter.unusedSimpArgs false
def cntG (g : Int) (l : List Tm) : Nat := (l.filter (fun x => x.g == g)).length
theorem cnt_drop (g : Int) : ∀ l : List Tm, cntG g l + (dropG g l).length = l.length
  | [] => rfl
  | x :: l => by
    have ih := cnt_drop g l
    unfold cntG dropG at ih ⊢
    by_cases h : (x.g == g) = true
    · rw [List.filter_cons_of_pos (by exact h), List.filter_cons_of_neg (by simp [h]), List.length_cons, List.length_cons]; omega
    · rw [List.filter_cons_of_neg (by exact h), List.filter_cons_of_pos (by simp [h]), List.length_cons, List.length_cons]; omega
theorem cnt_perm {g : Int} {l m : List Tm} (h : l.Perm m) : cntG g l = cntG g m := (h.filter _).length_eq
theorem cnt_snoc (g : Int) (l : List Tm) (x : Tm) : cntG g (l ++ [x]) = cntG g l + (if (x.g == g) = true then 1 else 0) := by
  unfold cntG
  rw [List.filter_append, List.length_append]
  by_cases h : (x.g == g) = true <;> simp [h]
/-- Two heaps. -/
def Hh (w0 : World) (a : Nat) (la : List Tm) (b : Nat) (lb : List Tm) (ts : List Thing) (w : World) : Prop := ∃ u, Hp w0 (fun _ => False) (fun _ => True) a la (boxT b 30 #[u] :: rowT kTm 23 u lb :: ts) w
section
variable {w0 w w' : World} {a b : Nat} {la lb : List Tm} {ts : List Thing}
theorem Hh.new (h : Below w0.heap.size w0 w) : Hh w0 w.heap.size [] (w.heap.size + 1) [] [] ((w.alloc (.cells #[.slice none 0 0] 30)).alloc (.cells #[.slice none 0 0] 30)) := by
  obtain ⟨v, h1⟩ := Hp.new ((St.start w0 (fun _ => True)).below h)
  have h2 := ((h1.box #[.slice none 0 0] 30).nil kTm 23).swap
  rw [World.size_alloc] at h2
  exact ⟨_, v, St.turn (ts1 := [_, _]) (ts2 := [_, _]) (ts := []) h2⟩
theorem Hh.flip (h : Hh w0 a la b lb ts w) : Hh w0 b lb a la ts w := by
  obtain ⟨u, v, h⟩ := h
  exact ⟨v, u, St.turn (ts1 := [_, _]) (ts2 := [_, _]) h⟩
theorem Hh.below (h : Hh w0 a la b lb ts w) (hb : Below w.heap.size w w') : Hh w0 a la b lb ts w' := by
  obtain ⟨u, h⟩ := h
  exact ⟨u, h.below hb⟩
theorem Hh.bel (h : Hh w0 a la b lb ts w) : Below w0.heap.size w0 w := by
  obtain ⟨u, h⟩ := h
  exact h.bel
theorem Hh.push (h : Hh w0 a la b lb ts w) (hlen : la.length ≤ 100000) (x : Tm) :
    Calls Try.prog 11 #[.pointer (some ⟨a, 0, none⟩), .agg #[.int .i64 x.t, .int .i64 x.s, .int .i64 x.g]] w fun e w' => e = .returned (.tuple #[]) ∧ Hh w0 a (pushL la x) b lb ts w' := by
  obtain ⟨u, h⟩ := h
  refine (h.push hlen x rfl).mono ?_
  rintro e w' ⟨rfl, h'⟩
  exact ⟨rfl, u, h'⟩
theorem Hh.push2 (h : Hh w0 a la b lb ts w) (hlen : lb.length ≤ 100000) (x : Tm) :
    Calls Try.prog 11 #[.pointer (some ⟨b, 0, none⟩), .agg #[.int .i64 x.t, .int .i64 x.s, .int .i64 x.g]] w fun e w' => e = .returned (.tuple #[]) ∧ Hh w0 a la b (pushL lb x) ts w' := by
  refine (h.flip.push hlen x).mono ?_
  rintro e w' ⟨rfl, h'⟩
  exact ⟨rfl, h'.flip⟩
theorem Hh.dropped (h : Hh w0 a la b lb ts w) (hlen : la.length ≤ 100000) (g n : Int) (hn : (la.length : Int) - ((dropG g la).length : Int) = n) :
    Calls Try.prog 16 #[.pointer (some ⟨a, 0, none⟩), .int .i64 g] w fun e w' => e = .returned (.int .i64 n) ∧ Hh w0 a (dropL g la) b lb ts w' := by
  obtain ⟨u, h⟩ := h
  refine (h.dropped hlen g n hn).mono ?_
  rintro e w' ⟨rfl, h'⟩
  exact ⟨rfl, u, h'⟩
theorem Hh.all (h : Hh w0 a la b lb ts w) (hlen : la.length ≤ 1000000) (S : List Tm) (hS : sortL la = S) :
    Calls Try.prog 14 #[.pointer (some ⟨a, 0, none⟩)] w fun e w' => ∃ A c, e = .returned (.slice A S.length c) ∧ S.length ≤ c ∧ Hh w0 a la b lb (valT (fun W => kTm.C W A S.length S) :: ts) w' := by
  obtain ⟨u, h⟩ := h
  subst hS
  refine (h.all hlen).mono ?_
  rintro e w' ⟨A, c, rfl, hc, v, h'⟩
  refine ⟨A, c, by rw [sortL_len], by rw [sortL_len]; exact hc, u, v, h'.perm ?_⟩
  exact ((List.perm_append_comm (l₁ := [_]) (l₂ := [_, _])).append_right ts).cons _ |>.cons _
theorem Hh.all2 (h : Hh w0 a la b lb ts w) (hlen : lb.length ≤ 1000000) (S : List Tm) (hS : sortL lb = S) :
    Calls Try.prog 14 #[.pointer (some ⟨b, 0, none⟩)] w fun e w' => ∃ A c, e = .returned (.slice A S.length c) ∧ S.length ≤ c ∧ Hh w0 a la b lb (valT (fun W => kTm.C W A S.length S) :: ts) w' := by
  refine (h.flip.all hlen S hS).mono ?_
  rintro e w' ⟨A, c, rfl, hc, h'⟩
  exact ⟨A, c, rfl, hc, h'.flip⟩
theorem Hh.two {Q1 Q2 : World → Prop} (h : Hh w0 a la b lb (valT Q2 :: valT Q1 :: ts) w) : Q1 w ∧ Q2 w := by
  obtain ⟨u, v, h⟩ := h
  exact ⟨h.drop.drop.drop.drop.drop.now, h.drop.drop.drop.drop.now⟩
end
set_option maxRecDepth 100000 in
set_option maxHeartbeats 4000000 in
theorem drops_calls (w : World) (A : Option Addr) (c : Nat) (l : List Tm) (hr : kTm.C w A l.length l) (hc : l.length ≤ c) (wf : (∀ x ∈ l, (Lit.int .i64 x.t).wf = true ∧ (Lit.int .i64 x.s).wf = true ∧ (Lit.int .i64 x.g).wf = true) ∧ l.length * 24 ≤ 140737488351232 ∧ l.length ≤ maxLen) (g : Int) (wg : (Lit.int .i64 g).wf = true) :
    Calls Try.prog 6 #[.slice A l.length c, .int .i64 g] w fun e w' => e = .returned (.bool true) ∧ Below w.heap.size w w' := by
  have HR := Aside0.mk hr
  clear hr wf wg
  by_cases hbig : 200 < l.length
  · have b1 : decide (200 < l.length) = true := decide_eq_true hbig
    have b2 : decide ((200 : Int) < (l.length : Int)) = true := decide_eq_true (by omega)
    go_enter Try.func6, Try.ntmps6
    go_wp2_with (go_at_call 9; (with_reducible refine (shown_calls _).mono ?_); rintro e w1 ⟨rfl, hb⟩; have HB := Aside0.mk hb; clear hb)
    go_ret
    exact ⟨rfl, HB.out⟩
  · have b1 : decide (200 < l.length) = false := decide_eq_false hbig
    have b2 : decide ((200 : Int) < (l.length : Int)) = false := decide_eq_false (by omega)
    go_enter Try.func6, Try.ntmps6
    go_wp2_with (go_at_call 9; (with_reducible refine (shown_calls _).mono ?_); rintro e w1 ⟨rfl, hb⟩; have HS := Aside0.mk (Hh.new hb); clear hb)
    clear b1 b2
    go_loopg [8, 9] (l.length + 1) (fun kq v8 v9 w' => ∃ (i m : Nat) (la lb : List Tm), v8 = .int .i64 (m : Int) ∧ v9 = .int .i64 (i : Int) ∧ Aside0 (i + kq = l.length + 1 ∧ i ≤ l.length ∧ la.Perm (l.take i) ∧ lb.Perm (dropG g (l.reverse.take i)) ∧ m = cntG g (l.reverse.take i)) ∧ Aside0 (Hh w w1.heap.size la (w1.heap.size + 1) lb [] w'))
    case atStart => exact ⟨0, 0, [], [], rfl, rfl, ⟨by omega, Nat.zero_le _, by simp, by simp [dropG], by simp [cntG]⟩, HS⟩
    case round =>
      clear HS
      obtain ⟨i, m, la, lb, rfl, rfl, HK, HS⟩ := hrel
      cases gk with
      | zero => exact absurd HK.out.1 (by have := HK.out.2.1; omega)
      | succ k1 =>
        obtain ⟨q1, q2, q3, q4, q5⟩ := HK.out
        by_cases hin : i < l.length
        · have c1 : decide ((i : Int) < (l.length : Int)) = true := decide_eq_true (by omega)
          have c1n : decide (i < l.length) = true := decide_eq_true (by omega)
          have hwr := Kd.C_below HR.out HS.out.bel
          obtain ⟨j, hj⟩ : ∃ j, j = l.length - 1 - i := ⟨_, rfl⟩
          have hjl : j < l.length := by omega
          obtain ⟨ad, rfl, a0, a1, a2⟩ := arg_elem hwr hin
          have hlai := Aside0.mk (show la.length ≤ 100000 ∧ lb.length ≤ 100000 ∧ m ≤ 200 by
            refine ⟨by rw [q3.length_eq, List.length_take]; omega, ?_, ?_⟩
            · rw [q4.length_eq]
              have := dropG_len g (l.reverse.take i)
              rw [List.length_take, List.length_reverse] at this
              omega
            · have := cnt_drop g (l.reverse.take i)
              rw [List.length_take, List.length_reverse] at this
              omega)
          have q3' : ∀ x, x = l[i] → (pushL la x).Perm (l.take (i + 1)) := fun x hx => by
            rw [List.take_succ_eq_append_getElem hin, ← hx]
            exact (push_perm la x).trans ((q3.cons x).trans (List.perm_append_singleton x _).symm)
          have hrj : (l.reverse)[i]'(by rw [List.length_reverse]; exact hin) = l[j] := by
            rw [List.getElem_reverse]; congr 1; omega
          have hri : i < l.reverse.length := by rw [List.length_reverse]; exact hin
          have q4' : ∀ y, y = l[j] → dropG g (l.reverse.take (i + 1)) = dropG g (l.reverse.take i) ++ (if (y.g == g) = true then [] else [y]) := fun y hy => by
            rw [List.take_succ_eq_append_getElem hri, hrj, ← hy, dropG_snoc]
          have q5' : ∀ y, y = l[j] → cntG g (l.reverse.take (i + 1)) = cntG g (l.reverse.take i) + (if (y.g == g) = true then 1 else 0) := fun y hy => by
            rw [List.take_succ_eq_append_getElem hri, hrj, ← hy, cnt_snoc]
          obtain ⟨x, hx⟩ : ∃ x, x = l[i] := ⟨_, rfl⟩
          obtain ⟨y, hy⟩ : ∃ y, y = l[j] := ⟨_, rfl⟩
          have HRy := Aside0.mk (show ∀ h : j < l.length, l[j]'h = y from fun _ => hy.symm)
          rw [← hx] at a0 a1 a2
          have p0 : (i : Int) ≤ 200 := by omega
          have p1 : (0 : Int) ≤ (i : Int) := by omega
          have p2 : (i : Int) < (l.length : Int) := by omega
          have p3 : (l.length : Int) ≤ 200 := by omega
          have p4 : (0 : Int) ≤ (l.length : Int) - 1 - (i : Int) := by omega
          have p5 : (l.length : Int) - 1 - (i : Int) < (l.length : Int) := by omega
          have p6 : (m : Int) ≤ 200 := by have := hlai.out.2.2; omega
          have tn : ((l.length : Int) - 1 - (i : Int)).toNat = j := by omega
          have Q3 := Aside0.mk (q3' x hx)
          have Q4 := Aside0.mk (q4' y hy)
          have Q5 := Aside0.mk (q5' y hy)
          have HJ := Aside0.mk hjl
          have HIN := Aside0.mk hin
          clear q1 q2 q3 q4 q5 q3' q4' q5' hwr hj hri hrj hy hx hin hjl
          have hgo := Aside0.mk (fun (w2 : World) (hb : Below w.heap.size w w2) => show w2.cell? (ad.add (j * 3)) = some (.int .i64 y.t) ∧ w2.cell? ⟨(ad.add (j * 3)).block, (ad.add (j * 3)).off + 1, none⟩ = some (.int .i64 y.s) ∧ w2.cell? ⟨(ad.add (j * 3)).block, (ad.add (j * 3)).off + 2, none⟩ = some (.int .i64 y.g) by
            obtain ⟨ad2, e2, d0, d1, d2⟩ := arg_elem (Kd.C_below HR.out hb) HJ.out
            injection e2 with e2
            subst e2
            rw [HRy.out HJ.out] at d0 d1 d2
            exact ⟨d0, d1, d2⟩)
          obtain ⟨ad0, had⟩ : ∃ ad0, ad.add (j * 3) = ad0 := ⟨_, rfl⟩
          rw [had] at hgo
          by_cases hy : (y.g == g) = true
          · rw [if_pos hy] at Q4 Q5
            go_wp2_with (go_at_call 11; go_loud ((with_reducible refine (HS.out.push hlai.out.1 x).mono ?_); rintro e w2 ⟨rfl, hS⟩; obtain ⟨d0, d1, d2⟩ := hgo.out _ hS.bel; have HS2 := Aside0.mk hS; clear hS HS))
            go_roundg k1
            case measure => have := HK.out; omega
            case rel => exact ⟨i + 1, m + 1, _, lb, by first | rfl | go_num, by first | rfl | go_num, ⟨by have := HK.out; omega, by have := HIN.out; omega, Q3.out, by rw [Q4.out, List.append_nil]; exact HK.out.2.2.2.1, by rw [Q5.out, HK.out.2.2.2.2]⟩, HS2⟩
          · rw [Bool.not_eq_true] at hy
            rw [if_neg (by rw [hy]; decide)] at Q4 Q5
            go_wp2_with (first | (go_at_call 11; ((with_reducible refine (HS.out.push hlai.out.1 x).mono ?_); rintro e w2 ⟨rfl, hS⟩; obtain ⟨d0, d1, d2⟩ := hgo.out _ hS.bel; have HS2 := Aside0.mk hS; clear hS HS)) | (go_at_call 11; ((with_reducible refine (HS2.out.push2 hlai.out.2.1 y).mono ?_); rintro e w3 ⟨rfl, hS⟩; have HS3 := Aside0.mk hS; clear hS HS2)))
            go_roundg k1
            case measure => have := HK.out; omega
            case rel => exact ⟨i + 1, m, _, _, rfl, by first | rfl | go_num, ⟨by have := HK.out; omega, by have := HIN.out; omega, Q3.out, by rw [Q4.out]; exact (push_perm lb y).trans ((HK.out.2.2.2.1.cons y).trans (List.perm_append_singleton y _).symm), by rw [Q5.out, HK.out.2.2.2.2]; rfl⟩, HS3⟩
        · have c1 : decide ((i : Int) < (l.length : Int)) = false := decide_eq_false (by omega)
          have c1n : decide (i < l.length) = false := decide_eq_false (by omega)
          obtain rfl : i = l.length := by omega
          rw [List.take_length] at q3
          rw [show l.length = l.reverse.length by rw [List.length_reverse], List.take_length] at q4 q5
          have e1 : lb.Perm (dropG g l) := q4.trans (dropG_perm (List.reverse_perm l))
          have e2 : m = cntG g l := q5.trans (cnt_perm (List.reverse_perm l))
          have e3 : (dropG g la).Perm (dropG g l) := dropG_perm q3
          obtain ⟨S, hS⟩ : ∃ S, sortL lb = S := ⟨_, rfl⟩
          have hS2 : sortL (dropL g la) = S := by rw [← hS]; exact sortL_congr (((dropL_perm g la).trans e3).trans e1.symm)
          have hSl : S.length + m = l.length := by
            have h1 := cnt_drop g l
            rw [← hS, sortL_len, e1.length_eq, e2]
            omega
          have hSg : ∀ x ∈ S, (x.g == g) = false := fun x hx => by
            rw [← hS] at hx
            have h1 := e1.mem_iff.mp ((sortL_perm lb).mem_iff.mp hx)
            unfold dropG at h1
            have h2 := (List.mem_filter.mp h1).2
            simpa using h2
          have HLA := Aside0.mk (show la.length ≤ 100000 ∧ lb.length ≤ 1000000 ∧ (dropL g la).length ≤ 1000000 ∧ (la.length : Int) - ((dropG g la).length : Int) = (m : Int) by
            have h1 := q3.length_eq
            have h2 := e1.length_eq
            have h3 := dropG_len g l
            have h4 := (dropL_perm g la).length_eq
            have h5 := dropG_len g la
            have h6 := e3.length_eq
            have h7 := cnt_drop g l
            omega)
          have HSS := Aside0.mk (And.intro hS (And.intro hS2 (And.intro hSl hSg)))
          have HLN := Aside0.mk (Nat.le_of_not_lt hbig)
          obtain ⟨n, hn⟩ : ∃ n, n = l.length := ⟨_, rfl⟩
          have hnn : n = S.length + m := by omega
          rw [← hn]
          rw [← hn] at c1 c1n
          subst hnn
          have HN := Aside0.mk hn
          have m0 : (m : Int) ≤ 200 := by omega
          have m1 : (S.length : Int) ≤ 200 := by omega
          clear q1 q2 q3 q4 q5 e1 e2 e3 hS hS2 hSl hSg HK hin hn
          go_wp2_with (first
            | (go_at_call 16; ((with_reducible refine (HS.out.dropped HLA.out.1 g m HLA.out.2.2.2).mono ?_); rintro e w2 ⟨rfl, hS⟩; have HS2 := Aside0.mk hS; clear hS HS))
            | (go_at_call 14; ((with_reducible refine (HS2.out.all HLA.out.2.2.1 S HSS.out.2.1).mono ?_); rintro e w3 ⟨A1, c1, rfl, h1, hS⟩; have HS3 := Aside0.mk hS; clear hS HS2))
            | (go_at_call 14; ((with_reducible refine (HS3.out.all2 HLA.out.2.1 S HSS.out.1).mono ?_); rintro e w4 ⟨A2, c2, rfl, h2, hS⟩; have HS4 := Aside0.mk (And.intro hS.bel hS.two); clear hS HS3)))
          have HB := Aside0.mk (Below.refl w4.heap.size w4)
          go_loopg [13] (S.length + 1) (fun kq v13 w' => ∃ j : Nat, v13 = .int .i64 (j : Int) ∧ Aside0 (j + kq = S.length + 1 ∧ j ≤ S.length) ∧ Aside0 (Below w4.heap.size w4 w'))
          case atStart => exact ⟨0, rfl, ⟨by omega, Nat.zero_le _⟩, HB⟩
          case round =>
            clear HB
            obtain ⟨j, rfl, HK, HS⟩ := hrel
            cases gk with
            | zero => exact absurd HK.out (by omega)
            | succ k2 =>
              by_cases hin : j < S.length
              · have c1 : decide ((j : Int) < (S.length : Int)) = true := decide_eq_true (by omega)
                have c1n : decide (j < S.length) = true := decide_eq_true (by omega)
                obtain ⟨ad1, rfl, a0, a1, a2⟩ := at_elem (Kd.C_below HS4.out.2.1 HS.out) hin
                obtain ⟨ad2, rfl, b0, b1, b2⟩ := at_elem (Kd.C_below HS4.out.2.2 HS.out) hin
                have hgg : (S[j].g == g) = false := HSS.out.2.2.2 _ (List.getElem_mem _)
                have hgg2 : decide (S[j].g = g) = false := decide_eq_false (by intro h; rw [h] at hgg; simp at hgg)
                have p0 : (j : Int) ≤ 300 := by omega
                have p1 : (0 : Int) ≤ (j : Int) := by omega
                have p2 : (j : Int) < (S.length : Int) := by omega
                have HIN := Aside0.mk hin
                generalize S[j] = y at a0 a1 a2 b0 b1 b2 hgg hgg2
                clear hin
                go_wp2
                go_quiet (fail)
                have HB2 := Aside0.mk (HS.out.trans (pw_below_drewN (Below.refl w4.heap.size wr) nq))
                clear HS
                go_wp2
                go_roundg k2
                case measure => have := HK.out; omega
                case rel => exact ⟨j + 1, by first | rfl | go_num, ⟨by have := HK.out; omega, by have := HIN.out; omega⟩, HB2⟩
              · have c1 : decide ((j : Int) < (S.length : Int)) = false := decide_eq_false (by omega)
                have c1n : decide (j < S.length) = false := decide_eq_false (by omega)
                clear hin
                go_wp2
                go_ret
                exact ⟨rfl, HS4.out.1.trans (HS.out.mono HS4.out.1.size)⟩
end Go.Proofs.Ytkbjihnkbfjhmaa.Heap
namespace Go.Proofs.Ytkbjihnkbfjhmaa.PRef12
open Go.RowKit Go.Proofs.YtkbjihnkbfjhmaaW.PrintWords Go.Proofs.YtkbjihnkbfjhmaaW.PrintLast Go.Proofs.YtkbjihnkbfjhmaaW.PrintMore
attribute [local go_sem] max2_int min2_int max_two min_two max_three min_three max_four min_four   -- for this text's walks alone
set_option linter.unusedVariables false
set_option linter.unusedSimpArgs false



def errW : Option Int → Value
  | none => .nilIface
  | some c => .iface 0 (.int .i64 c)
theorem errW_none : errW none = .nilIface := rfl
theorem errW_some (c : Int) : errW (some c) = .iface 0 (.int .i64 c) := rfl

theorem info3 : (Try.prog.info? 3).map (fun i => (i.zero, i.size, i.bytes)) = some (some (.int .i64 0), 1, 8) := by kernel_rfl
theorem info44 : (Try.prog.info? 44).map (fun i => (i.zero, i.size, i.bytes)) = some (some (.agg #[(.int .i64 0), (.int .i64 0), (.int .i64 0)]), 3, 24) := by kernel_rfl
-- the values' own types
/-! #### struct type 23 -/
structure S23 where
  f0 : Int
  f1 : Int
  f2 : Int
def z23 : S23 := ⟨(0 : Int), (0 : Int), (0 : Int)⟩
def k23 : Kd S23 := Kd.iso (Kd.pair (Kd.int .i64) (Kd.pair (Kd.int .i64) (Kd.int .i64))) (fun x : S23 => (x.f0, x.f1, x.f2))
theorem k23_open {w : World} {x : S23} {cs : List Value} (h : k23.K w x cs) : cs = [.int .i64 x.f0, .int .i64 x.f1, .int .i64 x.f2] := by
  obtain ⟨_, _, rfl, rfl, ⟨_, _, rfl, rfl, rfl⟩⟩ := h
  exact rfl
theorem k23_openM {w : World} {base : Nat} {ok : Nat → Prop} {x : S23} {cs : List Value} (h : k23.M w base ok x cs) : cs = [.int .i64 x.f0, .int .i64 x.f1, .int .i64 x.f2] := by
  obtain ⟨_, _, rfl, rfl, ⟨_, _, rfl, rfl, rfl⟩⟩ := h
  exact rfl
theorem k23_mk (w : World) (x : S23)  : k23.K w x [.int .i64 x.f0, .int .i64 x.f1, .int .i64 x.f2] := ⟨[.int .i64 x.f0], [.int .i64 x.f1, .int .i64 x.f2], rfl, rfl, ⟨[.int .i64 x.f1], [.int .i64 x.f2], rfl, rfl, rfl⟩⟩
theorem k23_mkM (w : World) (base : Nat) (ok : Nat → Prop) (x : S23)  : k23.M w base ok x [.int .i64 x.f0, .int .i64 x.f1, .int .i64 x.f2] := ⟨[.int .i64 x.f0], [.int .i64 x.f1, .int .i64 x.f2], rfl, rfl, ⟨[.int .i64 x.f1], [.int .i64 x.f2], rfl, rfl, rfl⟩⟩
def rd_T23 (xs : List S23) (i : Int) : S23 := xs.getD i.toNat z23
theorem at_T23 {w : World} {A : Option Addr} {n : Nat} {xs : List S23} (h : Kd.C k23 w A n xs) (i : Int) (h0 : 0 ≤ i) (h1 : i < n) : ∃ ad , A = some ad ∧ w.cell? (ad.add (i.toNat * 3)) = some (.int .i64 (rd_T23 xs i).f0) ∧ w.cell? ⟨(ad.add (i.toNat * 3)).block, (ad.add (i.toNat * 3)).off + 1, none⟩ = some (.int .i64 (rd_T23 xs i).f1) ∧ w.cell? ⟨(ad.add (i.toNat * 3)).block, (ad.add (i.toNat * 3)).off + 2, none⟩ = some (.int .i64 (rd_T23 xs i).f2) := by
  obtain ⟨ad, c, e, _, hK, hc0⟩ := Kd.C_get h z23 i h0 h1
  have hc : ∀ j u, c[j]? = some u → w.cell? (ad.add (i.toNat * 3 + j)) = some u := hc0
  obtain rfl := k23_open hK
  exact ⟨ad, e, hc 0 _ rfl, by rw [← add_field _ _ 1 (by omega)]; exact hc 1 _ rfl, by rw [← add_field _ _ 2 (by omega)]; exact hc 2 _ rfl⟩

/-! #### struct type 44 -/
structure S44 where
  f0 : Int
  f1 : Int
  f2 : Int
def z44 : S44 := ⟨(0 : Int), (0 : Int), (0 : Int)⟩
def k44 : Kd S44 := Kd.iso (Kd.pair (Kd.int .i64) (Kd.pair (Kd.int .i64) (Kd.int .i64))) (fun x : S44 => (x.f0, x.f1, x.f2))
theorem k44_open {w : World} {x : S44} {cs : List Value} (h : k44.K w x cs) : cs = [.int .i64 x.f0, .int .i64 x.f1, .int .i64 x.f2] := by
  obtain ⟨_, _, rfl, rfl, ⟨_, _, rfl, rfl, rfl⟩⟩ := h
  exact rfl
theorem k44_openM {w : World} {base : Nat} {ok : Nat → Prop} {x : S44} {cs : List Value} (h : k44.M w base ok x cs) : cs = [.int .i64 x.f0, .int .i64 x.f1, .int .i64 x.f2] := by
  obtain ⟨_, _, rfl, rfl, ⟨_, _, rfl, rfl, rfl⟩⟩ := h
  exact rfl
theorem k44_mk (w : World) (x : S44)  : k44.K w x [.int .i64 x.f0, .int .i64 x.f1, .int .i64 x.f2] := ⟨[.int .i64 x.f0], [.int .i64 x.f1, .int .i64 x.f2], rfl, rfl, ⟨[.int .i64 x.f1], [.int .i64 x.f2], rfl, rfl, rfl⟩⟩
theorem k44_mkM (w : World) (base : Nat) (ok : Nat → Prop) (x : S44)  : k44.M w base ok x [.int .i64 x.f0, .int .i64 x.f1, .int .i64 x.f2] := ⟨[.int .i64 x.f0], [.int .i64 x.f1, .int .i64 x.f2], rfl, rfl, ⟨[.int .i64 x.f1], [.int .i64 x.f2], rfl, rfl, rfl⟩⟩
def rd_T44 (xs : List S44) (i : Int) : S44 := xs.getD i.toNat z44
theorem at_T44 {w : World} {A : Option Addr} {n : Nat} {xs : List S44} (h : Kd.C k44 w A n xs) (i : Int) (h0 : 0 ≤ i) (h1 : i < n) : ∃ ad , A = some ad ∧ w.cell? (ad.add (i.toNat * 3)) = some (.int .i64 (rd_T44 xs i).f0) ∧ w.cell? ⟨(ad.add (i.toNat * 3)).block, (ad.add (i.toNat * 3)).off + 1, none⟩ = some (.int .i64 (rd_T44 xs i).f1) ∧ w.cell? ⟨(ad.add (i.toNat * 3)).block, (ad.add (i.toNat * 3)).off + 2, none⟩ = some (.int .i64 (rd_T44 xs i).f2) := by
  obtain ⟨ad, c, e, _, hK, hc0⟩ := Kd.C_get h z44 i h0 h1
  have hc : ∀ j u, c[j]? = some u → w.cell? (ad.add (i.toNat * 3 + j)) = some u := hc0
  obtain rfl := k44_open hK
  exact ⟨ad, e, hc 0 _ rfl, by rw [← add_field _ _ 1 (by omega)]; exact hc 1 _ rfl, by rw [← add_field _ _ 2 (by omega)]; exact hc 2 _ rfl⟩

end Go.Proofs.Ytkbjihnkbfjhmaa.PRef12
namespace Go.Proofs.Ytkbjihnkbfjhmaa.PRef12
open Go.RowKit Go.Proofs.YtkbjihnkbfjhmaaW.PrintWords Go.Proofs.YtkbjihnkbfjhmaaW.PrintLast Go.Proofs.YtkbjihnkbfjhmaaW.PrintMore
attribute [local go_sem] max2_int min2_int max_two min_two max_three min_three max_four min_four   -- for this text's walks alone
set_option linter.unusedVariables false
set_option linter.unusedSimpArgs false

-- NOT PRINTED: function 24 (heap_Heap_swap)

/-! ### catafalqueref12_Ahead: function 30 -/
def catafalqueref12_Ahead.f (a0_0 : Int) (a0_1 : Int) (a0_2 : Int) (a1_0 : Int) (a1_1 : Int) (a1_2 : Int) : Option (Bool) := if a0_0 = a1_0 then (if a0_1 = a1_1 then (some (decide (a0_2 < a1_2))) else (some (decide (a0_1 < a1_1)))) else (some (decide (a0_0 < a1_0)))
set_option maxHeartbeats 8000000 in
set_option maxRecDepth 100000 in
theorem catafalqueref12_Ahead.calls (a0_0 : Int) (a0_1 : Int) (a0_2 : Int) (a1_0 : Int) (a1_1 : Int) (a1_2 : Int) (r : Bool) (w : World) (h : catafalqueref12_Ahead.f a0_0 a0_1 a0_2 a1_0 a1_1 a1_2 = some r) :
    Calls Try.prog 30 #[.agg #[.int .i64 a0_0, .int .i64 a0_1, .int .i64 a0_2], .agg #[.int .i64 a1_0, .int .i64 a1_1, .int .i64 a1_2]] w fun e w' => e = .returned (.bool r) ∧ Below w.heap.size w w' := by
  have hu44 := Try.underlying44
  have HB := Aside0.mk (Below.refl w.heap.size w)
  have H : (if a0_0 = a1_0 then (if a0_1 = a1_1 then (some (decide (a0_2 < a1_2))) else (some (decide (a0_1 < a1_1)))) else (some (decide (a0_0 < a1_0)))) = some r := h
  clear h
  by_cases c3 : a0_0 = a1_0
  · rw [if_pos c3] at H
    have c3b0 : (a0_0 == a1_0) = true := beq_iff_eq.mpr c3
    have c3b1 : (a0_0 != a1_0) = false := bne_eq_false_iff_eq.mpr c3
    clear c3
    by_cases c4 : a0_1 = a1_1
    · rw [if_pos c4] at H
      have c4b0 : (a0_1 == a1_1) = true := beq_iff_eq.mpr c4
      have c4b1 : (a0_1 != a1_1) = false := bne_eq_false_iff_eq.mpr c4
      clear c4
      obtain rfl := Option.some.inj H
      go_enter Try.func30, Try.ntmps30
      go_wp2_with (first | ((with_reducible refine gate_dst (N := 2) rfl ?_); refine box_event ?hg (N := 2) ?hd (cs := #[.int .i64 a0_0, .int .i64 a0_1, .int .i64 a0_2]) (t := 44) ?hr ?_; (case hd => rfl); (case hg => rfl); (case hr => first | (go_simp; done) | (go_simp; rfl)); intro gb130 hg w5 hbox hb; have n0_ := Aside0.mk (below_step (by repeat (first | (with_reducible first | exact HB.out | apply below_alloc | apply pw_below_drewN | apply below_drew1) | exact HB.out)) hb); have n1_ := Aside0.mk (hbox); have n2_ := Aside0.mk ((by rw [hg]; exact (below_size (by repeat (first | (with_reducible first | exact HB.out | apply below_alloc | apply pw_below_drewN | apply below_drew1) | exact HB.out))) : w.heap.size ≤ gb130)); have n3_ := Aside0.mk ((by rw [hg]; exact (below_size (by repeat (first | (with_reducible first | exact HB.out | apply below_alloc | apply pw_below_drewN | apply below_drew1) | exact HB.out))) : w.heap.size ≤ gb130)); clear HB; have HB := n0_; have BK130 := n1_; have GW130 := n2_; have GE130 := n3_; clear n0_ n1_ n2_ n3_; clear hb hbox hg) | ((with_reducible refine gate_dst (N := 3) rfl ?_); refine box_event ?hg (N := 3) ?hd (cs := #[.int .i64 a1_0, .int .i64 a1_1, .int .i64 a1_2]) (t := 44) ?hr ?_; (case hd => rfl); (case hg => rfl); (case hr => first | (go_simp; done) | (go_simp; rfl)); intro gb131 hg w6 hbox hb; have n0_ := Aside0.mk (blk_below (g := gb130) (o := .cells #[.int .i64 a0_0, .int .i64 a0_1, .int .i64 a0_2] 44 (0, 0)) (by (with_reducible repeat (first | refine blk_drewN ?_ _ | refine blk_drew ?_ | refine blk_alloc ?_ _)); exact BK130.out) hb); have n1_ := Aside0.mk (below_step (by repeat (first | (with_reducible first | exact HB.out | apply below_alloc | apply pw_below_drewN | apply below_drew1 | refine below_set ?_ GE130.out) | exact HB.out)) hb); have n2_ := Aside0.mk (hbox); have n3_ := Aside0.mk ((by rw [hg]; exact (below_size (by repeat (first | (with_reducible first | exact HB.out | apply below_alloc | apply pw_below_drewN | apply below_drew1 | refine below_set ?_ GE130.out) | exact HB.out))) : w.heap.size ≤ gb131)); have n4_ := Aside0.mk ((by rw [hg]; exact (below_size (by repeat (first | (with_reducible first | exact HB.out | apply below_alloc | apply pw_below_drewN | apply below_drew1 | refine below_set ?_ GE130.out) | exact HB.out))) : w.heap.size ≤ gb131)); have n5_ := Aside0.mk ((by rw [hg]; exact Nat.ne_of_lt (blk_lt (g := gb130) (o := .cells #[.int .i64 a0_0, .int .i64 a0_1, .int .i64 a0_2] 44 (0, 0)) (by (with_reducible repeat (first | refine blk_drewN ?_ _ | refine blk_drew ?_ | refine blk_alloc ?_ _)); exact BK130.out)) : gb130 ≠ gb131)); have n6_ := Aside0.mk ((by rw [hg]; exact Nat.ne_of_gt (blk_lt (g := gb130) (o := .cells #[.int .i64 a0_0, .int .i64 a0_1, .int .i64 a0_2] 44 (0, 0)) (by (with_reducible repeat (first | refine blk_drewN ?_ _ | refine blk_drew ?_ | refine blk_alloc ?_ _)); exact BK130.out)) : gb131 ≠ gb130)); clear BK130; clear HB; have BK130 := n0_; have HB := n1_; have BK131 := n2_; have GW131 := n3_; have GE131 := n4_; have NB130_131 := n5_; have NB131_130 := n6_; clear n0_ n1_ n2_ n3_ n4_ n5_ n6_; clear hb hbox hg; have hnb7 := NB130_131.out; have hnc7 := NB131_130.out; have hcz8_0 : w6.cell? ⟨gb130, 0, none⟩ = some (.int .i64 a0_0) := (blk_cell BK130.out 0).trans rfl; have hcz8_1 : w6.cell? ⟨gb130, 1, none⟩ = some (.int .i64 a0_1) := (blk_cell BK130.out 1).trans rfl; have hcz8_2 : w6.cell? ⟨gb130, 2, none⟩ = some (.int .i64 a0_2) := (blk_cell BK130.out 2).trans rfl; have hfz8_0 := blk_frozen BK130.out 0; have hfz8_1 := blk_frozen BK130.out 1; have hfz8_2 := blk_frozen BK130.out 2; have hcz9_0 : w6.cell? ⟨gb131, 0, none⟩ = some (.int .i64 a1_0) := (blk_cell BK131.out 0).trans rfl; have hcz9_1 : w6.cell? ⟨gb131, 1, none⟩ = some (.int .i64 a1_1) := (blk_cell BK131.out 1).trans rfl; have hcz9_2 : w6.cell? ⟨gb131, 2, none⟩ = some (.int .i64 a1_2) := (blk_cell BK131.out 2).trans rfl; have hfz9_0 := blk_frozen BK131.out 0; have hfz9_1 := blk_frozen BK131.out 1; have hfz9_2 := blk_frozen BK131.out 2))
      go_ret
      exact ⟨by first | rfl | (simp [errW_none, errW_some] <;> rfl) | (simp [*, errW_none, errW_some] <;> rfl), by repeat (first | (with_reducible first | exact HB.out | apply below_alloc | apply pw_below_drewN | apply below_drew1 | refine below_set ?_ GE130.out | refine below_set ?_ GE131.out) | exact HB.out)⟩
    · rw [if_neg c4] at H
      have c4b0 : (a0_1 == a1_1) = false := beq_eq_false_iff_ne.mpr c4
      have c4b1 : (a0_1 != a1_1) = true := bne_iff_ne.mpr c4
      obtain rfl := Option.some.inj H
      go_enter Try.func30, Try.ntmps30
      go_wp2_with (first | ((with_reducible refine gate_dst (N := 2) rfl ?_); refine box_event ?hg (N := 2) ?hd (cs := #[.int .i64 a0_0, .int .i64 a0_1, .int .i64 a0_2]) (t := 44) ?hr ?_; (case hd => rfl); (case hg => rfl); (case hr => first | (go_simp; done) | (go_simp; rfl)); intro gb130 hg w10 hbox hb; have n0_ := Aside0.mk (below_step (by repeat (first | (with_reducible first | exact HB.out | apply below_alloc | apply pw_below_drewN | apply below_drew1) | exact HB.out)) hb); have n1_ := Aside0.mk (hbox); have n2_ := Aside0.mk ((by rw [hg]; exact (below_size (by repeat (first | (with_reducible first | exact HB.out | apply below_alloc | apply pw_below_drewN | apply below_drew1) | exact HB.out))) : w.heap.size ≤ gb130)); have n3_ := Aside0.mk ((by rw [hg]; exact (below_size (by repeat (first | (with_reducible first | exact HB.out | apply below_alloc | apply pw_below_drewN | apply below_drew1) | exact HB.out))) : w.heap.size ≤ gb130)); clear HB; have HB := n0_; have BK130 := n1_; have GW130 := n2_; have GE130 := n3_; clear n0_ n1_ n2_ n3_; clear hb hbox hg) | ((with_reducible refine gate_dst (N := 3) rfl ?_); refine box_event ?hg (N := 3) ?hd (cs := #[.int .i64 a1_0, .int .i64 a1_1, .int .i64 a1_2]) (t := 44) ?hr ?_; (case hd => rfl); (case hg => rfl); (case hr => first | (go_simp; done) | (go_simp; rfl)); intro gb131 hg w11 hbox hb; have n0_ := Aside0.mk (blk_below (g := gb130) (o := .cells #[.int .i64 a0_0, .int .i64 a0_1, .int .i64 a0_2] 44 (0, 0)) (by (with_reducible repeat (first | refine blk_drewN ?_ _ | refine blk_drew ?_ | refine blk_alloc ?_ _)); exact BK130.out) hb); have n1_ := Aside0.mk (below_step (by repeat (first | (with_reducible first | exact HB.out | apply below_alloc | apply pw_below_drewN | apply below_drew1 | refine below_set ?_ GE130.out) | exact HB.out)) hb); have n2_ := Aside0.mk (hbox); have n3_ := Aside0.mk ((by rw [hg]; exact (below_size (by repeat (first | (with_reducible first | exact HB.out | apply below_alloc | apply pw_below_drewN | apply below_drew1 | refine below_set ?_ GE130.out) | exact HB.out))) : w.heap.size ≤ gb131)); have n4_ := Aside0.mk ((by rw [hg]; exact (below_size (by repeat (first | (with_reducible first | exact HB.out | apply below_alloc | apply pw_below_drewN | apply below_drew1 | refine below_set ?_ GE130.out) | exact HB.out))) : w.heap.size ≤ gb131)); have n5_ := Aside0.mk ((by rw [hg]; exact Nat.ne_of_lt (blk_lt (g := gb130) (o := .cells #[.int .i64 a0_0, .int .i64 a0_1, .int .i64 a0_2] 44 (0, 0)) (by (with_reducible repeat (first | refine blk_drewN ?_ _ | refine blk_drew ?_ | refine blk_alloc ?_ _)); exact BK130.out)) : gb130 ≠ gb131)); have n6_ := Aside0.mk ((by rw [hg]; exact Nat.ne_of_gt (blk_lt (g := gb130) (o := .cells #[.int .i64 a0_0, .int .i64 a0_1, .int .i64 a0_2] 44 (0, 0)) (by (with_reducible repeat (first | refine blk_drewN ?_ _ | refine blk_drew ?_ | refine blk_alloc ?_ _)); exact BK130.out)) : gb131 ≠ gb130)); clear BK130; clear HB; have BK130 := n0_; have HB := n1_; have BK131 := n2_; have GW131 := n3_; have GE131 := n4_; have NB130_131 := n5_; have NB131_130 := n6_; clear n0_ n1_ n2_ n3_ n4_ n5_ n6_; clear hb hbox hg; have hnb12 := NB130_131.out; have hnc12 := NB131_130.out; have hcz13_0 : w11.cell? ⟨gb130, 0, none⟩ = some (.int .i64 a0_0) := (blk_cell BK130.out 0).trans rfl; have hcz13_1 : w11.cell? ⟨gb130, 1, none⟩ = some (.int .i64 a0_1) := (blk_cell BK130.out 1).trans rfl; have hcz13_2 : w11.cell? ⟨gb130, 2, none⟩ = some (.int .i64 a0_2) := (blk_cell BK130.out 2).trans rfl; have hfz13_0 := blk_frozen BK130.out 0; have hfz13_1 := blk_frozen BK130.out 1; have hfz13_2 := blk_frozen BK130.out 2; have hcz14_0 : w11.cell? ⟨gb131, 0, none⟩ = some (.int .i64 a1_0) := (blk_cell BK131.out 0).trans rfl; have hcz14_1 : w11.cell? ⟨gb131, 1, none⟩ = some (.int .i64 a1_1) := (blk_cell BK131.out 1).trans rfl; have hcz14_2 : w11.cell? ⟨gb131, 2, none⟩ = some (.int .i64 a1_2) := (blk_cell BK131.out 2).trans rfl; have hfz14_0 := blk_frozen BK131.out 0; have hfz14_1 := blk_frozen BK131.out 1; have hfz14_2 := blk_frozen BK131.out 2))
      go_ret
      exact ⟨by first | rfl | (simp [errW_none, errW_some] <;> rfl) | (simp [*, errW_none, errW_some] <;> rfl), by repeat (first | (with_reducible first | exact HB.out | apply below_alloc | apply pw_below_drewN | apply below_drew1 | refine below_set ?_ GE130.out | refine below_set ?_ GE131.out) | exact HB.out)⟩
  · rw [if_neg c3] at H
    have c3b0 : (a0_0 == a1_0) = false := beq_eq_false_iff_ne.mpr c3
    have c3b1 : (a0_0 != a1_0) = true := bne_iff_ne.mpr c3
    obtain rfl := Option.some.inj H
    go_enter Try.func30, Try.ntmps30
    go_wp2_with (first | ((with_reducible refine gate_dst (N := 2) rfl ?_); refine box_event ?hg (N := 2) ?hd (cs := #[.int .i64 a0_0, .int .i64 a0_1, .int .i64 a0_2]) (t := 44) ?hr ?_; (case hd => rfl); (case hg => rfl); (case hr => first | (go_simp; done) | (go_simp; rfl)); intro gb130 hg w15 hbox hb; have n0_ := Aside0.mk (below_step (by repeat (first | (with_reducible first | exact HB.out | apply below_alloc | apply pw_below_drewN | apply below_drew1) | exact HB.out)) hb); have n1_ := Aside0.mk (hbox); have n2_ := Aside0.mk ((by rw [hg]; exact (below_size (by repeat (first | (with_reducible first | exact HB.out | apply below_alloc | apply pw_below_drewN | apply below_drew1) | exact HB.out))) : w.heap.size ≤ gb130)); have n3_ := Aside0.mk ((by rw [hg]; exact (below_size (by repeat (first | (with_reducible first | exact HB.out | apply below_alloc | apply pw_below_drewN | apply below_drew1) | exact HB.out))) : w.heap.size ≤ gb130)); clear HB; have HB := n0_; have BK130 := n1_; have GW130 := n2_; have GE130 := n3_; clear n0_ n1_ n2_ n3_; clear hb hbox hg) | ((with_reducible refine gate_dst (N := 3) rfl ?_); refine box_event ?hg (N := 3) ?hd (cs := #[.int .i64 a1_0, .int .i64 a1_1, .int .i64 a1_2]) (t := 44) ?hr ?_; (case hd => rfl); (case hg => rfl); (case hr => first | (go_simp; done) | (go_simp; rfl)); intro gb131 hg w16 hbox hb; have n0_ := Aside0.mk (blk_below (g := gb130) (o := .cells #[.int .i64 a0_0, .int .i64 a0_1, .int .i64 a0_2] 44 (0, 0)) (by (with_reducible repeat (first | refine blk_drewN ?_ _ | refine blk_drew ?_ | refine blk_alloc ?_ _)); exact BK130.out) hb); have n1_ := Aside0.mk (below_step (by repeat (first | (with_reducible first | exact HB.out | apply below_alloc | apply pw_below_drewN | apply below_drew1 | refine below_set ?_ GE130.out) | exact HB.out)) hb); have n2_ := Aside0.mk (hbox); have n3_ := Aside0.mk ((by rw [hg]; exact (below_size (by repeat (first | (with_reducible first | exact HB.out | apply below_alloc | apply pw_below_drewN | apply below_drew1 | refine below_set ?_ GE130.out) | exact HB.out))) : w.heap.size ≤ gb131)); have n4_ := Aside0.mk ((by rw [hg]; exact (below_size (by repeat (first | (with_reducible first | exact HB.out | apply below_alloc | apply pw_below_drewN | apply below_drew1 | refine below_set ?_ GE130.out) | exact HB.out))) : w.heap.size ≤ gb131)); have n5_ := Aside0.mk ((by rw [hg]; exact Nat.ne_of_lt (blk_lt (g := gb130) (o := .cells #[.int .i64 a0_0, .int .i64 a0_1, .int .i64 a0_2] 44 (0, 0)) (by (with_reducible repeat (first | refine blk_drewN ?_ _ | refine blk_drew ?_ | refine blk_alloc ?_ _)); exact BK130.out)) : gb130 ≠ gb131)); have n6_ := Aside0.mk ((by rw [hg]; exact Nat.ne_of_gt (blk_lt (g := gb130) (o := .cells #[.int .i64 a0_0, .int .i64 a0_1, .int .i64 a0_2] 44 (0, 0)) (by (with_reducible repeat (first | refine blk_drewN ?_ _ | refine blk_drew ?_ | refine blk_alloc ?_ _)); exact BK130.out)) : gb131 ≠ gb130)); clear BK130; clear HB; have BK130 := n0_; have HB := n1_; have BK131 := n2_; have GW131 := n3_; have GE131 := n4_; have NB130_131 := n5_; have NB131_130 := n6_; clear n0_ n1_ n2_ n3_ n4_ n5_ n6_; clear hb hbox hg; have hnb17 := NB130_131.out; have hnc17 := NB131_130.out; have hcz18_0 : w16.cell? ⟨gb130, 0, none⟩ = some (.int .i64 a0_0) := (blk_cell BK130.out 0).trans rfl; have hcz18_1 : w16.cell? ⟨gb130, 1, none⟩ = some (.int .i64 a0_1) := (blk_cell BK130.out 1).trans rfl; have hcz18_2 : w16.cell? ⟨gb130, 2, none⟩ = some (.int .i64 a0_2) := (blk_cell BK130.out 2).trans rfl; have hfz18_0 := blk_frozen BK130.out 0; have hfz18_1 := blk_frozen BK130.out 1; have hfz18_2 := blk_frozen BK130.out 2; have hcz19_0 : w16.cell? ⟨gb131, 0, none⟩ = some (.int .i64 a1_0) := (blk_cell BK131.out 0).trans rfl; have hcz19_1 : w16.cell? ⟨gb131, 1, none⟩ = some (.int .i64 a1_1) := (blk_cell BK131.out 1).trans rfl; have hcz19_2 : w16.cell? ⟨gb131, 2, none⟩ = some (.int .i64 a1_2) := (blk_cell BK131.out 2).trans rfl; have hfz19_0 := blk_frozen BK131.out 0; have hfz19_1 := blk_frozen BK131.out 1; have hfz19_2 := blk_frozen BK131.out 2))
    go_ret
    exact ⟨by first | rfl | (simp [errW_none, errW_some] <;> rfl) | (simp [*, errW_none, errW_some] <;> rfl), by repeat (first | (with_reducible first | exact HB.out | apply below_alloc | apply pw_below_drewN | apply below_drew1 | refine below_set ?_ GE130.out | refine below_set ?_ GE131.out) | exact HB.out)⟩

/-! ### catafalqueref12_Push: function 17 -/
def catafalqueref12_Push.l0 : Nat → List (S44) → Int → Int → Int → Int → Option ((List (S44)))
  | 0, _, _, _, _, _ => none
  | k + 1, x0, x5, x133000, x133001, x133002 => if x5 < (x0.length : Int) then (if 0 ≤ x5 then ((catafalqueref12_Ahead.f x133000 x133001 x133002 ((rd_T44 x0 x5).f0) ((rd_T44 x0 x5).f1) ((rd_T44 x0 x5).f2)).bind fun t134 => (if t134 = true then ((some (([] : List (S44)) : List (S44))).bind fun y135 => (if x5 ≤ (x0.length : Int) then ((some (x0.take (x5 : Int).toNat : List (S44))).bind fun y138 => (if y135.length + y138.length < 5864062014805 then ((some (y135 ++ y138 : List (S44))).bind fun y142 => (if y142.length < 5864062014805 then ((some (y142 ++ [(⟨x133000, x133001, x133002⟩ : S44)] : List (S44))).bind fun y145 => ((some (x0.drop (x5 : Int).toNat : List (S44))).bind fun y148 => (if y145.length + y148.length < 5864062014805 then (some (y145 ++ y148)) else (none)))) else (none))) else (none))) else (none))) else (catafalqueref12_Push.l0 k x0 (wrap64 (x5 + 1)) x133000 x133001 x133002))) else (none)) else ((some (([] : List (S44)) : List (S44))).bind fun y155 => (if 0 ≤ x5 then (if x5 ≤ (x0.length : Int) then ((some (x0.take (x5 : Int).toNat : List (S44))).bind fun y158 => (if y155.length + y158.length < 5864062014805 then ((some (y155 ++ y158 : List (S44))).bind fun y162 => (if y162.length < 5864062014805 then ((some (y162 ++ [(⟨x133000, x133001, x133002⟩ : S44)] : List (S44))).bind fun y165 => ((some (x0.drop (x5 : Int).toNat : List (S44))).bind fun y168 => (if y165.length + y168.length < 5864062014805 then (some (y165 ++ y168)) else (none)))) else (none))) else (none))) else (none)) else (none)))
def catafalqueref12_Push.f (k : Nat) (l0 : List (S44)) (a1_0 : Int) (a1_1 : Int) (a1_2 : Int) : Option ((List (S44))) := catafalqueref12_Push.l0 k l0 0 a1_0 a1_1 a1_2
theorem catafalqueref12_Push.mono_l : ∀ k, (∀ y0 y1 y2 y3 y4, LeO (catafalqueref12_Push.l0 k y0 y1 y2 y3 y4) (catafalqueref12_Push.l0 (k + 1) y0 y1 y2 y3 y4))
  | 0 => fun _ _ _ _ _ r h => by simp [catafalqueref12_Push.l0] at h
  | k + 1 => by
    have ih0 := catafalqueref12_Push.mono_l k
    · intro y0 y1 y2 y3 y4
      unfold catafalqueref12_Push.l0
      repeat' first
      | (with_reducible exact ih0 _ _ _ _ _)
      | (with_reducible exact LeO.refl _)
      | (with_reducible exact LeO.none _)
      | (with_reducible refine LeO.ite ?_ ?_)
      | (with_reducible refine LeO.bind ?_ (fun _ => ?_))
      | exact ih0 _ _ _ _ _
      | exact LeO.none _
      | refine LeO.ite ?_ ?_
      | refine LeO.bind ?_ (fun _ => ?_)
theorem catafalqueref12_Push.mono : ∀ a0 a1 a2 a3 k, LeO (catafalqueref12_Push.f k a0 a1 a2 a3) (catafalqueref12_Push.f (k + 1) a0 a1 a2 a3) := by
  intro a0 a1 a2 a3 k
  have ih0 := catafalqueref12_Push.mono_l k
  unfold catafalqueref12_Push.f
  repeat' first
      | (with_reducible exact ih0 _ _ _ _ _)
      | (with_reducible exact LeO.refl _)
      | (with_reducible exact LeO.none _)
      | (with_reducible refine LeO.ite ?_ ?_)
      | (with_reducible refine LeO.bind ?_ (fun _ => ?_))
      | exact ih0 _ _ _ _ _
      | exact LeO.none _
      | refine LeO.ite ?_ ?_
      | refine LeO.bind ?_ (fun _ => ?_)
def catafalqueref12_Push.T2 : Bool × List (List Nat × List Nat) := (true, [([], []), ([], []), ([1], [1]), ([0, 2], [0, 2]), ([3], [3]), ([4], [4]), ([4], [4]), ([4], [4]), ([6, 7, 4], [4, 6, 7]), ([8, 4], [4, 8]), ([5, 9, 4, 4], [4, 5, 9]), ([10, 4], [4, 10]), ([4, 11], [4, 11])])
def catafalqueref12_Push.B2 : List Nat := [0, 0, 2, 7, 15, 31, 31, 31, 223, 479, 1023, 2047, 4095]
theorem catafalqueref12_Push.tab2 : rtab .any (opsOf Try.f17 2) = catafalqueref12_Push.T2 := by kernel_rfl
theorem catafalqueref12_Push.bits2 : waitsOk catafalqueref12_Push.T2.2 catafalqueref12_Push.B2 = true := by kernel_rfl
set_option maxHeartbeats 8000000 in
set_option maxRecDepth 100000 in
theorem catafalqueref12_Push.calls (k : Nat) (A0 : Option Addr) (c0 : Nat) (l0 : List (S44)) (a1_0 : Int) (a1_1 : Int) (a1_2 : Int) (r : List (S44)) (w : World) (hr0 : Kd.C k44 w A0 l0.length l0) (hc0 : l0.length ≤ c0) (h : catafalqueref12_Push.f k l0 a1_0 a1_1 a1_2 = some r) :
    Calls Try.prog 17 #[.slice A0 l0.length c0, .agg #[.int .i64 a1_0, .int .i64 a1_1, .int .i64 a1_2]] w fun e w' => ∃ v0_ : Value, e = .returned (v0_) ∧ Kd.R k44 44 w' w.heap.size (fun _ => True) v0_ r ∧ Below w.heap.size w w' := by
  have hu44 := Try.underlying44
  have HR0 := Aside0.mk hr0
  have HC0 := Aside0.mk hc0
  clear hr0 hc0
  have HB := Aside0.mk (Below.refl w.heap.size w)
  have H : (catafalqueref12_Push.l0 k l0 0 a1_0 a1_1 a1_2) = some r := h
  clear h
  have H' := Aside0.mk H
  clear H
  go_enter Try.func17, Try.ntmps17
  go_wp2_with (first | ((with_reducible refine gate_dst (N := 3) rfl ?_); refine box_event ?hg (N := 3) ?hd (cs := #[.int .i64 a1_0, .int .i64 a1_1, .int .i64 a1_2]) (t := 44) ?hr ?_; (case hd => rfl); (case hg => rfl); (case hr => first | (go_simp; done) | (go_simp; rfl)); intro gb132 hg w3 hbox hb; have n0_ := Aside0.mk (below_step (by repeat (first | (with_reducible first | exact HB.out | apply below_alloc | apply pw_below_drewN | apply below_drew1) | exact HB.out)) hb); have n1_ := Aside0.mk (hbox); have n2_ := Aside0.mk ((by rw [hg]; exact (below_size (by repeat (first | (with_reducible first | exact HB.out | apply below_alloc | apply pw_below_drewN | apply below_drew1) | exact HB.out))) : w.heap.size ≤ gb132)); have n3_ := Aside0.mk ((by rw [hg]; exact (below_size (by repeat (first | (with_reducible first | exact HB.out | apply below_alloc | apply pw_below_drewN | apply below_drew1) | exact HB.out))) : w.heap.size ≤ gb132)); clear HB; have HB := n0_; have BK132 := n1_; have GW132 := n2_; have GE132 := n3_; clear n0_ n1_ n2_ n3_; clear hb hbox hg))
  go_loopg [5] k (fun kq v5 w' => ∃ (x5_1 : Int), v5 = .int .i64 x5_1 ∧ Aside0 (catafalqueref12_Push.l0 kq l0 x5_1 a1_0 a1_1 a1_2 = some r) ∧ Aside0 (kq ≤ k) ∧ Aside0 (w'.heap[gb132]? = some (.cells #[.int .i64 a1_0, .int .i64 a1_1, .int .i64 a1_2] 44 (0, 0))) ∧ Aside0 (Below w.heap.size w w'))
  case atStart => exact ⟨(0), (by first | rfl | (simp; done) | (simp [*]; done)), H', ⟨Nat.le_refl _⟩, ⟨by (with_reducible repeat (first | refine blk_drewN ?_ _ | refine blk_drew ?_ | refine blk_alloc ?_ _)); exact BK132.out⟩, ⟨by repeat (first | (with_reducible first | exact HB.out | apply below_alloc | apply pw_below_drewN | apply below_drew1 | refine below_set ?_ GE132.out) | exact HB.out)⟩⟩
  case round =>
    clear H'
    try clear c1
    try clear p2
    obtain ⟨x5_1, rfl, HA, HK1, BK132, HB⟩ := hrel
    cases gk with
    | zero => exact absurd HA.out (by simp [catafalqueref12_Push.l0])
    | succ k1 =>
      have H := HA.out
      clear HA
      simp only [catafalqueref12_Push.l0] at H
      by_cases c4 : x5_1 < (l0.length : Int)
      · rw [if_pos c4] at H
        have c4b0 : decide (x5_1 < (l0.length : Int)) = true := decide_eq_true c4
        clear c4
        by_cases c5 : 0 ≤ x5_1
        · rw [if_pos c5] at H
          have c5b0 : decide (0 ≤ x5_1) = true := decide_eq_true c5
          clear c5
          replace H := Option.bind_eq_some_iff.mp H
          obtain ⟨t134, A60, H⟩ := H
          replace H : (if t134 = true then ((some (([] : List (S44)) : List (S44))).bind fun y135 => (if x5_1 ≤ (l0.length : Int) then ((some (l0.take (x5_1 : Int).toNat : List (S44))).bind fun y138 => (if y135.length + y138.length < 5864062014805 then ((some (y135 ++ y138 : List (S44))).bind fun y142 => (if y142.length < 5864062014805 then ((some (y142 ++ [(⟨a1_0, a1_1, a1_2⟩ : S44)] : List (S44))).bind fun y145 => ((some (l0.drop (x5_1 : Int).toNat : List (S44))).bind fun y148 => (if y145.length + y148.length < 5864062014805 then (some (y145 ++ y148)) else (none)))) else (none))) else (none))) else (none))) else (catafalqueref12_Push.l0 k1 l0 (wrap64 (x5_1 + 1)) a1_0 a1_1 a1_2)) = some r := H
          have A6 := Aside0.mk A60
          clear A60
          by_cases c7 : t134 = true
          · subst c7
            have H1 : ((some (([] : List (S44)) : List (S44))).bind fun y135 => (if x5_1 ≤ (l0.length : Int) then ((some (l0.take (x5_1 : Int).toNat : List (S44))).bind fun y138 => (if y135.length + y138.length < 5864062014805 then ((some (y135 ++ y138 : List (S44))).bind fun y142 => (if y142.length < 5864062014805 then ((some (y142 ++ [(⟨a1_0, a1_1, a1_2⟩ : S44)] : List (S44))).bind fun y145 => ((some (l0.drop (x5_1 : Int).toNat : List (S44))).bind fun y148 => (if y145.length + y148.length < 5864062014805 then (some (y145 ++ y148)) else (none)))) else (none))) else (none))) else (none))) = some r := by rw [if_pos rfl] at H; exact H
            clear H
            have H := H1
            clear H1
            obtain ⟨y135, hy135⟩ : ∃ y_ : List (S44), y_ = (([] : List (S44))) := ⟨_, rfl⟩
            replace H : (if x5_1 ≤ (l0.length : Int) then ((some (l0.take (x5_1 : Int).toNat : List (S44))).bind fun y138 => (if y135.length + y138.length < 5864062014805 then ((some (y135 ++ y138 : List (S44))).bind fun y142 => (if y142.length < 5864062014805 then ((some (y142 ++ [(⟨a1_0, a1_1, a1_2⟩ : S44)] : List (S44))).bind fun y145 => ((some (l0.drop (x5_1 : Int).toNat : List (S44))).bind fun y148 => (if y145.length + y148.length < 5864062014805 then (some (y145 ++ y148)) else (none)))) else (none))) else (none))) else (none)) = some r := by first | (rw [hy135]; with_reducible exact H) | (have H2_ := (Option.bind_some _ _).symm.trans H; rw [hy135]; with_reducible exact H2_) | (have H2_ := (Option.bind_some _ _).symm.trans H; with_reducible exact H2_) | with_reducible exact H | (rw [hy135]; exact H) | exact H
            have Ny135 := Aside0.mk hy135
            clear hy135
            have c8b0 := eq_true (of_decide_eq_true (by first | (with_reducible assumption) | assumption) : 0 ≤ x5_1)
            by_cases c9 : x5_1 ≤ (l0.length : Int)
            · rw [if_pos c9] at H
              have c9b0 := eq_true c9
              have c9b1 : decide (x5_1 ≤ (l0.length : Int)) = true := decide_eq_true c9
              clear c9
              obtain ⟨y138, hy138⟩ : ∃ y_ : List (S44), y_ = (l0.take (x5_1 : Int).toNat) := ⟨_, rfl⟩
              replace H : (if y135.length + y138.length < 5864062014805 then ((some (y135 ++ y138 : List (S44))).bind fun y142 => (if y142.length < 5864062014805 then ((some (y142 ++ [(⟨a1_0, a1_1, a1_2⟩ : S44)] : List (S44))).bind fun y145 => ((some (l0.drop (x5_1 : Int).toNat : List (S44))).bind fun y148 => (if y145.length + y148.length < 5864062014805 then (some (y145 ++ y148)) else (none)))) else (none))) else (none)) = some r := by first | (rw [hy138]; with_reducible exact H) | (have H2_ := (Option.bind_some _ _).symm.trans H; rw [hy138]; with_reducible exact H2_) | (have H2_ := (Option.bind_some _ _).symm.trans H; with_reducible exact H2_) | with_reducible exact H | (rw [hy138]; exact H) | exact H
              have Ny138 := Aside0.mk hy138
              clear hy138
              by_cases c10 : y135.length + y138.length < 5864062014805
              · rw [if_pos c10] at H
                have LMc10 := Aside0.mk c10
                clear c10
                obtain ⟨y142, hy142⟩ : ∃ y_ : List (S44), y_ = (y135 ++ y138) := ⟨_, rfl⟩
                replace H : (if y142.length < 5864062014805 then ((some (y142 ++ [(⟨a1_0, a1_1, a1_2⟩ : S44)] : List (S44))).bind fun y145 => ((some (l0.drop (x5_1 : Int).toNat : List (S44))).bind fun y148 => (if y145.length + y148.length < 5864062014805 then (some (y145 ++ y148)) else (none)))) else (none)) = some r := by first | (rw [hy142]; with_reducible exact H) | (have H2_ := (Option.bind_some _ _).symm.trans H; rw [hy142]; with_reducible exact H2_) | (have H2_ := (Option.bind_some _ _).symm.trans H; with_reducible exact H2_) | with_reducible exact H | (rw [hy142]; exact H) | exact H
                have Ny142 := Aside0.mk hy142
                clear hy142
                by_cases c11 : y142.length < 5864062014805
                · rw [if_pos c11] at H
                  have LMc11 := Aside0.mk c11
                  clear c11
                  obtain ⟨y145, hy145⟩ : ∃ y_ : List (S44), y_ = (y142 ++ [(⟨a1_0, a1_1, a1_2⟩ : S44)]) := ⟨_, rfl⟩
                  replace H : ((some (l0.drop (x5_1 : Int).toNat : List (S44))).bind fun y148 => (if y145.length + y148.length < 5864062014805 then (some (y145 ++ y148)) else (none))) = some r := by first | (rw [hy145]; with_reducible exact H) | (have H2_ := (Option.bind_some _ _).symm.trans H; rw [hy145]; with_reducible exact H2_) | (have H2_ := (Option.bind_some _ _).symm.trans H; with_reducible exact H2_) | with_reducible exact H | (rw [hy145]; exact H) | exact H
                  have Ny145 := Aside0.mk hy145
                  clear hy145
                  have c12b0 := eq_true (of_decide_eq_true (by first | (with_reducible assumption) | assumption) : 0 ≤ x5_1)
                  have c13b0 := eq_true (of_decide_eq_true (by first | (with_reducible assumption) | assumption) : x5_1 ≤ (l0.length : Int))
                  obtain ⟨y148, hy148⟩ : ∃ y_ : List (S44), y_ = (l0.drop (x5_1 : Int).toNat) := ⟨_, rfl⟩
                  replace H : (if y145.length + y148.length < 5864062014805 then (some (y145 ++ y148)) else (none)) = some r := by first | (rw [hy148]; with_reducible exact H) | (have H2_ := (Option.bind_some _ _).symm.trans H; rw [hy148]; with_reducible exact H2_) | (have H2_ := (Option.bind_some _ _).symm.trans H; with_reducible exact H2_) | with_reducible exact H | (rw [hy148]; exact H) | exact H
                  have Ny148 := Aside0.mk hy148
                  clear hy148
                  by_cases c14 : y145.length + y148.length < 5864062014805
                  · rw [if_pos c14] at H
                    have LMc14 := Aside0.mk c14
                    clear c14
                    obtain ⟨y152, hy152⟩ : ∃ y_ : List (S44), y_ = (y145 ++ y148) := ⟨_, rfl⟩
                    replace H : (some y152) = some r := by first | (rw [hy152]; with_reducible exact H) | (have H2_ := (Option.bind_some _ _).symm.trans H; rw [hy152]; with_reducible exact H2_) | (have H2_ := (Option.bind_some _ _).symm.trans H; with_reducible exact H2_) | with_reducible exact H | (rw [hy152]; exact H) | exact H
                    have Ny152 := Aside0.mk hy152
                    clear hy152
                    obtain rfl := Option.some.inj H
                    try go_wp2
                    have n0_ := Aside0.mk (blk_drew BK132.out)
                    have n1_ := Aside0.mk (below_drew1 HB.out)
                    clear BK132
                    clear HB
                    have BK132 := n0_
                    have HB := n1_
                    clear n0_ n1_
                    have p133 : 0 ≤ (x5_1 : Int) := of_decide_eq_true (by first | (with_reducible assumption) | assumption)
                    have q133 : x5_1 < (l0.length : Int) := of_decide_eq_true (by first | (with_reducible assumption) | assumption)
                    obtain ⟨ad133, e133, hx133_0, hx133_1, hx133_2⟩ := at_T44 HR0.out x5_1 p133 q133
                    have hw133_2 := hx133_2
                    have hw133_1 := hx133_1
                    have hw133_0 := hx133_0
                    cases e133
                    replace hx133_0 := (HB.out.cell (World.block_lt_of_cell? w _ hx133_0)).trans hx133_0
                    replace hx133_1 := (HB.out.cell (World.block_lt_of_cell? w _ hx133_1)).trans hx133_1
                    replace hx133_2 := (HB.out.cell (World.block_lt_of_cell? w _ hx133_2)).trans hx133_2
                    replace p133 := eq_true p133
                    replace q133 := eq_true q133
                    refine start_ (n := 13) (S := fun w' => w'.cell? ⟨gb132, 0, none⟩ = some (.int .i64 a1_0) ∧ w'.cell? ⟨gb132, 1, none⟩ = some (.int .i64 a1_1) ∧ w'.cell? ⟨gb132, 2, none⟩ = some (.int .i64 a1_2) ∧ w'.cell? (ad133.add ((x5_1).toNat * 3)) = some (.int .i64 ((rd_T44 l0 x5_1).f0)) ∧ w'.cell? ⟨(ad133.add ((x5_1).toNat * 3)).block, (ad133.add ((x5_1).toNat * 3)).off + 1, none⟩ = some (.int .i64 ((rd_T44 l0 x5_1).f1)) ∧ w'.cell? ⟨(ad133.add ((x5_1).toNat * 3)).block, (ad133.add ((x5_1).toNat * 3)).off + 2, none⟩ = some (.int .i64 ((rd_T44 l0 x5_1).f2))) (ds := []) #[false, false, false, false, false, false, false, false, false, false, false, false, false] (by kernel_rfl) rfl rfl ⟨(blk_cell BK132.out 0).trans rfl, (blk_cell BK132.out 1).trans rfl, (blk_cell BK132.out 2).trans rfl, ((HB.out.cell (World.block_lt_of_cell? w _ hw133_0)).trans hw133_0), ((HB.out.cell (World.block_lt_of_cell? w _ hw133_1)).trans hw133_1), ((HB.out.cell (World.block_lt_of_cell? w _ hw133_2)).trans hw133_2)⟩ (fun hHeld => ?_); refine with_tabW catafalqueref12_Push.tab2 catafalqueref12_Push.bits2 (fun HT_ HW_ => ?_)
                    generalize wr.drew = w15 at BK132 HB hx133_0 hx133_1 hx133_2 hHeld ⊢
                    refine pure_ (i := 0) (N := some 7) (v := ?_) (a' := ?_) #[true, false, false, false, false, false, false, false, false, false, false, false, false] rfl rfl (any_of HT_.out (by kernel_rfl)) (fun _ _ _ h => h) (Or.inl ⟨by rfl, ?_⟩) ?_ ?_
                    rotate_left
                    · intro w'
                      go_simp
                      with_reducible rfl
                    rotate_left
                    · simp only [Act.put, List.setIfInBounds_toArray, List.set_cons_zero, List.set_cons_succ, i64_w, i32_w]
                      rfl
                    refine pure_ (i := 1) (N := some 8) (v := ?_) (a' := ?_) #[true, true, false, false, false, false, false, false, false, false, false, false, false] rfl rfl (any_of HT_.out (by kernel_rfl)) (fun _ _ _ h => h) (Or.inl ⟨by rfl, ?_⟩) ?_ ?_
                    rotate_left
                    · intro w'
                      go_simp
                      with_reducible rfl
                    rotate_left
                    · simp only [Act.put, List.setIfInBounds_toArray, List.set_cons_zero, List.set_cons_succ, i64_w, i32_w]
                      rfl
                    refine pure_ (i := 2) (N := some 9) (v := ?_) (a' := ?_) #[true, true, true, false, false, false, false, false, false, false, false, false, false] rfl rfl (any_of HT_.out (by kernel_rfl)) (fun _ _ _ h => h) (Or.inl ⟨by rfl, ?_⟩) ?_ ?_
                    rotate_left
                    · intro w'
                      go_simp
                      with_reducible rfl
                    rotate_left
                    · simp only [Act.put, List.setIfInBounds_toArray, List.set_cons_zero, List.set_cons_succ, i64_w, i32_w]
                      rfl
                    refine pure_ (i := 3) (N := some 10) (v := ?_) (a' := ?_) #[true, true, true, true, false, false, false, false, false, false, false, false, false] rfl rfl (any_of HT_.out (by kernel_rfl)) (fun _ _ _ h => h) (Or.inl ⟨by rfl, ?_⟩) ?_ ?_
                    rotate_left
                    · intro w'
                      go_simp
                      with_reducible rfl
                    rotate_left
                    · simp only [Act.put, List.setIfInBounds_toArray, List.set_cons_zero, List.set_cons_succ, i64_w, i32_w]
                      rfl
                    refine pure_ (i := 4) (N := some 11) (v := ?_) (a' := ?_) #[true, true, true, true, true, false, false, false, false, false, false, false, false] rfl rfl (any_of HT_.out (by kernel_rfl)) (fun _ _ _ h => h) (Or.inl ⟨by rfl, ?_⟩) ?_ ?_
                    rotate_left
                    · intro w'
                      go_simp
                      with_reducible rfl
                    rotate_left
                    · simp only [Act.put, List.setIfInBounds_toArray, List.set_cons_zero, List.set_cons_succ, i64_w, i32_w]
                      rfl
                    refine pure_ (i := 6) (N := some 13) (v := ?_) (a' := ?_) #[true, true, true, true, true, false, true, false, false, false, false, false, false] rfl rfl (any_of HT_.out (by kernel_rfl)) (fun _ _ _ h => h) (Or.inl ⟨by rfl, ?_⟩) ?_ ?_
                    rotate_left
                    · intro w'
                      go_simp
                      with_reducible rfl
                    rotate_left
                    · simp only [Act.put, List.setIfInBounds_toArray, List.set_cons_zero, List.set_cons_succ, i64_w, i32_w]
                      rfl
                    refine pure_ (i := 7) (N := some 14) (v := ?_) (a' := ?_) #[true, true, true, true, true, false, true, true, false, false, false, false, false] rfl rfl (any_of HT_.out (by kernel_rfl)) (fun _ _ _ h => h) (Or.inl ⟨by rfl, ?_⟩) ?_ ?_
                    rotate_left
                    · intro w'
                      go_simp
                      with_reducible rfl
                    rotate_left
                    · simp only [Act.put, List.setIfInBounds_toArray, List.set_cons_zero, List.set_cons_succ, i64_w, i32_w]
                      rfl
                    refine pure_ (i := 8) (N := some 15) (v := ?_) (a' := ?_) #[true, true, true, true, true, false, true, true, true, false, false, false, false] rfl rfl (any_of HT_.out (by kernel_rfl)) (fun _ _ _ h => h) (Or.inl ⟨by rfl, ?_⟩) ?_ ?_
                    rotate_left
                    · intro w'
                      go_simp
                      with_reducible rfl
                    rotate_left
                    · simp only [Act.put, List.setIfInBounds_toArray, List.set_cons_zero, List.set_cons_succ, i64_w, i32_w]
                      rfl
                    refine take_ (i := 5) (N := some 12) (v := ?_) (a' := ?_) #[true, true, true, true, true, true, true, true, true, false, false, false, false] rfl rfl (take_ofW HT_.out HW_.out (by kernel_rfl)) (fun _ _ _ h => h) (Or.inl ⟨by rfl, ?_⟩) hHeld ?_ ?_
                    rotate_left
                    · rintro w' ⟨s0, s1, s2, s3, s4, s5⟩
                      go_simp
                      with_reducible rfl
                    rotate_left
                    · simp only [Act.put, List.setIfInBounds_toArray, List.set_cons_zero, List.set_cons_succ, i64_w, i32_w]
                      rfl
                    refine take_ (i := 9) (N := some 16) (v := ?_) (a' := ?_) #[true, true, true, true, true, true, true, true, true, true, false, false, false] rfl rfl (take_ofW HT_.out HW_.out (by kernel_rfl)) (fun _ _ _ h => h) (Or.inl ⟨by rfl, ?_⟩) hHeld ?_ ?_
                    rotate_left
                    · rintro w' ⟨s0, s1, s2, s3, s4, s5⟩
                      go_simp
                      with_reducible rfl
                    rotate_left
                    · simp only [Act.put, List.setIfInBounds_toArray, List.set_cons_zero, List.set_cons_succ, i64_w, i32_w]
                      rfl
                    refine one_ (i := 10) (N := some 17) #[true, true, true, true, true, true, true, true, true, true, true, false, false] rfl rfl (one_of HT_.out (by kernel_rfl)) (by decide) (fun K hK => ?_)
                    refine goes_ Try.func30 (by kernel_rfl) rfl #[.agg #[.int .i64 a1_0, .int .i64 a1_1, .int .i64 a1_2], .agg #[.int .i64 ((rd_T44 l0 x5_1).f0), .int .i64 ((rd_T44 l0 x5_1).f1), .int .i64 ((rd_T44 l0 x5_1).f2)]] (by rfl) rfl rfl (by (try simp only [List.map_toArray, List.map_cons, List.map_nil]); first | done | rfl | (simp only [List.length_drop, List.length_take]; rfl)) ?_
                    with_reducible refine (catafalqueref12_Ahead.calls a1_0 a1_1 a1_2 ((rd_T44 l0 x5_1).f0) ((rd_T44 l0 x5_1).f1) ((rd_T44 l0 x5_1).f2) true _ A6.out).mono ?_
                    rintro e w16 ⟨rfl, hb⟩
                    refine ⟨_, rfl, ?_⟩
                    have n0_ := Aside0.mk (blk_below (g := gb132) (o := .cells #[.int .i64 a1_0, .int .i64 a1_1, .int .i64 a1_2] 44 (0, 0)) (by (with_reducible repeat (first | refine blk_drewN ?_ _ | refine blk_drew ?_ | refine blk_alloc ?_ _)); exact BK132.out) hb)
                    have n1_ := Aside0.mk (below_step (by repeat (first | (with_reducible first | exact HB.out | apply below_alloc | apply pw_below_drewN | apply below_drew1 | refine below_set ?_ GE132.out) | exact HB.out)) hb)
                    clear BK132
                    clear HB
                    have BK132 := n0_
                    have HB := n1_
                    clear n0_ n1_
                    (try clear hb)
                    (try clear hb2)
                    (try clear hk)
                    (try clear hi)
                    refine hK.out _ _ ⟨(blk_cell BK132.out 0).trans rfl, (blk_cell BK132.out 1).trans rfl, (blk_cell BK132.out 2).trans rfl, ((HB.out.cell (World.block_lt_of_cell? w _ hw133_0)).trans hw133_0), ((HB.out.cell (World.block_lt_of_cell? w _ hw133_1)).trans hw133_1), ((HB.out.cell (World.block_lt_of_cell? w _ hw133_2)).trans hw133_2)⟩ (fun hHeld => ?_)
                    clear hK K
                    refine norm_ (a' := ?_) ?_ ?_
                    rotate_left
                    · show Act.put _ (some 17) _ = _
                      simp only [Act.put, List.setIfInBounds_toArray, List.set_cons_zero, List.set_cons_succ, i64_w, i32_w]
                      rfl
                    refine pure_ (i := 11) (N := some 18) (v := ?_) (a' := ?_) #[true, true, true, true, true, true, true, true, true, true, true, true, false] rfl rfl (any_of HT_.out (by kernel_rfl)) (fun _ _ _ h => h) (Or.inl ⟨by rfl, ?_⟩) ?_ ?_
                    rotate_left
                    · intro w'
                      go_simp
                      with_reducible rfl
                    rotate_left
                    · simp only [Act.put, List.setIfInBounds_toArray, List.set_cons_zero, List.set_cons_succ, i64_w, i32_w]
                      rfl
                    refine pure_ (i := 12) (N := some 19) (v := ?_) (a' := ?_) #[true, true, true, true, true, true, true, true, true, true, true, true, true] rfl rfl (any_of HT_.out (by kernel_rfl)) (fun _ _ _ h => h) (Or.inl ⟨by rfl, ?_⟩) ?_ ?_
                    rotate_left
                    · intro w'
                      go_simp
                      with_reducible rfl
                    rotate_left
                    · simp only [Act.put, List.setIfInBounds_toArray, List.set_cons_zero, List.set_cons_succ, i64_w, i32_w]
                      rfl
                    refine done_ (done_of HT_.out (by kernel_rfl)) ?_
                    try go_wp2_with (first | ((with_reducible refine gate_dst (N := 22) rfl ?_); refine Kd.R_lit k44 _ 44 ?hg (N := 22) ?hd (xs := ([] : List (S44))) (inner := []) (ok := fun _ => True) (okp := fun _ => True) ?hr ?hp (fun _ hk => hk) trivial (Below.refl _ _) (Nat.le_refl _) (by simp) ?_; (case hd => rfl); (case hg => rfl); (case hr => first | (go_simp; done) | (go_simp; rfl)); (case hp => exact (Reps.none _ _)); intro v136 w17 ho18 hb hg_ hnew_; clear hg_ hnew_; (first | rw [← Ny135.out] at ho18 | (simp only [Int.reduceToNat] at ho18; rw [← Ny135.out] at ho18)); have n0_ := Aside0.mk (Kd.R_lower (Kd.R_newB ho18 (g := gb132) (o := .cells #[.int .i64 a1_0, .int .i64 a1_1, .int .i64 a1_2] 44 (0, 0)) (by (with_reducible repeat (first | refine blk_drewN ?_ _ | refine blk_drew ?_ | refine blk_alloc ?_ _)); exact BK132.out)) (below_size (by repeat (first | (with_reducible first | exact HB.out | apply below_alloc | apply pw_below_drewN | apply below_drew1 | refine below_set ?_ GE132.out) | exact HB.out)))); have n1_ := Aside0.mk (blk_below (g := gb132) (o := .cells #[.int .i64 a1_0, .int .i64 a1_1, .int .i64 a1_2] 44 (0, 0)) (by (with_reducible repeat (first | refine blk_drewN ?_ _ | refine blk_drew ?_ | refine blk_alloc ?_ _)); exact BK132.out) hb); have n2_ := Aside0.mk (below_step (by repeat (first | (with_reducible first | exact HB.out | apply below_alloc | apply pw_below_drewN | apply below_drew1 | refine below_set ?_ GE132.out) | exact HB.out)) hb); clear BK132; clear HB; have HO137 := n0_; have BK132 := n1_; have HB := n2_; clear n0_ n1_ n2_; clear hb ho18; have q19 : (x5_1 : Int) ≤ ((l0.length : Int) : Int) := of_decide_eq_true (by first | (with_reducible assumption) | assumption); obtain ⟨i019, hi019, _, hsz19, _⟩ := info_parts info44; have hroom19 : l0.length ≤ c0 := HC0.out; have hC19 : Kd.C k44 _ (some ad133) l0.length l0 := HR0.out; have hcut19 := cut_to (P := Try.prog) 40 44 .i64 Try.underlying40 hi019 (some ad133) l0.length c0 x5_1 (of_decide_eq_true (by first | (with_reducible assumption) | assumption)) q19 hroom19; have hr19 := Kd.C_take (m := (x5_1 : Int).toNat) hC19 (by omega); have hy19 : y138.length = (x5_1 : Int).toNat := (by rw [Ny138.out, List.length_take]; omega); rw [← Ny138.out] at hr19; rw [← hy19] at hcut19; have HR141 := Aside0.mk hr19; have HC141 := Aside0.mk (show y138.length ≤ c0 from by omega); clear hr19 hC19 hroom19 hi019 hsz19; have KY19 := Aside0.mk hy19; clear hy19; replace q19 := eq_true q19) | ((with_reducible refine gate_builtin (b := .append) (xs := #[.tmp 22, .tmp 25]) rfl ?_); at_builtin; refine Kd.R_append_rows k44 (w0 := w) w.heap.size rfl (.tmp 22) (.tmp 25) 40 44 (.agg #[(.int .i64 0), (.int .i64 0), (.int .i64 0)]) 24 rfl Try.underlying40 info44 rfl (by decide) (by omega) v136 y135 y138 _ _ _ (fun k_ => k_ ≠ gb132) (fun _ => False) rfl rfl ?aO ?aR (fun _ _ h => h) (fun _ h => h.elim) ?aF ?aB ?aS ?aL ?_; (case aR => repeat (first | exact (Kd.C_below HR141.out HB.out) | (with_reducible refine Kd.C_alloc ?_ _) | (with_reducible refine Kd.C_drewN ?_ _) | (with_reducible refine Kd.C_drew ?_))); (case aB => exact (by repeat (first | (with_reducible first | exact HB.out | apply below_alloc | apply pw_below_drewN | apply below_drew1 | refine below_set ?_ GE132.out) | exact HB.out))); (case aF => exact (fun k_ hk => Kd.freshB (g := gb132) (o := .cells #[.int .i64 a1_0, .int .i64 a1_1, .int .i64 a1_2] 44 (0, 0)) (by (with_reducible repeat (first | refine blk_drewN ?_ _ | refine blk_drew ?_ | refine blk_alloc ?_ _)); exact BK132.out) k_ hk)); (case aO => exact (by (with_reducible repeat (first | apply Kd.R_alloc | apply Kd.R_drewN | apply Kd.R_drew)); exact Kd.R_mono HO137.out (fun _ hk => hk.2))); (case aS => exact (below_size (by repeat (first | (with_reducible first | exact HB.out | apply below_alloc | apply pw_below_drewN | apply below_drew1 | refine below_set ?_ GE132.out) | exact HB.out)))); (case aL => have := LMc10.out; omega); intro v143 w20 ho hb hg hat; rw [← Ny142.out] at ho; have n0_ := Aside0.mk (blk_grown (g := gb132) (o := .cells #[.int .i64 a1_0, .int .i64 a1_1, .int .i64 a1_2] 44 (0, 0)) (by (with_reducible repeat (first | refine blk_drewN ?_ _ | refine blk_drew ?_ | refine blk_alloc ?_ _)); exact BK132.out) hg (Kd.R_away HO137.out (fun _ hk => hk.2))); have n1_ := Aside0.mk (hb); have n2_ := Aside0.mk (ho); clear BK132; clear HB; clear HO137; have BK132 := n0_; have HB := n1_; have HO144 := n2_; clear n0_ n1_ n2_; clear ho hb hg hat; have hcz21_0 : w20.cell? ⟨gb132, 0, none⟩ = some (.int .i64 a1_0) := (blk_cell BK132.out 0).trans rfl; have hcz21_1 : w20.cell? ⟨gb132, 1, none⟩ = some (.int .i64 a1_1) := (blk_cell BK132.out 1).trans rfl; have hcz21_2 : w20.cell? ⟨gb132, 2, none⟩ = some (.int .i64 a1_2) := (blk_cell BK132.out 2).trans rfl; have hfz21_0 := blk_frozen BK132.out 0; have hfz21_1 := blk_frozen BK132.out 1; have hfz21_2 := blk_frozen BK132.out 2) | ((with_reducible refine gate_builtin (b := .append) (xs := #[.tmp 27, .tmp 29]) rfl ?_); at_builtin; refine Kd.R_append k44 (w0 := w) w.heap.size rfl (.tmp 27) (.tmp 29) 40 44 (.agg #[(.int .i64 0), (.int .i64 0), (.int .i64 0)]) 24 rfl Try.underlying40 info44 rfl (by decide) (by omega) v143 y142 (⟨a1_0, a1_1, a1_2⟩ : S44) [.int .i64 a1_0, .int .i64 a1_1, .int .i64 a1_2] (fun k_ => k_ ≠ gb132) (fun _ => False) rfl rfl ?aP (fun _ hk => hk.elim) ?aF ?aO ?aB ?aS ?aL ?_; (case aP => exact k44_mkM _ _ _ (⟨a1_0, a1_1, a1_2⟩ : S44)); (case aB => exact (by repeat (first | (with_reducible first | exact HB.out | apply below_alloc | apply pw_below_drewN | apply below_drew1 | refine below_set ?_ GE132.out) | exact HB.out))); (case aF => exact (fun k_ hk => Kd.freshB (g := gb132) (o := .cells #[.int .i64 a1_0, .int .i64 a1_1, .int .i64 a1_2] 44 (0, 0)) (by (with_reducible repeat (first | refine blk_drewN ?_ _ | refine blk_drew ?_ | refine blk_alloc ?_ _)); exact BK132.out) k_ hk)); (case aO => exact (by (with_reducible repeat (first | apply Kd.R_alloc | apply Kd.R_drewN | apply Kd.R_drew)); exact HO144.out)); (case aS => exact (below_size (by repeat (first | (with_reducible first | exact HB.out | apply below_alloc | apply pw_below_drewN | apply below_drew1 | refine below_set ?_ GE132.out) | exact HB.out)))); (case aL => have := LMc11.out; omega); intro v146 w22 ho hb hg hat; rw [← Ny145.out] at ho; have n0_ := Aside0.mk (blk_grown (g := gb132) (o := .cells #[.int .i64 a1_0, .int .i64 a1_1, .int .i64 a1_2] 44 (0, 0)) (by (with_reducible repeat (first | refine blk_drewN ?_ _ | refine blk_drew ?_ | refine blk_alloc ?_ _)); exact BK132.out) hg (Kd.R_away HO144.out (fun _ hk => hk))); have n1_ := Aside0.mk (hb); have n2_ := Aside0.mk (ho); clear BK132; clear HB; clear HO144; have BK132 := n0_; have HB := n1_; have HO147 := n2_; clear n0_ n1_ n2_; clear ho hb hg hat; have q23 : (x5_1 : Int) ≤ ((l0.length : Int) : Int) := of_decide_eq_true (by first | (with_reducible assumption) | assumption); obtain ⟨i023, hi023, _, hsz23, _⟩ := info_parts info44; have hroom23 : l0.length ≤ c0 := HC0.out; have hC23 : Kd.C k44 _ (some ad133) l0.length l0 := HR0.out; have q023 : (0 : Int) ≤ (x5_1 : Int) := of_decide_eq_true (by first | (with_reducible assumption) | assumption); have hcut23 := cut_from (P := Try.prog) 40 44 .i64 Try.underlying40 hi023 3 hsz23 (some ad133) l0.length c0 x5_1 q023 q23; have hr23 := Kd.C_drop (m := (x5_1 : Int).toNat) (c := c0) hC23 (by omega) hroom23; obtain ⟨A23, hA23⟩ : ∃ A1, A1 = (if c0 = (x5_1 : Int).toNat then (some ad133) else ((some ad133) : Option Addr).map (·.add ((x5_1 : Int).toNat * 3))) := ⟨_, rfl⟩; obtain ⟨c23, hc23⟩ : ∃ c1, c1 = c0 - (x5_1 : Int).toNat := ⟨_, rfl⟩; have hy23 : y148.length = l0.length - (x5_1 : Int).toNat := (by rw [Ny148.out, List.length_drop] <;> omega); rw [show (l0).drop (x5_1 : Int).toNat = y148 from Ny148.out.symm] at hr23; replace hr23 : Kd.C k44 _ A23 y148.length y148 := (by rw [hA23]; exact hr23); rw [← hy23, ← hA23, ← hc23] at hcut23; have HR151 := Aside0.mk hr23; have HC151 := Aside0.mk (show y148.length ≤ c23 from by rw [hy23, hc23]; exact Nat.sub_le_sub_right hroom23 _); clear hr23 hC23 hroom23 hi023 hsz23 hc23; have KY23 := Aside0.mk hy23; have KA23 := Aside0.mk hA23; clear hy23 hA23; replace q23 := eq_true q23) | ((with_reducible refine gate_builtin (b := .append) (xs := #[.tmp 31, .tmp 34]) rfl ?_); at_builtin; refine Kd.R_append_rows k44 (w0 := w) w.heap.size rfl (.tmp 31) (.tmp 34) 40 44 (.agg #[(.int .i64 0), (.int .i64 0), (.int .i64 0)]) 24 rfl Try.underlying40 info44 rfl (by decide) (by omega) v146 y145 y148 _ _ _ (fun k_ => k_ ≠ gb132) (fun _ => False) rfl rfl ?aO ?aR (fun _ _ h => h) (fun _ h => h.elim) ?aF ?aB ?aS ?aL ?_; (case aR => repeat (first | exact (Kd.C_below HR151.out HB.out) | (with_reducible refine Kd.C_alloc ?_ _) | (with_reducible refine Kd.C_drewN ?_ _) | (with_reducible refine Kd.C_drew ?_))); (case aB => exact (by repeat (first | (with_reducible first | exact HB.out | apply below_alloc | apply pw_below_drewN | apply below_drew1 | refine below_set ?_ GE132.out) | exact HB.out))); (case aF => exact (fun k_ hk => Kd.freshB (g := gb132) (o := .cells #[.int .i64 a1_0, .int .i64 a1_1, .int .i64 a1_2] 44 (0, 0)) (by (with_reducible repeat (first | refine blk_drewN ?_ _ | refine blk_drew ?_ | refine blk_alloc ?_ _)); exact BK132.out) k_ hk)); (case aO => exact (by (with_reducible repeat (first | apply Kd.R_alloc | apply Kd.R_drewN | apply Kd.R_drew)); exact HO147.out)); (case aS => exact (below_size (by repeat (first | (with_reducible first | exact HB.out | apply below_alloc | apply pw_below_drewN | apply below_drew1 | refine below_set ?_ GE132.out) | exact HB.out)))); (case aL => have := LMc14.out; omega); intro v153 w24 ho hb hg hat; rw [← Ny152.out] at ho; have n0_ := Aside0.mk (blk_grown (g := gb132) (o := .cells #[.int .i64 a1_0, .int .i64 a1_1, .int .i64 a1_2] 44 (0, 0)) (by (with_reducible repeat (first | refine blk_drewN ?_ _ | refine blk_drew ?_ | refine blk_alloc ?_ _)); exact BK132.out) hg (Kd.R_away HO147.out (fun _ hk => hk))); have n1_ := Aside0.mk (hb); have n2_ := Aside0.mk (ho); clear BK132; clear HB; clear HO147; have BK132 := n0_; have HB := n1_; have HO154 := n2_; clear n0_ n1_ n2_; clear ho hb hg hat))
                    go_ret
                    exact ⟨_, by first | rfl | (simp [errW_none, errW_some] <;> rfl) | (simp [*, errW_none, errW_some] <;> rfl), by (with_reducible repeat (first | apply Kd.R_alloc | apply Kd.R_drewN | apply Kd.R_drew)); exact Kd.R_mono HO154.out (fun _ hk => trivial), by repeat (first | (with_reducible first | exact HB.out | apply below_alloc | apply pw_below_drewN | apply below_drew1 | refine below_set ?_ GE132.out) | exact HB.out)⟩
                  · rw [if_neg c14] at H
                    exact absurd H (by simp)
                · rw [if_neg c11] at H
                  exact absurd H (by simp)
              · rw [if_neg c10] at H
                exact absurd H (by simp)
            · rw [if_neg c9] at H
              exact absurd H (by simp)
          · replace c7 := Bool.eq_false_iff.mpr c7
            subst c7
            have H1 : (catafalqueref12_Push.l0 k1 l0 (wrap64 (x5_1 + 1)) a1_0 a1_1 a1_2) = some r := by rw [if_neg (show ¬ (false = true) by decide)] at H; exact H
            clear H
            have H := H1
            clear H1
            have H' := Aside0.mk H
            clear H
            try go_wp2
            have n0_ := Aside0.mk (blk_drew BK132.out)
            have n1_ := Aside0.mk (below_drew1 HB.out)
            clear BK132
            clear HB
            have BK132 := n0_
            have HB := n1_
            clear n0_ n1_
            have p133 : 0 ≤ (x5_1 : Int) := of_decide_eq_true (by first | (with_reducible assumption) | assumption)
            have q133 : x5_1 < (l0.length : Int) := of_decide_eq_true (by first | (with_reducible assumption) | assumption)
            obtain ⟨ad133, e133, hx133_0, hx133_1, hx133_2⟩ := at_T44 HR0.out x5_1 p133 q133
            have hw133_2 := hx133_2
            have hw133_1 := hx133_1
            have hw133_0 := hx133_0
            cases e133
            replace hx133_0 := (HB.out.cell (World.block_lt_of_cell? w _ hx133_0)).trans hx133_0
            replace hx133_1 := (HB.out.cell (World.block_lt_of_cell? w _ hx133_1)).trans hx133_1
            replace hx133_2 := (HB.out.cell (World.block_lt_of_cell? w _ hx133_2)).trans hx133_2
            replace p133 := eq_true p133
            replace q133 := eq_true q133
            refine start_ (n := 13) (S := fun w' => w'.cell? ⟨gb132, 0, none⟩ = some (.int .i64 a1_0) ∧ w'.cell? ⟨gb132, 1, none⟩ = some (.int .i64 a1_1) ∧ w'.cell? ⟨gb132, 2, none⟩ = some (.int .i64 a1_2) ∧ w'.cell? (ad133.add ((x5_1).toNat * 3)) = some (.int .i64 ((rd_T44 l0 x5_1).f0)) ∧ w'.cell? ⟨(ad133.add ((x5_1).toNat * 3)).block, (ad133.add ((x5_1).toNat * 3)).off + 1, none⟩ = some (.int .i64 ((rd_T44 l0 x5_1).f1)) ∧ w'.cell? ⟨(ad133.add ((x5_1).toNat * 3)).block, (ad133.add ((x5_1).toNat * 3)).off + 2, none⟩ = some (.int .i64 ((rd_T44 l0 x5_1).f2))) (ds := []) #[false, false, false, false, false, false, false, false, false, false, false, false, false] (by kernel_rfl) rfl rfl ⟨(blk_cell BK132.out 0).trans rfl, (blk_cell BK132.out 1).trans rfl, (blk_cell BK132.out 2).trans rfl, ((HB.out.cell (World.block_lt_of_cell? w _ hw133_0)).trans hw133_0), ((HB.out.cell (World.block_lt_of_cell? w _ hw133_1)).trans hw133_1), ((HB.out.cell (World.block_lt_of_cell? w _ hw133_2)).trans hw133_2)⟩ (fun hHeld => ?_); refine with_tabW catafalqueref12_Push.tab2 catafalqueref12_Push.bits2 (fun HT_ HW_ => ?_)
            generalize wr.drew = w25 at BK132 HB hx133_0 hx133_1 hx133_2 hHeld ⊢
            refine pure_ (i := 0) (N := some 7) (v := ?_) (a' := ?_) #[true, false, false, false, false, false, false, false, false, false, false, false, false] rfl rfl (any_of HT_.out (by kernel_rfl)) (fun _ _ _ h => h) (Or.inl ⟨by rfl, ?_⟩) ?_ ?_
            rotate_left
            · intro w'
              go_simp
              with_reducible rfl
            rotate_left
            · simp only [Act.put, List.setIfInBounds_toArray, List.set_cons_zero, List.set_cons_succ, i64_w, i32_w]
              rfl
            refine pure_ (i := 1) (N := some 8) (v := ?_) (a' := ?_) #[true, true, false, false, false, false, false, false, false, false, false, false, false] rfl rfl (any_of HT_.out (by kernel_rfl)) (fun _ _ _ h => h) (Or.inl ⟨by rfl, ?_⟩) ?_ ?_
            rotate_left
            · intro w'
              go_simp
              with_reducible rfl
            rotate_left
            · simp only [Act.put, List.setIfInBounds_toArray, List.set_cons_zero, List.set_cons_succ, i64_w, i32_w]
              rfl
            refine pure_ (i := 2) (N := some 9) (v := ?_) (a' := ?_) #[true, true, true, false, false, false, false, false, false, false, false, false, false] rfl rfl (any_of HT_.out (by kernel_rfl)) (fun _ _ _ h => h) (Or.inl ⟨by rfl, ?_⟩) ?_ ?_
            rotate_left
            · intro w'
              go_simp
              with_reducible rfl
            rotate_left
            · simp only [Act.put, List.setIfInBounds_toArray, List.set_cons_zero, List.set_cons_succ, i64_w, i32_w]
              rfl
            refine pure_ (i := 3) (N := some 10) (v := ?_) (a' := ?_) #[true, true, true, true, false, false, false, false, false, false, false, false, false] rfl rfl (any_of HT_.out (by kernel_rfl)) (fun _ _ _ h => h) (Or.inl ⟨by rfl, ?_⟩) ?_ ?_
            rotate_left
            · intro w'
              go_simp
              with_reducible rfl
            rotate_left
            · simp only [Act.put, List.setIfInBounds_toArray, List.set_cons_zero, List.set_cons_succ, i64_w, i32_w]
              rfl
            refine pure_ (i := 4) (N := some 11) (v := ?_) (a' := ?_) #[true, true, true, true, true, false, false, false, false, false, false, false, false] rfl rfl (any_of HT_.out (by kernel_rfl)) (fun _ _ _ h => h) (Or.inl ⟨by rfl, ?_⟩) ?_ ?_
            rotate_left
            · intro w'
              go_simp
              with_reducible rfl
            rotate_left
            · simp only [Act.put, List.setIfInBounds_toArray, List.set_cons_zero, List.set_cons_succ, i64_w, i32_w]
              rfl
            refine pure_ (i := 6) (N := some 13) (v := ?_) (a' := ?_) #[true, true, true, true, true, false, true, false, false, false, false, false, false] rfl rfl (any_of HT_.out (by kernel_rfl)) (fun _ _ _ h => h) (Or.inl ⟨by rfl, ?_⟩) ?_ ?_
            rotate_left
            · intro w'
              go_simp
              with_reducible rfl
            rotate_left
            · simp only [Act.put, List.setIfInBounds_toArray, List.set_cons_zero, List.set_cons_succ, i64_w, i32_w]
              rfl
            refine pure_ (i := 7) (N := some 14) (v := ?_) (a' := ?_) #[true, true, true, true, true, false, true, true, false, false, false, false, false] rfl rfl (any_of HT_.out (by kernel_rfl)) (fun _ _ _ h => h) (Or.inl ⟨by rfl, ?_⟩) ?_ ?_
            rotate_left
            · intro w'
              go_simp
              with_reducible rfl
            rotate_left
            · simp only [Act.put, List.setIfInBounds_toArray, List.set_cons_zero, List.set_cons_succ, i64_w, i32_w]
              rfl
            refine pure_ (i := 8) (N := some 15) (v := ?_) (a' := ?_) #[true, true, true, true, true, false, true, true, true, false, false, false, false] rfl rfl (any_of HT_.out (by kernel_rfl)) (fun _ _ _ h => h) (Or.inl ⟨by rfl, ?_⟩) ?_ ?_
            rotate_left
            · intro w'
              go_simp
              with_reducible rfl
            rotate_left
            · simp only [Act.put, List.setIfInBounds_toArray, List.set_cons_zero, List.set_cons_succ, i64_w, i32_w]
              rfl
            refine take_ (i := 5) (N := some 12) (v := ?_) (a' := ?_) #[true, true, true, true, true, true, true, true, true, false, false, false, false] rfl rfl (take_ofW HT_.out HW_.out (by kernel_rfl)) (fun _ _ _ h => h) (Or.inl ⟨by rfl, ?_⟩) hHeld ?_ ?_
            rotate_left
            · rintro w' ⟨s0, s1, s2, s3, s4, s5⟩
              go_simp
              with_reducible rfl
            rotate_left
            · simp only [Act.put, List.setIfInBounds_toArray, List.set_cons_zero, List.set_cons_succ, i64_w, i32_w]
              rfl
            refine take_ (i := 9) (N := some 16) (v := ?_) (a' := ?_) #[true, true, true, true, true, true, true, true, true, true, false, false, false] rfl rfl (take_ofW HT_.out HW_.out (by kernel_rfl)) (fun _ _ _ h => h) (Or.inl ⟨by rfl, ?_⟩) hHeld ?_ ?_
            rotate_left
            · rintro w' ⟨s0, s1, s2, s3, s4, s5⟩
              go_simp
              with_reducible rfl
            rotate_left
            · simp only [Act.put, List.setIfInBounds_toArray, List.set_cons_zero, List.set_cons_succ, i64_w, i32_w]
              rfl
            refine one_ (i := 10) (N := some 17) #[true, true, true, true, true, true, true, true, true, true, true, false, false] rfl rfl (one_of HT_.out (by kernel_rfl)) (by decide) (fun K hK => ?_)
            refine goes_ Try.func30 (by kernel_rfl) rfl #[.agg #[.int .i64 a1_0, .int .i64 a1_1, .int .i64 a1_2], .agg #[.int .i64 ((rd_T44 l0 x5_1).f0), .int .i64 ((rd_T44 l0 x5_1).f1), .int .i64 ((rd_T44 l0 x5_1).f2)]] (by rfl) rfl rfl (by (try simp only [List.map_toArray, List.map_cons, List.map_nil]); first | done | rfl | (simp only [List.length_drop, List.length_take]; rfl)) ?_
            with_reducible refine (catafalqueref12_Ahead.calls a1_0 a1_1 a1_2 ((rd_T44 l0 x5_1).f0) ((rd_T44 l0 x5_1).f1) ((rd_T44 l0 x5_1).f2) false _ A6.out).mono ?_
            rintro e w26 ⟨rfl, hb⟩
            refine ⟨_, rfl, ?_⟩
            have n0_ := Aside0.mk (blk_below (g := gb132) (o := .cells #[.int .i64 a1_0, .int .i64 a1_1, .int .i64 a1_2] 44 (0, 0)) (by (with_reducible repeat (first | refine blk_drewN ?_ _ | refine blk_drew ?_ | refine blk_alloc ?_ _)); exact BK132.out) hb)
            have n1_ := Aside0.mk (below_step (by repeat (first | (with_reducible first | exact HB.out | apply below_alloc | apply pw_below_drewN | apply below_drew1 | refine below_set ?_ GE132.out) | exact HB.out)) hb)
            clear BK132
            clear HB
            have BK132 := n0_
            have HB := n1_
            clear n0_ n1_
            (try clear hb)
            (try clear hb2)
            (try clear hk)
            (try clear hi)
            refine hK.out _ _ ⟨(blk_cell BK132.out 0).trans rfl, (blk_cell BK132.out 1).trans rfl, (blk_cell BK132.out 2).trans rfl, ((HB.out.cell (World.block_lt_of_cell? w _ hw133_0)).trans hw133_0), ((HB.out.cell (World.block_lt_of_cell? w _ hw133_1)).trans hw133_1), ((HB.out.cell (World.block_lt_of_cell? w _ hw133_2)).trans hw133_2)⟩ (fun hHeld => ?_)
            clear hK K
            refine norm_ (a' := ?_) ?_ ?_
            rotate_left
            · show Act.put _ (some 17) _ = _
              simp only [Act.put, List.setIfInBounds_toArray, List.set_cons_zero, List.set_cons_succ, i64_w, i32_w]
              rfl
            refine pure_ (i := 11) (N := some 18) (v := ?_) (a' := ?_) #[true, true, true, true, true, true, true, true, true, true, true, true, false] rfl rfl (any_of HT_.out (by kernel_rfl)) (fun _ _ _ h => h) (Or.inl ⟨by rfl, ?_⟩) ?_ ?_
            rotate_left
            · intro w'
              go_simp
              with_reducible rfl
            rotate_left
            · simp only [Act.put, List.setIfInBounds_toArray, List.set_cons_zero, List.set_cons_succ, i64_w, i32_w]
              rfl
            refine pure_ (i := 12) (N := some 19) (v := ?_) (a' := ?_) #[true, true, true, true, true, true, true, true, true, true, true, true, true] rfl rfl (any_of HT_.out (by kernel_rfl)) (fun _ _ _ h => h) (Or.inl ⟨by rfl, ?_⟩) ?_ ?_
            rotate_left
            · intro w'
              go_simp
              with_reducible rfl
            rotate_left
            · simp only [Act.put, List.setIfInBounds_toArray, List.set_cons_zero, List.set_cons_succ, i64_w, i32_w]
              rfl
            refine done_ (done_of HT_.out (by kernel_rfl)) ?_
            try go_wp2
            go_roundg k1
            case measure => have := HK1.out; omega
            case rel => exact ⟨(wrap64 (x5_1 + 1)), (by first | rfl | (simp; done) | (simp [*]; done)), H', ⟨by have := HK1.out; omega⟩, ⟨by (with_reducible repeat (first | refine blk_drewN ?_ _ | refine blk_drew ?_ | refine blk_alloc ?_ _)); exact BK132.out⟩, ⟨by repeat (first | (with_reducible first | exact HB.out | apply below_alloc | apply pw_below_drewN | apply below_drew1 | refine below_set ?_ GE132.out) | exact HB.out)⟩⟩
        · rw [if_neg c5] at H
          exact absurd H (by simp)
      · rw [if_neg c4] at H
        have c4b0 : decide (x5_1 < (l0.length : Int)) = false := decide_eq_false c4
        clear c4
        obtain ⟨y155, hy155⟩ : ∃ y_ : List (S44), y_ = (([] : List (S44))) := ⟨_, rfl⟩
        replace H : (if 0 ≤ x5_1 then (if x5_1 ≤ (l0.length : Int) then ((some (l0.take (x5_1 : Int).toNat : List (S44))).bind fun y158 => (if y155.length + y158.length < 5864062014805 then ((some (y155 ++ y158 : List (S44))).bind fun y162 => (if y162.length < 5864062014805 then ((some (y162 ++ [(⟨a1_0, a1_1, a1_2⟩ : S44)] : List (S44))).bind fun y165 => ((some (l0.drop (x5_1 : Int).toNat : List (S44))).bind fun y168 => (if y165.length + y168.length < 5864062014805 then (some (y165 ++ y168)) else (none)))) else (none))) else (none))) else (none)) else (none)) = some r := by first | (rw [hy155]; with_reducible exact H) | (have H2_ := (Option.bind_some _ _).symm.trans H; rw [hy155]; with_reducible exact H2_) | (have H2_ := (Option.bind_some _ _).symm.trans H; with_reducible exact H2_) | with_reducible exact H | (rw [hy155]; exact H) | exact H
        have Ny155 := Aside0.mk hy155
        clear hy155
        by_cases c27 : 0 ≤ x5_1
        · rw [if_pos c27] at H
          have c27b0 := eq_true c27
          have c27b1 : decide (0 ≤ x5_1) = true := decide_eq_true c27
          clear c27
          by_cases c28 : x5_1 ≤ (l0.length : Int)
          · rw [if_pos c28] at H
            have c28b0 := eq_true c28
            have c28b1 : decide (x5_1 ≤ (l0.length : Int)) = true := decide_eq_true c28
            clear c28
            obtain ⟨y158, hy158⟩ : ∃ y_ : List (S44), y_ = (l0.take (x5_1 : Int).toNat) := ⟨_, rfl⟩
            replace H : (if y155.length + y158.length < 5864062014805 then ((some (y155 ++ y158 : List (S44))).bind fun y162 => (if y162.length < 5864062014805 then ((some (y162 ++ [(⟨a1_0, a1_1, a1_2⟩ : S44)] : List (S44))).bind fun y165 => ((some (l0.drop (x5_1 : Int).toNat : List (S44))).bind fun y168 => (if y165.length + y168.length < 5864062014805 then (some (y165 ++ y168)) else (none)))) else (none))) else (none)) = some r := by first | (rw [hy158]; with_reducible exact H) | (have H2_ := (Option.bind_some _ _).symm.trans H; rw [hy158]; with_reducible exact H2_) | (have H2_ := (Option.bind_some _ _).symm.trans H; with_reducible exact H2_) | with_reducible exact H | (rw [hy158]; exact H) | exact H
            have Ny158 := Aside0.mk hy158
            clear hy158
            by_cases c29 : y155.length + y158.length < 5864062014805
            · rw [if_pos c29] at H
              have LMc29 := Aside0.mk c29
              clear c29
              obtain ⟨y162, hy162⟩ : ∃ y_ : List (S44), y_ = (y155 ++ y158) := ⟨_, rfl⟩
              replace H : (if y162.length < 5864062014805 then ((some (y162 ++ [(⟨a1_0, a1_1, a1_2⟩ : S44)] : List (S44))).bind fun y165 => ((some (l0.drop (x5_1 : Int).toNat : List (S44))).bind fun y168 => (if y165.length + y168.length < 5864062014805 then (some (y165 ++ y168)) else (none)))) else (none)) = some r := by first | (rw [hy162]; with_reducible exact H) | (have H2_ := (Option.bind_some _ _).symm.trans H; rw [hy162]; with_reducible exact H2_) | (have H2_ := (Option.bind_some _ _).symm.trans H; with_reducible exact H2_) | with_reducible exact H | (rw [hy162]; exact H) | exact H
              have Ny162 := Aside0.mk hy162
              clear hy162
              by_cases c30 : y162.length < 5864062014805
              · rw [if_pos c30] at H
                have LMc30 := Aside0.mk c30
                clear c30
                obtain ⟨y165, hy165⟩ : ∃ y_ : List (S44), y_ = (y162 ++ [(⟨a1_0, a1_1, a1_2⟩ : S44)]) := ⟨_, rfl⟩
                replace H : ((some (l0.drop (x5_1 : Int).toNat : List (S44))).bind fun y168 => (if y165.length + y168.length < 5864062014805 then (some (y165 ++ y168)) else (none))) = some r := by first | (rw [hy165]; with_reducible exact H) | (have H2_ := (Option.bind_some _ _).symm.trans H; rw [hy165]; with_reducible exact H2_) | (have H2_ := (Option.bind_some _ _).symm.trans H; with_reducible exact H2_) | with_reducible exact H | (rw [hy165]; exact H) | exact H
                have Ny165 := Aside0.mk hy165
                clear hy165
                have c31b0 := eq_true (of_decide_eq_true (by first | (with_reducible assumption) | assumption) : 0 ≤ x5_1)
                have c32b0 := eq_true (of_decide_eq_true (by first | (with_reducible assumption) | assumption) : x5_1 ≤ (l0.length : Int))
                obtain ⟨y168, hy168⟩ : ∃ y_ : List (S44), y_ = (l0.drop (x5_1 : Int).toNat) := ⟨_, rfl⟩
                replace H : (if y165.length + y168.length < 5864062014805 then (some (y165 ++ y168)) else (none)) = some r := by first | (rw [hy168]; with_reducible exact H) | (have H2_ := (Option.bind_some _ _).symm.trans H; rw [hy168]; with_reducible exact H2_) | (have H2_ := (Option.bind_some _ _).symm.trans H; with_reducible exact H2_) | with_reducible exact H | (rw [hy168]; exact H) | exact H
                have Ny168 := Aside0.mk hy168
                clear hy168
                by_cases c33 : y165.length + y168.length < 5864062014805
                · rw [if_pos c33] at H
                  have LMc33 := Aside0.mk c33
                  clear c33
                  obtain ⟨y172, hy172⟩ : ∃ y_ : List (S44), y_ = (y165 ++ y168) := ⟨_, rfl⟩
                  replace H : (some y172) = some r := by first | (rw [hy172]; with_reducible exact H) | (have H2_ := (Option.bind_some _ _).symm.trans H; rw [hy172]; with_reducible exact H2_) | (have H2_ := (Option.bind_some _ _).symm.trans H; with_reducible exact H2_) | with_reducible exact H | (rw [hy172]; exact H) | exact H
                  have Ny172 := Aside0.mk hy172
                  clear hy172
                  obtain rfl := Option.some.inj H
                  try go_wp2
                  have n0_ := Aside0.mk (blk_drew BK132.out)
                  have n1_ := Aside0.mk (below_drew1 HB.out)
                  clear BK132
                  clear HB
                  have BK132 := n0_
                  have HB := n1_
                  clear n0_ n1_
                  refine start_ (n := 13) (S := fun w' => True) (ds := []) #[false, false, false, false, false, false, false, false, false, false, false, false, false] (by kernel_rfl) rfl rfl trivial (fun hHeld => ?_); refine with_tabW catafalqueref12_Push.tab2 catafalqueref12_Push.bits2 (fun HT_ HW_ => ?_)
                  generalize wr.drew = w34 at BK132 HB hHeld ⊢
                  refine pure_ (i := 0) (N := some 7) (v := ?_) (a' := ?_) #[true, false, false, false, false, false, false, false, false, false, false, false, false] rfl rfl (any_of HT_.out (by kernel_rfl)) (fun _ _ _ h => h) (Or.inl ⟨by rfl, ?_⟩) ?_ ?_
                  rotate_left
                  · intro w'
                    go_simp
                    with_reducible rfl
                  rotate_left
                  · simp only [Act.put, List.setIfInBounds_toArray, List.set_cons_zero, List.set_cons_succ, i64_w, i32_w]
                    rfl
                  refine pure_ (i := 1) (N := some 8) (v := ?_) (a' := ?_) #[true, true, false, false, false, false, false, false, false, false, false, false, false] rfl rfl (any_of HT_.out (by kernel_rfl)) (fun _ _ _ h => h) (Or.inl ⟨by rfl, ?_⟩) ?_ ?_
                  rotate_left
                  · intro w'
                    go_simp
                    with_reducible rfl
                  rotate_left
                  · simp only [Act.put, List.setIfInBounds_toArray, List.set_cons_zero, List.set_cons_succ, i64_w, i32_w]
                    rfl
                  refine pure_ (i := 2) (N := some 9) (v := ?_) (a' := ?_) #[true, true, true, false, false, false, false, false, false, false, false, false, false] rfl rfl (any_of HT_.out (by kernel_rfl)) (fun _ _ _ h => h) (Or.inl ⟨by rfl, ?_⟩) ?_ ?_
                  rotate_left
                  · intro w'
                    go_simp
                    with_reducible rfl
                  rotate_left
                  · simp only [Act.put, List.setIfInBounds_toArray, List.set_cons_zero, List.set_cons_succ, i64_w, i32_w]
                    rfl
                  refine pure_ (i := 3) (N := some 10) (v := ?_) (a' := ?_) #[true, true, true, true, false, false, false, false, false, false, false, false, false] rfl rfl (any_of HT_.out (by kernel_rfl)) (fun _ _ _ h => h) (Or.inl ⟨by rfl, ?_⟩) ?_ ?_
                  rotate_left
                  · intro w'
                    go_simp
                    with_reducible rfl
                  rotate_left
                  · simp only [Act.put, List.setIfInBounds_toArray, List.set_cons_zero, List.set_cons_succ, i64_w, i32_w]
                    rfl
                  refine pure_ (i := 4) (N := some 11) (v := ?_) (a' := ?_) #[true, true, true, true, true, false, false, false, false, false, false, false, false] rfl rfl (any_of HT_.out (by kernel_rfl)) (fun _ _ _ h => h) (Or.inl ⟨by rfl, ?_⟩) ?_ ?_
                  rotate_left
                  · intro w'
                    go_simp
                    with_reducible rfl
                  rotate_left
                  · simp only [Act.put, List.setIfInBounds_toArray, List.set_cons_zero, List.set_cons_succ, i64_w, i32_w]
                    rfl
                  refine pure_ (i := 5) (N := some 12) (v := undef) (a' := ?_) #[true, true, true, true, true, true, false, false, false, false, false, false, false] rfl rfl (any_of HT_.out (by kernel_rfl)) (fun _ _ _ h => h) (Or.inr ⟨by rfl, rfl⟩) ?_ ?_
                  rotate_left
                  · simp only [Act.put, List.setIfInBounds_toArray, List.set_cons_zero, List.set_cons_succ, i64_w, i32_w]
                    rfl
                  refine pure_ (i := 6) (N := some 13) (v := undef) (a' := ?_) #[true, true, true, true, true, true, true, false, false, false, false, false, false] rfl rfl (any_of HT_.out (by kernel_rfl)) (fun _ _ _ h => h) (Or.inr ⟨by rfl, rfl⟩) ?_ ?_
                  rotate_left
                  · simp only [Act.put, List.setIfInBounds_toArray, List.set_cons_zero, List.set_cons_succ, i64_w, i32_w]
                    rfl
                  refine pure_ (i := 7) (N := some 14) (v := undef) (a' := ?_) #[true, true, true, true, true, true, true, true, false, false, false, false, false] rfl rfl (any_of HT_.out (by kernel_rfl)) (fun _ _ _ h => h) (Or.inr ⟨by rfl, rfl⟩) ?_ ?_
                  rotate_left
                  · simp only [Act.put, List.setIfInBounds_toArray, List.set_cons_zero, List.set_cons_succ, i64_w, i32_w]
                    rfl
                  refine pure_ (i := 8) (N := some 15) (v := undef) (a' := ?_) #[true, true, true, true, true, true, true, true, true, false, false, false, false] rfl rfl (any_of HT_.out (by kernel_rfl)) (fun _ _ _ h => h) (Or.inr ⟨by rfl, rfl⟩) ?_ ?_
                  rotate_left
                  · simp only [Act.put, List.setIfInBounds_toArray, List.set_cons_zero, List.set_cons_succ, i64_w, i32_w]
                    rfl
                  refine pure_ (i := 9) (N := some 16) (v := undef) (a' := ?_) #[true, true, true, true, true, true, true, true, true, true, false, false, false] rfl rfl (any_of HT_.out (by kernel_rfl)) (fun _ _ _ h => h) (Or.inr ⟨by rfl, rfl⟩) ?_ ?_
                  rotate_left
                  · simp only [Act.put, List.setIfInBounds_toArray, List.set_cons_zero, List.set_cons_succ, i64_w, i32_w]
                    rfl
                  refine pure_ (i := 10) (N := some 17) (v := undef) (a' := ?_) #[true, true, true, true, true, true, true, true, true, true, true, false, false] rfl rfl (any_of HT_.out (by kernel_rfl)) (fun _ _ _ h => h) (Or.inr ⟨by rfl, rfl⟩) ?_ ?_
                  rotate_left
                  · simp only [Act.put, List.setIfInBounds_toArray, List.set_cons_zero, List.set_cons_succ, i64_w, i32_w]
                    rfl
                  refine pure_ (i := 11) (N := some 18) (v := undef) (a' := ?_) #[true, true, true, true, true, true, true, true, true, true, true, true, false] rfl rfl (any_of HT_.out (by kernel_rfl)) (fun _ _ _ h => h) (Or.inr ⟨by rfl, rfl⟩) ?_ ?_
                  rotate_left
                  · simp only [Act.put, List.setIfInBounds_toArray, List.set_cons_zero, List.set_cons_succ, i64_w, i32_w]
                    rfl
                  refine pure_ (i := 12) (N := some 19) (v := ?_) (a' := ?_) #[true, true, true, true, true, true, true, true, true, true, true, true, true] rfl rfl (any_of HT_.out (by kernel_rfl)) (fun _ _ _ h => h) (Or.inl ⟨by rfl, ?_⟩) ?_ ?_
                  rotate_left
                  · intro w'
                    go_simp
                    with_reducible rfl
                  rotate_left
                  · simp only [Act.put, List.setIfInBounds_toArray, List.set_cons_zero, List.set_cons_succ, i64_w, i32_w]
                    rfl
                  refine done_ (done_of HT_.out (by kernel_rfl)) ?_
                  try go_wp2_with (first | ((with_reducible refine gate_dst (N := 22) rfl ?_); refine Kd.R_lit k44 _ 44 ?hg (N := 22) ?hd (xs := ([] : List (S44))) (inner := []) (ok := fun _ => True) (okp := fun _ => True) ?hr ?hp (fun _ hk => hk) trivial (Below.refl _ _) (Nat.le_refl _) (by simp) ?_; (case hd => rfl); (case hg => rfl); (case hr => first | (go_simp; done) | (go_simp; rfl)); (case hp => exact (Reps.none _ _)); intro v156 w35 ho36 hb hg_ hnew_; clear hg_ hnew_; (first | rw [← Ny155.out] at ho36 | (simp only [Int.reduceToNat] at ho36; rw [← Ny155.out] at ho36)); have n0_ := Aside0.mk (Kd.R_lower (Kd.R_newB ho36 (g := gb132) (o := .cells #[.int .i64 a1_0, .int .i64 a1_1, .int .i64 a1_2] 44 (0, 0)) (by (with_reducible repeat (first | refine blk_drewN ?_ _ | refine blk_drew ?_ | refine blk_alloc ?_ _)); exact BK132.out)) (below_size (by repeat (first | (with_reducible first | exact HB.out | apply below_alloc | apply pw_below_drewN | apply below_drew1 | refine below_set ?_ GE132.out) | exact HB.out)))); have n1_ := Aside0.mk (blk_below (g := gb132) (o := .cells #[.int .i64 a1_0, .int .i64 a1_1, .int .i64 a1_2] 44 (0, 0)) (by (with_reducible repeat (first | refine blk_drewN ?_ _ | refine blk_drew ?_ | refine blk_alloc ?_ _)); exact BK132.out) hb); have n2_ := Aside0.mk (below_step (by repeat (first | (with_reducible first | exact HB.out | apply below_alloc | apply pw_below_drewN | apply below_drew1 | refine below_set ?_ GE132.out) | exact HB.out)) hb); clear BK132; clear HB; have HO157 := n0_; have BK132 := n1_; have HB := n2_; clear n0_ n1_ n2_; clear hb ho36; have q37 : (x5_1 : Int) ≤ ((l0.length : Int) : Int) := of_decide_eq_true (by first | (with_reducible assumption) | assumption); obtain ⟨i037, hi037, _, hsz37, _⟩ := info_parts info44; have hroom37 : l0.length ≤ c0 := HC0.out; have hC37 : Kd.C k44 _ A0 l0.length l0 := HR0.out; have hcut37 := cut_to (P := Try.prog) 40 44 .i64 Try.underlying40 hi037 A0 l0.length c0 x5_1 (of_decide_eq_true (by first | (with_reducible assumption) | assumption)) q37 hroom37; have hr37 := Kd.C_take (m := (x5_1 : Int).toNat) hC37 (by omega); have hy37 : y158.length = (x5_1 : Int).toNat := (by rw [Ny158.out, List.length_take]; omega); rw [← Ny158.out] at hr37; rw [← hy37] at hcut37; have HR161 := Aside0.mk hr37; have HC161 := Aside0.mk (show y158.length ≤ c0 from by omega); clear hr37 hC37 hroom37 hi037 hsz37; have KY37 := Aside0.mk hy37; clear hy37; replace q37 := eq_true q37) | ((with_reducible refine gate_builtin (b := .append) (xs := #[.tmp 22, .tmp 25]) rfl ?_); at_builtin; refine Kd.R_append_rows k44 (w0 := w) w.heap.size rfl (.tmp 22) (.tmp 25) 40 44 (.agg #[(.int .i64 0), (.int .i64 0), (.int .i64 0)]) 24 rfl Try.underlying40 info44 rfl (by decide) (by omega) v156 y155 y158 _ _ _ (fun k_ => k_ ≠ gb132) (fun _ => False) rfl rfl ?aO ?aR (fun _ _ h => h) (fun _ h => h.elim) ?aF ?aB ?aS ?aL ?_; (case aR => repeat (first | exact (Kd.C_below HR161.out HB.out) | (with_reducible refine Kd.C_alloc ?_ _) | (with_reducible refine Kd.C_drewN ?_ _) | (with_reducible refine Kd.C_drew ?_))); (case aB => exact (by repeat (first | (with_reducible first | exact HB.out | apply below_alloc | apply pw_below_drewN | apply below_drew1 | refine below_set ?_ GE132.out) | exact HB.out))); (case aF => exact (fun k_ hk => Kd.freshB (g := gb132) (o := .cells #[.int .i64 a1_0, .int .i64 a1_1, .int .i64 a1_2] 44 (0, 0)) (by (with_reducible repeat (first | refine blk_drewN ?_ _ | refine blk_drew ?_ | refine blk_alloc ?_ _)); exact BK132.out) k_ hk)); (case aO => exact (by (with_reducible repeat (first | apply Kd.R_alloc | apply Kd.R_drewN | apply Kd.R_drew)); exact Kd.R_mono HO157.out (fun _ hk => hk.2))); (case aS => exact (below_size (by repeat (first | (with_reducible first | exact HB.out | apply below_alloc | apply pw_below_drewN | apply below_drew1 | refine below_set ?_ GE132.out) | exact HB.out)))); (case aL => have := LMc29.out; omega); intro v163 w38 ho hb hg hat; rw [← Ny162.out] at ho; have n0_ := Aside0.mk (blk_grown (g := gb132) (o := .cells #[.int .i64 a1_0, .int .i64 a1_1, .int .i64 a1_2] 44 (0, 0)) (by (with_reducible repeat (first | refine blk_drewN ?_ _ | refine blk_drew ?_ | refine blk_alloc ?_ _)); exact BK132.out) hg (Kd.R_away HO157.out (fun _ hk => hk.2))); have n1_ := Aside0.mk (hb); have n2_ := Aside0.mk (ho); clear BK132; clear HB; clear HO157; have BK132 := n0_; have HB := n1_; have HO164 := n2_; clear n0_ n1_ n2_; clear ho hb hg hat; have hcz39_0 : w38.cell? ⟨gb132, 0, none⟩ = some (.int .i64 a1_0) := (blk_cell BK132.out 0).trans rfl; have hcz39_1 : w38.cell? ⟨gb132, 1, none⟩ = some (.int .i64 a1_1) := (blk_cell BK132.out 1).trans rfl; have hcz39_2 : w38.cell? ⟨gb132, 2, none⟩ = some (.int .i64 a1_2) := (blk_cell BK132.out 2).trans rfl; have hfz39_0 := blk_frozen BK132.out 0; have hfz39_1 := blk_frozen BK132.out 1; have hfz39_2 := blk_frozen BK132.out 2) | ((with_reducible refine gate_builtin (b := .append) (xs := #[.tmp 27, .tmp 29]) rfl ?_); at_builtin; refine Kd.R_append k44 (w0 := w) w.heap.size rfl (.tmp 27) (.tmp 29) 40 44 (.agg #[(.int .i64 0), (.int .i64 0), (.int .i64 0)]) 24 rfl Try.underlying40 info44 rfl (by decide) (by omega) v163 y162 (⟨a1_0, a1_1, a1_2⟩ : S44) [.int .i64 a1_0, .int .i64 a1_1, .int .i64 a1_2] (fun k_ => k_ ≠ gb132) (fun _ => False) rfl rfl ?aP (fun _ hk => hk.elim) ?aF ?aO ?aB ?aS ?aL ?_; (case aP => exact k44_mkM _ _ _ (⟨a1_0, a1_1, a1_2⟩ : S44)); (case aB => exact (by repeat (first | (with_reducible first | exact HB.out | apply below_alloc | apply pw_below_drewN | apply below_drew1 | refine below_set ?_ GE132.out) | exact HB.out))); (case aF => exact (fun k_ hk => Kd.freshB (g := gb132) (o := .cells #[.int .i64 a1_0, .int .i64 a1_1, .int .i64 a1_2] 44 (0, 0)) (by (with_reducible repeat (first | refine blk_drewN ?_ _ | refine blk_drew ?_ | refine blk_alloc ?_ _)); exact BK132.out) k_ hk)); (case aO => exact (by (with_reducible repeat (first | apply Kd.R_alloc | apply Kd.R_drewN | apply Kd.R_drew)); exact HO164.out)); (case aS => exact (below_size (by repeat (first | (with_reducible first | exact HB.out | apply below_alloc | apply pw_below_drewN | apply below_drew1 | refine below_set ?_ GE132.out) | exact HB.out)))); (case aL => have := LMc30.out; omega); intro v166 w40 ho hb hg hat; rw [← Ny165.out] at ho; have n0_ := Aside0.mk (blk_grown (g := gb132) (o := .cells #[.int .i64 a1_0, .int .i64 a1_1, .int .i64 a1_2] 44 (0, 0)) (by (with_reducible repeat (first | refine blk_drewN ?_ _ | refine blk_drew ?_ | refine blk_alloc ?_ _)); exact BK132.out) hg (Kd.R_away HO164.out (fun _ hk => hk))); have n1_ := Aside0.mk (hb); have n2_ := Aside0.mk (ho); clear BK132; clear HB; clear HO164; have BK132 := n0_; have HB := n1_; have HO167 := n2_; clear n0_ n1_ n2_; clear ho hb hg hat; have q41 : (x5_1 : Int) ≤ ((l0.length : Int) : Int) := of_decide_eq_true (by first | (with_reducible assumption) | assumption); obtain ⟨i041, hi041, _, hsz41, _⟩ := info_parts info44; have hroom41 : l0.length ≤ c0 := HC0.out; have hC41 : Kd.C k44 _ A0 l0.length l0 := HR0.out; have q041 : (0 : Int) ≤ (x5_1 : Int) := of_decide_eq_true (by first | (with_reducible assumption) | assumption); have hcut41 := cut_from (P := Try.prog) 40 44 .i64 Try.underlying40 hi041 3 hsz41 A0 l0.length c0 x5_1 q041 q41; have hr41 := Kd.C_drop (m := (x5_1 : Int).toNat) (c := c0) hC41 (by omega) hroom41; obtain ⟨A41, hA41⟩ : ∃ A1, A1 = (if c0 = (x5_1 : Int).toNat then A0 else (A0 : Option Addr).map (·.add ((x5_1 : Int).toNat * 3))) := ⟨_, rfl⟩; obtain ⟨c41, hc41⟩ : ∃ c1, c1 = c0 - (x5_1 : Int).toNat := ⟨_, rfl⟩; have hy41 : y168.length = l0.length - (x5_1 : Int).toNat := (by rw [Ny168.out, List.length_drop] <;> omega); rw [show (l0).drop (x5_1 : Int).toNat = y168 from Ny168.out.symm] at hr41; replace hr41 : Kd.C k44 _ A41 y168.length y168 := (by rw [hA41]; exact hr41); rw [← hy41, ← hA41, ← hc41] at hcut41; have HR171 := Aside0.mk hr41; have HC171 := Aside0.mk (show y168.length ≤ c41 from by rw [hy41, hc41]; exact Nat.sub_le_sub_right hroom41 _); clear hr41 hC41 hroom41 hi041 hsz41 hc41; have KY41 := Aside0.mk hy41; have KA41 := Aside0.mk hA41; clear hy41 hA41; replace q41 := eq_true q41) | ((with_reducible refine gate_builtin (b := .append) (xs := #[.tmp 31, .tmp 34]) rfl ?_); at_builtin; refine Kd.R_append_rows k44 (w0 := w) w.heap.size rfl (.tmp 31) (.tmp 34) 40 44 (.agg #[(.int .i64 0), (.int .i64 0), (.int .i64 0)]) 24 rfl Try.underlying40 info44 rfl (by decide) (by omega) v166 y165 y168 _ _ _ (fun k_ => k_ ≠ gb132) (fun _ => False) rfl rfl ?aO ?aR (fun _ _ h => h) (fun _ h => h.elim) ?aF ?aB ?aS ?aL ?_; (case aR => repeat (first | exact (Kd.C_below HR171.out HB.out) | (with_reducible refine Kd.C_alloc ?_ _) | (with_reducible refine Kd.C_drewN ?_ _) | (with_reducible refine Kd.C_drew ?_))); (case aB => exact (by repeat (first | (with_reducible first | exact HB.out | apply below_alloc | apply pw_below_drewN | apply below_drew1 | refine below_set ?_ GE132.out) | exact HB.out))); (case aF => exact (fun k_ hk => Kd.freshB (g := gb132) (o := .cells #[.int .i64 a1_0, .int .i64 a1_1, .int .i64 a1_2] 44 (0, 0)) (by (with_reducible repeat (first | refine blk_drewN ?_ _ | refine blk_drew ?_ | refine blk_alloc ?_ _)); exact BK132.out) k_ hk)); (case aO => exact (by (with_reducible repeat (first | apply Kd.R_alloc | apply Kd.R_drewN | apply Kd.R_drew)); exact HO167.out)); (case aS => exact (below_size (by repeat (first | (with_reducible first | exact HB.out | apply below_alloc | apply pw_below_drewN | apply below_drew1 | refine below_set ?_ GE132.out) | exact HB.out)))); (case aL => have := LMc33.out; omega); intro v173 w42 ho hb hg hat; rw [← Ny172.out] at ho; have n0_ := Aside0.mk (blk_grown (g := gb132) (o := .cells #[.int .i64 a1_0, .int .i64 a1_1, .int .i64 a1_2] 44 (0, 0)) (by (with_reducible repeat (first | refine blk_drewN ?_ _ | refine blk_drew ?_ | refine blk_alloc ?_ _)); exact BK132.out) hg (Kd.R_away HO167.out (fun _ hk => hk))); have n1_ := Aside0.mk (hb); have n2_ := Aside0.mk (ho); clear BK132; clear HB; clear HO167; have BK132 := n0_; have HB := n1_; have HO174 := n2_; clear n0_ n1_ n2_; clear ho hb hg hat))
                  go_ret
                  exact ⟨_, by first | rfl | (simp [errW_none, errW_some] <;> rfl) | (simp [*, errW_none, errW_some] <;> rfl), by (with_reducible repeat (first | apply Kd.R_alloc | apply Kd.R_drewN | apply Kd.R_drew)); exact Kd.R_mono HO174.out (fun _ hk => trivial), by repeat (first | (with_reducible first | exact HB.out | apply below_alloc | apply pw_below_drewN | apply below_drew1 | refine below_set ?_ GE132.out) | exact HB.out)⟩
                · rw [if_neg c33] at H
                  exact absurd H (by simp)
              · rw [if_neg c30] at H
                exact absurd H (by simp)
            · rw [if_neg c29] at H
              exact absurd H (by simp)
          · rw [if_neg c28] at H
            exact absurd H (by simp)
        · rw [if_neg c27] at H
          exact absurd H (by simp)

/-! ### catafalquelaw12_same: function 18 -/
def catafalquelaw12_same.l0 : Nat → List (S23) → List (S44) → Int → Option (Bool)
  | 0, _, _, _ => none
  | k + 1, x0, x1, x5 => if x5 < (x0.length : Int) then (if 0 ≤ x5 then (if x5 < (x1.length : Int) then (if ((rd_T23 x0 x5).f0) = ((rd_T44 x1 x5).f0) then (if ((rd_T23 x0 x5).f1) = ((rd_T44 x1 x5).f1) then (if ((rd_T23 x0 x5).f2) = ((rd_T44 x1 x5).f2) then (catafalquelaw12_same.l0 k x0 x1 (wrap64 (x5 + 1))) else (some false)) else (some false)) else (some false)) else (none)) else (none)) else (some true)
def catafalquelaw12_same.f (k : Nat) (l0 : List (S23)) (l1 : List (S44)) : Option (Bool) := if (l0.length : Int) = (l1.length : Int) then (catafalquelaw12_same.l0 k l0 l1 0) else (some false)
theorem catafalquelaw12_same.mono_l : ∀ k, (∀ y0 y1 y2, LeO (catafalquelaw12_same.l0 k y0 y1 y2) (catafalquelaw12_same.l0 (k + 1) y0 y1 y2))
  | 0 => fun _ _ _ r h => by simp [catafalquelaw12_same.l0] at h
  | k + 1 => by
    have ih0 := catafalquelaw12_same.mono_l k
    · intro y0 y1 y2
      unfold catafalquelaw12_same.l0
      repeat' first
      | (with_reducible exact ih0 _ _ _)
      | (with_reducible exact LeO.refl _)
      | (with_reducible exact LeO.none _)
      | (with_reducible refine LeO.ite ?_ ?_)
      | (with_reducible refine LeO.bind ?_ (fun _ => ?_))
      | exact ih0 _ _ _
      | exact LeO.none _
      | refine LeO.ite ?_ ?_
      | refine LeO.bind ?_ (fun _ => ?_)
theorem catafalquelaw12_same.mono : ∀ a0 a1 k, LeO (catafalquelaw12_same.f k a0 a1) (catafalquelaw12_same.f (k + 1) a0 a1) := by
  intro a0 a1 k
  have ih0 := catafalquelaw12_same.mono_l k
  unfold catafalquelaw12_same.f
  repeat' first
      | (with_reducible exact ih0 _ _ _)
      | (with_reducible exact LeO.refl _)
      | (with_reducible exact LeO.none _)
      | (with_reducible refine LeO.ite ?_ ?_)
      | (with_reducible refine LeO.bind ?_ (fun _ => ?_))
      | exact ih0 _ _ _
      | exact LeO.none _
      | refine LeO.ite ?_ ?_
      | refine LeO.bind ?_ (fun _ => ?_)
set_option maxHeartbeats 8000000 in
set_option maxRecDepth 100000 in
theorem catafalquelaw12_same.calls (k : Nat) (A0 : Option Addr) (c0 : Nat) (l0 : List (S23)) (A1 : Option Addr) (c1 : Nat) (l1 : List (S44)) (r : Bool) (w : World) (hr0 : Kd.C k23 w A0 l0.length l0) (hc0 : l0.length ≤ c0) (hr1 : Kd.C k44 w A1 l1.length l1) (hc1 : l1.length ≤ c1) (h : catafalquelaw12_same.f k l0 l1 = some r) :
    Calls Try.prog 18 #[.slice A0 l0.length c0, .slice A1 l1.length c1] w fun e w' => e = .returned (.bool r) ∧ Drawn0 w w' := by
  have HR0 := Aside0.mk hr0
  have HC0 := Aside0.mk hc0
  clear hr0 hc0
  have HR1 := Aside0.mk hr1
  have HC1 := Aside0.mk hc1
  clear hr1 hc1
  have H : (if (l0.length : Int) = (l1.length : Int) then (catafalquelaw12_same.l0 k l0 l1 0) else (some false)) = some r := h
  clear h
  by_cases c3 : (l0.length : Int) = (l1.length : Int)
  · rw [if_pos c3] at H
    have c3b0 : ((l0.length : Int) == (l1.length : Int)) = true := beq_iff_eq.mpr c3
    have c3b1 : ((l0.length : Int) != (l1.length : Int)) = false := bne_eq_false_iff_eq.mpr c3
    have c3b2 : (l0.length == l1.length) = true := by first | simpa using c3 | (simp at c3 ⊢; omega)
    clear c3
    have H' := Aside0.mk H
    clear H
    go_enter Try.func18, Try.ntmps18
    go_wp2
    repeat (go_quiet (fail); try go_wp2)
    go_loopg [5] k (fun kq v5 w' => ∃ (x5_1 : Int), v5 = .int .i64 x5_1 ∧ Aside0 (catafalquelaw12_same.l0 kq l0 l1 x5_1 = some r) ∧ Aside0 (kq ≤ k) ∧ Drawn0 w w')
    case atStart => exact ⟨(0), (by first | rfl | (simp; done) | (simp [*]; done)), H', ⟨Nat.le_refl _⟩, by repeat (first | exact Drawn0.refl _ | apply Drawn0.step)⟩
    case round =>
      clear H'
      try clear c1
      try clear p2
      try clear c3
      try clear c3b0
      try clear c3b1
      try clear c3b2
      obtain ⟨x5_1, rfl, HA, HK1, ⟨m1, rfl⟩⟩ := hrel
      cases gk with
      | zero => exact absurd HA.out (by simp [catafalquelaw12_same.l0])
      | succ k1 =>
        have H := HA.out
        clear HA
        simp only [catafalquelaw12_same.l0] at H
        by_cases c4 : x5_1 < (l0.length : Int)
        · rw [if_pos c4] at H
          have c4b0 : decide (x5_1 < (l0.length : Int)) = true := decide_eq_true c4
          clear c4
          by_cases c5 : 0 ≤ x5_1
          · rw [if_pos c5] at H
            have c5b0 : decide (0 ≤ x5_1) = true := decide_eq_true c5
            clear c5
            by_cases c6 : x5_1 < (l1.length : Int)
            · rw [if_pos c6] at H
              have c6b0 : decide (x5_1 < (l1.length : Int)) = true := decide_eq_true c6
              clear c6
              by_cases c7 : ((rd_T23 l0 x5_1).f0) = ((rd_T44 l1 x5_1).f0)
              · rw [if_pos c7] at H
                have c7b0 : (((rd_T23 l0 x5_1).f0) == ((rd_T44 l1 x5_1).f0)) = true := beq_iff_eq.mpr c7
                have c7b1 : (((rd_T23 l0 x5_1).f0) != ((rd_T44 l1 x5_1).f0)) = false := bne_eq_false_iff_eq.mpr c7
                clear c7
                by_cases c8 : ((rd_T23 l0 x5_1).f1) = ((rd_T44 l1 x5_1).f1)
                · rw [if_pos c8] at H
                  have c8b0 : (((rd_T23 l0 x5_1).f1) == ((rd_T44 l1 x5_1).f1)) = true := beq_iff_eq.mpr c8
                  have c8b1 : (((rd_T23 l0 x5_1).f1) != ((rd_T44 l1 x5_1).f1)) = false := bne_eq_false_iff_eq.mpr c8
                  clear c8
                  by_cases c9 : ((rd_T23 l0 x5_1).f2) = ((rd_T44 l1 x5_1).f2)
                  · rw [if_pos c9] at H
                    have c9b0 : (((rd_T23 l0 x5_1).f2) == ((rd_T44 l1 x5_1).f2)) = true := beq_iff_eq.mpr c9
                    have c9b1 : (((rd_T23 l0 x5_1).f2) != ((rd_T44 l1 x5_1).f2)) = false := bne_eq_false_iff_eq.mpr c9
                    clear c9
                    have H' := Aside0.mk H
                    clear H
                    have p175 : 0 ≤ (x5_1 : Int) := of_decide_eq_true (by first | (with_reducible assumption) | assumption)
                    have q175 : x5_1 < (l0.length : Int) := of_decide_eq_true (by first | (with_reducible assumption) | assumption)
                    obtain ⟨ad175, e175, hx175_0, hx175_1, hx175_2⟩ := at_T23 HR0.out x5_1 p175 q175
                    cases e175
                    replace p175 := eq_true p175
                    replace q175 := eq_true q175
                    have p176 : 0 ≤ (x5_1 : Int) := of_decide_eq_true (by first | (with_reducible assumption) | assumption)
                    have q176 : x5_1 < (l1.length : Int) := of_decide_eq_true (by first | (with_reducible assumption) | assumption)
                    obtain ⟨ad176, e176, hx176_0, hx176_1, hx176_2⟩ := at_T44 HR1.out x5_1 p176 q176
                    cases e176
                    replace p176 := eq_true p176
                    replace q176 := eq_true q176
                    have p177 : 0 ≤ (x5_1 : Int) := of_decide_eq_true (by first | (with_reducible assumption) | assumption)
                    have q177 : x5_1 < (l0.length : Int) := of_decide_eq_true (by first | (with_reducible assumption) | assumption)
                    obtain ⟨ad177, e177, hx177_0, hx177_1, hx177_2⟩ := at_T23 HR0.out x5_1 p177 q177
                    obtain rfl : ad175 = ad177 := (by injection e177)
                    replace p177 := eq_true p177
                    replace q177 := eq_true q177
                    have p178 : 0 ≤ (x5_1 : Int) := of_decide_eq_true (by first | (with_reducible assumption) | assumption)
                    have q178 : x5_1 < (l1.length : Int) := of_decide_eq_true (by first | (with_reducible assumption) | assumption)
                    obtain ⟨ad178, e178, hx178_0, hx178_1, hx178_2⟩ := at_T44 HR1.out x5_1 p178 q178
                    obtain rfl : ad176 = ad178 := (by injection e178)
                    replace p178 := eq_true p178
                    replace q178 := eq_true q178
                    have p179 : 0 ≤ (x5_1 : Int) := of_decide_eq_true (by first | (with_reducible assumption) | assumption)
                    have q179 : x5_1 < (l0.length : Int) := of_decide_eq_true (by first | (with_reducible assumption) | assumption)
                    obtain ⟨ad179, e179, hx179_0, hx179_1, hx179_2⟩ := at_T23 HR0.out x5_1 p179 q179
                    obtain rfl : ad175 = ad179 := (by injection e179)
                    replace p179 := eq_true p179
                    replace q179 := eq_true q179
                    have p180 : 0 ≤ (x5_1 : Int) := of_decide_eq_true (by first | (with_reducible assumption) | assumption)
                    have q180 : x5_1 < (l1.length : Int) := of_decide_eq_true (by first | (with_reducible assumption) | assumption)
                    obtain ⟨ad180, e180, hx180_0, hx180_1, hx180_2⟩ := at_T44 HR1.out x5_1 p180 q180
                    obtain rfl : ad176 = ad180 := (by injection e180)
                    replace p180 := eq_true p180
                    replace q180 := eq_true q180
                    go_wp2
                    repeat (go_quiet (fail); try go_wp2)
                    go_roundg k1
                    case measure => have := HK1.out; omega
                    case rel => exact ⟨(wrap64 (x5_1 + 1)), (by first | rfl | (simp; done) | (simp [*]; done)), H', ⟨by have := HK1.out; omega⟩, by repeat (first | exact Drawn0.refl _ | apply Drawn0.step)⟩
                  · rw [if_neg c9] at H
                    have c9b0 : (((rd_T23 l0 x5_1).f2) == ((rd_T44 l1 x5_1).f2)) = false := beq_eq_false_iff_ne.mpr c9
                    have c9b1 : (((rd_T23 l0 x5_1).f2) != ((rd_T44 l1 x5_1).f2)) = true := bne_iff_ne.mpr c9
                    obtain rfl := Option.some.inj H
                    have p175 : 0 ≤ (x5_1 : Int) := of_decide_eq_true (by first | (with_reducible assumption) | assumption)
                    have q175 : x5_1 < (l0.length : Int) := of_decide_eq_true (by first | (with_reducible assumption) | assumption)
                    obtain ⟨ad175, e175, hx175_0, hx175_1, hx175_2⟩ := at_T23 HR0.out x5_1 p175 q175
                    cases e175
                    replace p175 := eq_true p175
                    replace q175 := eq_true q175
                    have p176 : 0 ≤ (x5_1 : Int) := of_decide_eq_true (by first | (with_reducible assumption) | assumption)
                    have q176 : x5_1 < (l1.length : Int) := of_decide_eq_true (by first | (with_reducible assumption) | assumption)
                    obtain ⟨ad176, e176, hx176_0, hx176_1, hx176_2⟩ := at_T44 HR1.out x5_1 p176 q176
                    cases e176
                    replace p176 := eq_true p176
                    replace q176 := eq_true q176
                    have p177 : 0 ≤ (x5_1 : Int) := of_decide_eq_true (by first | (with_reducible assumption) | assumption)
                    have q177 : x5_1 < (l0.length : Int) := of_decide_eq_true (by first | (with_reducible assumption) | assumption)
                    obtain ⟨ad177, e177, hx177_0, hx177_1, hx177_2⟩ := at_T23 HR0.out x5_1 p177 q177
                    obtain rfl : ad175 = ad177 := (by injection e177)
                    replace p177 := eq_true p177
                    replace q177 := eq_true q177
                    have p178 : 0 ≤ (x5_1 : Int) := of_decide_eq_true (by first | (with_reducible assumption) | assumption)
                    have q178 : x5_1 < (l1.length : Int) := of_decide_eq_true (by first | (with_reducible assumption) | assumption)
                    obtain ⟨ad178, e178, hx178_0, hx178_1, hx178_2⟩ := at_T44 HR1.out x5_1 p178 q178
                    obtain rfl : ad176 = ad178 := (by injection e178)
                    replace p178 := eq_true p178
                    replace q178 := eq_true q178
                    have p179 : 0 ≤ (x5_1 : Int) := of_decide_eq_true (by first | (with_reducible assumption) | assumption)
                    have q179 : x5_1 < (l0.length : Int) := of_decide_eq_true (by first | (with_reducible assumption) | assumption)
                    obtain ⟨ad179, e179, hx179_0, hx179_1, hx179_2⟩ := at_T23 HR0.out x5_1 p179 q179
                    obtain rfl : ad175 = ad179 := (by injection e179)
                    replace p179 := eq_true p179
                    replace q179 := eq_true q179
                    have p180 : 0 ≤ (x5_1 : Int) := of_decide_eq_true (by first | (with_reducible assumption) | assumption)
                    have q180 : x5_1 < (l1.length : Int) := of_decide_eq_true (by first | (with_reducible assumption) | assumption)
                    obtain ⟨ad180, e180, hx180_0, hx180_1, hx180_2⟩ := at_T44 HR1.out x5_1 p180 q180
                    obtain rfl : ad176 = ad180 := (by injection e180)
                    replace p180 := eq_true p180
                    replace q180 := eq_true q180
                    go_wp2
                    repeat (go_quiet (fail); try go_wp2)
                    go_ret
                    exact ⟨by first | rfl | (simp; done) | (simp [*]; done), by repeat (first | exact Drawn0.refl _ | apply Drawn0.step)⟩
                · rw [if_neg c8] at H
                  have c8b0 : (((rd_T23 l0 x5_1).f1) == ((rd_T44 l1 x5_1).f1)) = false := beq_eq_false_iff_ne.mpr c8
                  have c8b1 : (((rd_T23 l0 x5_1).f1) != ((rd_T44 l1 x5_1).f1)) = true := bne_iff_ne.mpr c8
                  obtain rfl := Option.some.inj H
                  have p175 : 0 ≤ (x5_1 : Int) := of_decide_eq_true (by first | (with_reducible assumption) | assumption)
                  have q175 : x5_1 < (l0.length : Int) := of_decide_eq_true (by first | (with_reducible assumption) | assumption)
                  obtain ⟨ad175, e175, hx175_0, hx175_1, hx175_2⟩ := at_T23 HR0.out x5_1 p175 q175
                  cases e175
                  replace p175 := eq_true p175
                  replace q175 := eq_true q175
                  have p176 : 0 ≤ (x5_1 : Int) := of_decide_eq_true (by first | (with_reducible assumption) | assumption)
                  have q176 : x5_1 < (l1.length : Int) := of_decide_eq_true (by first | (with_reducible assumption) | assumption)
                  obtain ⟨ad176, e176, hx176_0, hx176_1, hx176_2⟩ := at_T44 HR1.out x5_1 p176 q176
                  cases e176
                  replace p176 := eq_true p176
                  replace q176 := eq_true q176
                  have p177 : 0 ≤ (x5_1 : Int) := of_decide_eq_true (by first | (with_reducible assumption) | assumption)
                  have q177 : x5_1 < (l0.length : Int) := of_decide_eq_true (by first | (with_reducible assumption) | assumption)
                  obtain ⟨ad177, e177, hx177_0, hx177_1, hx177_2⟩ := at_T23 HR0.out x5_1 p177 q177
                  obtain rfl : ad175 = ad177 := (by injection e177)
                  replace p177 := eq_true p177
                  replace q177 := eq_true q177
                  have p178 : 0 ≤ (x5_1 : Int) := of_decide_eq_true (by first | (with_reducible assumption) | assumption)
                  have q178 : x5_1 < (l1.length : Int) := of_decide_eq_true (by first | (with_reducible assumption) | assumption)
                  obtain ⟨ad178, e178, hx178_0, hx178_1, hx178_2⟩ := at_T44 HR1.out x5_1 p178 q178
                  obtain rfl : ad176 = ad178 := (by injection e178)
                  replace p178 := eq_true p178
                  replace q178 := eq_true q178
                  go_wp2
                  repeat (go_quiet (fail); try go_wp2)
                  go_ret
                  exact ⟨by first | rfl | (simp; done) | (simp [*]; done), by repeat (first | exact Drawn0.refl _ | apply Drawn0.step)⟩
              · rw [if_neg c7] at H
                have c7b0 : (((rd_T23 l0 x5_1).f0) == ((rd_T44 l1 x5_1).f0)) = false := beq_eq_false_iff_ne.mpr c7
                have c7b1 : (((rd_T23 l0 x5_1).f0) != ((rd_T44 l1 x5_1).f0)) = true := bne_iff_ne.mpr c7
                obtain rfl := Option.some.inj H
                have p175 : 0 ≤ (x5_1 : Int) := of_decide_eq_true (by first | (with_reducible assumption) | assumption)
                have q175 : x5_1 < (l0.length : Int) := of_decide_eq_true (by first | (with_reducible assumption) | assumption)
                obtain ⟨ad175, e175, hx175_0, hx175_1, hx175_2⟩ := at_T23 HR0.out x5_1 p175 q175
                cases e175
                replace p175 := eq_true p175
                replace q175 := eq_true q175
                have p176 : 0 ≤ (x5_1 : Int) := of_decide_eq_true (by first | (with_reducible assumption) | assumption)
                have q176 : x5_1 < (l1.length : Int) := of_decide_eq_true (by first | (with_reducible assumption) | assumption)
                obtain ⟨ad176, e176, hx176_0, hx176_1, hx176_2⟩ := at_T44 HR1.out x5_1 p176 q176
                cases e176
                replace p176 := eq_true p176
                replace q176 := eq_true q176
                go_wp2
                repeat (go_quiet (fail); try go_wp2)
                go_ret
                exact ⟨by first | rfl | (simp; done) | (simp [*]; done), by repeat (first | exact Drawn0.refl _ | apply Drawn0.step)⟩
            · rw [if_neg c6] at H
              exact absurd H (by simp)
          · rw [if_neg c5] at H
            exact absurd H (by simp)
        · rw [if_neg c4] at H
          have c4b0 : decide (x5_1 < (l0.length : Int)) = false := decide_eq_false c4
          clear c4
          obtain rfl := Option.some.inj H
          go_wp2
          repeat (go_quiet (fail); try go_wp2)
          go_ret
          exact ⟨by first | rfl | (simp; done) | (simp [*]; done), by repeat (first | exact Drawn0.refl _ | apply Drawn0.step)⟩
  · rw [if_neg c3] at H
    have c3b0 : ((l0.length : Int) == (l1.length : Int)) = false := beq_eq_false_iff_ne.mpr c3
    have c3b1 : ((l0.length : Int) != (l1.length : Int)) = true := bne_iff_ne.mpr c3
    have c3b2 : (l0.length == l1.length) = false := by first | simpa using c3 | (simp at c3 ⊢; omega)
    obtain rfl := Option.some.inj H
    go_enter Try.func18, Try.ntmps18
    go_wp2
    repeat (go_quiet (fail); try go_wp2)
    go_ret
    exact ⟨by first | rfl | (simp; done) | (simp [*]; done), by repeat (first | exact Drawn0.refl _ | apply Drawn0.step)⟩

/-! ### catafalqueref12_Drop: function 19 -/
def catafalqueref12_Drop.l0 : Nat → List (S44) → Int → List (S44) → Int → Option ((List (S44)))
  | 0, _, _, _, _ => none
  | k + 1, x0, x1, x5, x6 => if x6 < (x0.length : Int) then (if 0 ≤ x6 then (if ((rd_T44 x0 x6).f2) = x1 then (catafalqueref12_Drop.l0 k x0 x1 x5 (wrap64 (x6 + 1))) else (if x5.length < 5864062014805 then (catafalqueref12_Drop.l0 k x0 x1 (x5 ++ [(⟨(rd_T44 x0 x6).f0, (rd_T44 x0 x6).f1, (rd_T44 x0 x6).f2⟩ : S44)]) (wrap64 (x6 + 1))) else (none))) else (none)) else (some x5)
def catafalqueref12_Drop.f (k : Nat) (l0 : List (S44)) (a1 : Int) : Option ((List (S44))) := catafalqueref12_Drop.l0 k l0 a1 ([] : List (S44)) 0
theorem catafalqueref12_Drop.mono_l : ∀ k, (∀ y0 y1 y2 y3, LeO (catafalqueref12_Drop.l0 k y0 y1 y2 y3) (catafalqueref12_Drop.l0 (k + 1) y0 y1 y2 y3))
  | 0 => fun _ _ _ _ r h => by simp [catafalqueref12_Drop.l0] at h
  | k + 1 => by
    have ih0 := catafalqueref12_Drop.mono_l k
    · intro y0 y1 y2 y3
      unfold catafalqueref12_Drop.l0
      repeat' first
      | (with_reducible exact ih0 _ _ _ _)
      | (with_reducible exact LeO.refl _)
      | (with_reducible exact LeO.none _)
      | (with_reducible refine LeO.ite ?_ ?_)
      | (with_reducible refine LeO.bind ?_ (fun _ => ?_))
      | exact ih0 _ _ _ _
      | exact LeO.none _
      | refine LeO.ite ?_ ?_
      | refine LeO.bind ?_ (fun _ => ?_)
theorem catafalqueref12_Drop.mono : ∀ a0 a1 k, LeO (catafalqueref12_Drop.f k a0 a1) (catafalqueref12_Drop.f (k + 1) a0 a1) := by
  intro a0 a1 k
  have ih0 := catafalqueref12_Drop.mono_l k
  unfold catafalqueref12_Drop.f
  repeat' first
      | (with_reducible exact ih0 _ _ _ _)
      | (with_reducible exact LeO.refl _)
      | (with_reducible exact LeO.none _)
      | (with_reducible refine LeO.ite ?_ ?_)
      | (with_reducible refine LeO.bind ?_ (fun _ => ?_))
      | exact ih0 _ _ _ _
      | exact LeO.none _
      | refine LeO.ite ?_ ?_
      | refine LeO.bind ?_ (fun _ => ?_)
set_option maxHeartbeats 8000000 in
set_option maxRecDepth 100000 in
theorem catafalqueref12_Drop.calls (k : Nat) (A0 : Option Addr) (c0 : Nat) (l0 : List (S44)) (a1 : Int) (r : List (S44)) (w : World) (hr0 : Kd.C k44 w A0 l0.length l0) (hc0 : l0.length ≤ c0) (h : catafalqueref12_Drop.f k l0 a1 = some r) :
    Calls Try.prog 19 #[.slice A0 l0.length c0, .int .i64 a1] w fun e w' => ∃ v0_ : Value, e = .returned (v0_) ∧ Kd.R k44 44 w' w.heap.size (fun _ => True) v0_ r ∧ Below w.heap.size w w' := by
  have hu44 := Try.underlying44
  have HR0 := Aside0.mk hr0
  have HC0 := Aside0.mk hc0
  clear hr0 hc0
  have HB := Aside0.mk (Below.refl w.heap.size w)
  have H : (catafalqueref12_Drop.l0 k l0 a1 ([] : List (S44)) 0) = some r := h
  clear h
  have H' := Aside0.mk H
  clear H
  go_enter Try.func19, Try.ntmps19
  go_wp2
  go_loopg [5, 6] k (fun kq v5 v6 w' => ∃ (x5_1 : List (S44)) (x6_1 : Int), v6 = .int .i64 x6_1 ∧ Aside0 (catafalqueref12_Drop.l0 kq l0 a1 x5_1 x6_1 = some r) ∧ Aside0 (kq ≤ k) ∧ Aside0 (Kd.R k44 44 w' w.heap.size (fun _ => True) v5 x5_1) ∧ Aside0 (Below w.heap.size w w'))
  case atStart => exact ⟨(([] : List (S44))), (0), (by first | rfl | (simp; done) | (simp [*]; done)), H', ⟨Nat.le_refl _⟩, ⟨by first | exact Kd.R_nil _ _ _ _ _ | exact Kd.N_nil _ _ _ _ _ | exact Kd.V_nil _ _ _ _ _ | exact Kd.Q_nil _ _ _ _ _ | exact Kd.S_nil _ _ _ _ _⟩, ⟨by repeat (first | (with_reducible first | exact HB.out | apply below_alloc | apply pw_below_drewN | apply below_drew1) | exact HB.out)⟩⟩
  case round =>
    clear H'
    try clear c1
    try clear p2
    obtain ⟨x5_1, x6_1, rfl, HA, HK1, HO_5, HB⟩ := hrel
    cases gk with
    | zero => exact absurd HA.out (by simp [catafalqueref12_Drop.l0])
    | succ k1 =>
      have H := HA.out
      clear HA
      simp only [catafalqueref12_Drop.l0] at H
      by_cases c3 : x6_1 < (l0.length : Int)
      · rw [if_pos c3] at H
        have c3b0 : decide (x6_1 < (l0.length : Int)) = true := decide_eq_true c3
        clear c3
        by_cases c4 : 0 ≤ x6_1
        · rw [if_pos c4] at H
          have c4b0 : decide (0 ≤ x6_1) = true := decide_eq_true c4
          clear c4
          by_cases c5 : ((rd_T44 l0 x6_1).f2) = a1
          · rw [if_pos c5] at H
            have c5b0 : (((rd_T44 l0 x6_1).f2) == a1) = true := beq_iff_eq.mpr c5
            have c5b1 : (((rd_T44 l0 x6_1).f2) != a1) = false := bne_eq_false_iff_eq.mpr c5
            clear c5
            have H' := Aside0.mk H
            clear H
            have p181 : 0 ≤ (x6_1 : Int) := of_decide_eq_true (by first | (with_reducible assumption) | assumption)
            have q181 : x6_1 < (l0.length : Int) := of_decide_eq_true (by first | (with_reducible assumption) | assumption)
            obtain ⟨ad181, e181, hx181_0, hx181_1, hx181_2⟩ := at_T44 HR0.out x6_1 p181 q181
            cases e181
            replace hx181_0 := (HB.out.cell (World.block_lt_of_cell? w _ hx181_0)).trans hx181_0
            replace hx181_1 := (HB.out.cell (World.block_lt_of_cell? w _ hx181_1)).trans hx181_1
            replace hx181_2 := (HB.out.cell (World.block_lt_of_cell? w _ hx181_2)).trans hx181_2
            replace p181 := eq_true p181
            replace q181 := eq_true q181
            go_wp2
            go_roundg k1
            case measure => have := HK1.out; omega
            case rel => exact ⟨(x5_1), (wrap64 (x6_1 + 1)), (by first | rfl | (simp; done) | (simp [*]; done)), H', ⟨by have := HK1.out; omega⟩, ⟨by (with_reducible repeat (first | apply Kd.R_alloc | apply Kd.R_drewN | apply Kd.R_drew)); exact HO_5.out⟩, ⟨by repeat (first | (with_reducible first | exact HB.out | apply below_alloc | apply pw_below_drewN | apply below_drew1) | exact HB.out)⟩⟩
          · rw [if_neg c5] at H
            have c5b0 : (((rd_T44 l0 x6_1).f2) == a1) = false := beq_eq_false_iff_ne.mpr c5
            have c5b1 : (((rd_T44 l0 x6_1).f2) != a1) = true := bne_iff_ne.mpr c5
            by_cases c6 : x5_1.length < 5864062014805
            · rw [if_pos c6] at H
              have LMc6 := Aside0.mk c6
              clear c6
              obtain ⟨y183, hy183⟩ : ∃ y_ : List (S44), y_ = (x5_1 ++ [(⟨(rd_T44 l0 x6_1).f0, (rd_T44 l0 x6_1).f1, (rd_T44 l0 x6_1).f2⟩ : S44)]) := ⟨_, rfl⟩
              replace H : (catafalqueref12_Drop.l0 k1 l0 a1 y183 (wrap64 (x6_1 + 1))) = some r := by first | (rw [hy183]; with_reducible exact H) | (have H2_ := (Option.bind_some _ _).symm.trans H; rw [hy183]; with_reducible exact H2_) | (have H2_ := (Option.bind_some _ _).symm.trans H; with_reducible exact H2_) | with_reducible exact H | (rw [hy183]; exact H) | exact H
              have Ny183 := Aside0.mk hy183
              clear hy183
              have H' := Aside0.mk H
              clear H
              have p181 : 0 ≤ (x6_1 : Int) := of_decide_eq_true (by first | (with_reducible assumption) | assumption)
              have q181 : x6_1 < (l0.length : Int) := of_decide_eq_true (by first | (with_reducible assumption) | assumption)
              obtain ⟨ad181, e181, hx181_0, hx181_1, hx181_2⟩ := at_T44 HR0.out x6_1 p181 q181
              cases e181
              replace hx181_0 := (HB.out.cell (World.block_lt_of_cell? w _ hx181_0)).trans hx181_0
              replace hx181_1 := (HB.out.cell (World.block_lt_of_cell? w _ hx181_1)).trans hx181_1
              replace hx181_2 := (HB.out.cell (World.block_lt_of_cell? w _ hx181_2)).trans hx181_2
              replace p181 := eq_true p181
              replace q181 := eq_true q181
              have p182 : 0 ≤ (x6_1 : Int) := of_decide_eq_true (by first | (with_reducible assumption) | assumption)
              have q182 : x6_1 < (l0.length : Int) := of_decide_eq_true (by first | (with_reducible assumption) | assumption)
              obtain ⟨ad182, e182, hx182_0, hx182_1, hx182_2⟩ := at_T44 HR0.out x6_1 p182 q182
              obtain rfl : ad181 = ad182 := (by injection e182)
              replace hx182_0 := (HB.out.cell (World.block_lt_of_cell? w _ hx182_0)).trans hx182_0
              replace hx182_1 := (HB.out.cell (World.block_lt_of_cell? w _ hx182_1)).trans hx182_1
              replace hx182_2 := (HB.out.cell (World.block_lt_of_cell? w _ hx182_2)).trans hx182_2
              replace p182 := eq_true p182
              replace q182 := eq_true q182
              go_wp2_with (first | ((with_reducible refine gate_builtin (b := .append) (xs := #[.tmp 20, .tmp 25]) rfl ?_); at_builtin; refine Kd.R_append k44 (w0 := w) w.heap.size rfl (.tmp 20) (.tmp 25) 40 44 (.agg #[(.int .i64 0), (.int .i64 0), (.int .i64 0)]) 24 rfl Try.underlying40 info44 rfl (by decide) (by omega) u5 x5_1 (⟨(rd_T44 l0 x6_1).f0, (rd_T44 l0 x6_1).f1, (rd_T44 l0 x6_1).f2⟩ : S44) [.int .i64 ((rd_T44 l0 x6_1).f0), .int .i64 ((rd_T44 l0 x6_1).f1), .int .i64 ((rd_T44 l0 x6_1).f2)] (fun _ => True) (fun _ => False) rfl rfl ?aP (fun _ hk => hk.elim) ?aF ?aO ?aB ?aS ?aL ?_; (case aP => exact k44_mkM _ _ _ (⟨(rd_T44 l0 x6_1).f0, (rd_T44 l0 x6_1).f1, (rd_T44 l0 x6_1).f2⟩ : S44)); (case aB => exact (by repeat (first | (with_reducible first | exact HB.out | apply below_alloc | apply pw_below_drewN | apply below_drew1) | exact HB.out))); (case aF => exact (fun _ _ => trivial)); (case aO => exact (by (with_reducible repeat (first | apply Kd.R_alloc | apply Kd.R_drewN | apply Kd.R_drew)); exact HO_5.out)); (case aS => exact (below_size (by repeat (first | (with_reducible first | exact HB.out | apply below_alloc | apply pw_below_drewN | apply below_drew1) | exact HB.out)))); (case aL => have := LMc6.out; omega); intro v184 w7 ho hb hg hat; rw [← Ny183.out] at ho; have n0_ := Aside0.mk (hb); have n1_ := Aside0.mk (ho); clear HB; clear HO_5; have HB := n0_; have HO185 := n1_; clear n0_ n1_; clear ho hb hg hat))
              go_roundg k1
              case measure => have := HK1.out; omega
              case rel => exact ⟨(y183), (wrap64 (x6_1 + 1)), (by first | rfl | (simp; done) | (simp [*]; done)), H', ⟨by have := HK1.out; omega⟩, ⟨by (with_reducible repeat (first | apply Kd.R_alloc | apply Kd.R_drewN | apply Kd.R_drew)); exact HO185.out⟩, ⟨by repeat (first | (with_reducible first | exact HB.out | apply below_alloc | apply pw_below_drewN | apply below_drew1) | exact HB.out)⟩⟩
            · rw [if_neg c6] at H
              exact absurd H (by simp)
        · rw [if_neg c4] at H
          exact absurd H (by simp)
      · rw [if_neg c3] at H
        have c3b0 : decide (x6_1 < (l0.length : Int)) = false := decide_eq_false c3
        clear c3
        obtain rfl := Option.some.inj H
        go_wp2
        go_ret
        exact ⟨_, by first | rfl | (simp [errW_none, errW_some] <;> rfl) | (simp [*, errW_none, errW_some] <;> rfl), by (with_reducible repeat (first | apply Kd.R_alloc | apply Kd.R_drewN | apply Kd.R_drew)); exact HO_5.out, by repeat (first | (with_reducible first | exact HB.out | apply below_alloc | apply pw_below_drewN | apply below_drew1) | exact HB.out)⟩

-- NOT PRINTED: function 7 (catafalquelaw12_HeapPlays)

end Go.Proofs.Ytkbjihnkbfjhmaa.PRef12
namespace Go.Proofs.Ytkbjihnkbfjhmaa.Heap
open Go Go.RowKit Go.Shelf Go.Proofs.Ytkbjihnkbfjhmaa.Own Go.Proofs.YtkbjihnkbfjhmaaW.PrintWords Go.Proofs.YtkbjihnkbfjhmaaW.PrintLast Go.Proofs.YtkbjihnkbfjhmaaW.PrintMore
set_option linter.unusedVariables false
set_option linter.unusedSimpArgs false
abbrev S44 := PRef12.S44
abbrev S23 := PRef12.S23
abbrev k44 := PRef12.k44
abbrev k23 := PRef12.k23
def e4 (x : Tm) : S44 := ⟨x.t, x.s, x.g⟩
def e3 (x : Tm) : S23 := ⟨x.t, x.s, x.g⟩
theorem to4 {w : World} {A : Option Addr} {n : Nat} {l : List Tm} (h : kTm.C w A n l) : k44.C w A n (l.map e4) :=
  ⟨by rw [List.length_map]; exact h.1, h.2.1, fun hn => by
    obtain ⟨ad, e, hc⟩ := h.2.2 hn
    refine ⟨ad, e, fun j p hp => ?_⟩
    rw [List.getElem?_map] at hp
    obtain ⟨x, hx, rfl⟩ := Option.map_eq_some_iff.mp hp
    exact hc j x hx⟩
theorem to3 {w : World} {A : Option Addr} {n : Nat} {l : List Tm} (h : kTm.C w A n l) : k23.C w A n (l.map e3) :=
  ⟨by rw [List.length_map]; exact h.1, h.2.1, fun hn => by
    obtain ⟨ad, e, hc⟩ := h.2.2 hn
    refine ⟨ad, e, fun j p hp => ?_⟩
    rw [List.getElem?_map] at hp
    obtain ⟨x, hx, rfl⟩ := Option.map_eq_some_iff.mp hp
    exact hc j x hx⟩
theorem of4 {w : World} {A : Option Addr} {n : Nat} {l : List Tm} (h : k44.C w A n (l.map e4)) : kTm.C w A n l :=
  ⟨by have := h.1; rwa [List.length_map] at this, h.2.1, fun hn => by
    obtain ⟨ad, e, hc⟩ := h.2.2 hn
    exact ⟨ad, e, fun j p hp => hc j (e4 p) (by rw [List.getElem?_map, hp]; rfl)⟩⟩
theorem ahead_f (x y : Tm) : PRef12.catafalqueref12_Ahead.f x.t x.s x.g y.t y.s y.g = some (decide (cmpT x y < 0)) := by
  unfold PRef12.catafalqueref12_Ahead.f cmpT sgn
  by_cases h1 : x.t = y.t
  · by_cases h2 : x.s = y.s
    · by_cases h3 : x.g < y.g
      · simp [h1, h2, h3]
      · by_cases h4 : y.g < x.g <;> simp [h1, h2, h3, h4]
    · by_cases h3 : x.s < y.s
      · simp [h1, h2, h3]
      · have h4 : y.s < x.s := by omega
        simp [h1, h2, h3, h4]
  · by_cases h3 : x.t < y.t
    · simp [h1, h3]
    · have h4 : y.t < x.t := by omega
      simp [h1, h3, h4]
def insL (x : Tm) : List Tm → List Tm
  | [] => [x]
  | y :: l => if cmpT x y < 0 then x :: y :: l else y :: insL x l
theorem insL_perm (x : Tm) : ∀ l, (insL x l).Perm (x :: l)
  | [] => .refl _
  | y :: l => by
    unfold insL
    split
    · exact .refl _
    · exact ((insL_perm x l).cons y).trans (.swap x y l)
theorem insL_srt (x : Tm) : ∀ l, Srt l → Srt (insL x l)
  | [], _ => List.pairwise_singleton _ _
  | y :: l, h => by
    obtain ⟨h1, h2⟩ := List.pairwise_cons.mp h
    unfold insL
    split
    · rename_i hc
      have hxy : le x y := by unfold le; omega
      refine List.pairwise_cons.mpr ⟨fun z hz => ?_, h⟩
      rcases List.mem_cons.mp hz with rfl | hz
      · exact hxy
      · exact le_trans hxy (h1 z hz)
    · rename_i hc
      have hyx : le y x := by unfold le; have := cmp_neg x y; omega
      refine List.pairwise_cons.mpr ⟨fun z hz => ?_, insL_srt x l h2⟩
      rcases List.mem_cons.mp ((insL_perm x l).mem_iff.mp hz) with rfl | hz
      · exact hyx
      · exact h1 z hz
theorem insL_sort {x : Tm} {l m : List Tm} (h : m.Perm (x :: l)) : insL x (sortL l) = sortL m :=
  (sortL_eq (insL_srt x _ (sortL_srt l)) ((insL_perm x _).trans (((sortL_perm l).cons x).trans h.symm))).symm
theorem dropG_sort {g : Int} {l m : List Tm} (h : m.Perm (dropG g l)) : dropG g (sortL l) = sortL m :=
  (sortL_eq ((sortL_srt l).filter _) ((dropG_perm (sortL_perm l)).trans h.symm)).symm
theorem rd4 {l : List Tm} {i : Nat} (h : i < l.length) : PRef12.rd_T44 (l.map e4) (i : Int) = e4 l[i] := by
  unfold PRef12.rd_T44
  simp [List.getD_eq_getElem?_getD, h]
theorem rd3 {l : List Tm} {i : Nat} (h : i < l.length) : PRef12.rd_T23 (l.map e3) (i : Int) = e3 l[i] := by
  unfold PRef12.rd_T23
  simp [List.getD_eq_getElem?_getD, h]
theorem w64_succ {i : Nat} (h : i ≤ 1000000) : wrap64 ((i : Int) + 1) = ((i + 1 : Nat) : Int) := by unfold wrap64; omega
theorem push_l0 (x : Tm) (l : List Tm) (hl : l.length ≤ 1000000) : ∀ (k i : Nat), l.length - i < k → i ≤ l.length → PRef12.catafalqueref12_Push.l0 k (l.map e4) (i : Int) x.t x.s x.g = some ((l.take i ++ insL x (l.drop i)).map e4)
  | 0, i, hk, hi => by omega
  | k + 1, i, hk, hi => by
    have n1 : (((l.map e4).length : Nat) : Int) = (l.length : Int) := by rw [List.length_map]
    have t1 : ((i : Int)).toNat = i := by omega
    have b1 : ((l.map e4).take i).length ≤ 1000000 := by rw [List.length_take, List.length_map]; omega
    have b2 : ((l.map e4).drop i).length ≤ 1000000 := by rw [List.length_drop, List.length_map]; omega
    have fin : (l.map e4).take i ++ [(⟨x.t, x.s, x.g⟩ : S44)] ++ (l.map e4).drop i = (l.take i ++ x :: l.drop i).map e4 := by
      rw [List.map_append, List.map_cons, List.map_take, List.map_drop]
      simp [e4]
    simp only [PRef12.catafalqueref12_Push.l0]
    rw [n1, t1]
    by_cases h : i < l.length
    · rw [if_pos (show (i : Int) < (l.length : Int) by omega), if_pos (show (0 : Int) ≤ (i : Int) by omega), rd4 h]
      have ha := ahead_f x l[i]
      show (PRef12.catafalqueref12_Ahead.f x.t x.s x.g l[i].t l[i].s l[i].g).bind _ = _
      rw [ha]
      simp only [Option.bind_some]
      have hd : l.drop i = l[i] :: l.drop (i + 1) := List.drop_eq_getElem_cons h
      by_cases hc : cmpT x l[i] < 0
      · rw [if_pos (decide_eq_true hc), if_pos (show (i : Int) ≤ (l.length : Int) by omega)]
        simp only [Option.bind_some, List.nil_append, List.length_nil, Nat.zero_add]
        rw [if_pos (by omega), if_pos (by omega), if_pos (by rw [List.length_append, List.length_singleton]; omega), fin, hd]
        unfold insL
        rw [if_pos hc]
      · rw [if_neg (by simpa using hc), w64_succ (by omega), push_l0 x l hl k (i + 1) (by omega) (by omega), hd]
        conv => rhs; unfold insL
        rw [if_neg hc, List.take_succ_eq_append_getElem h, List.append_assoc]
        rfl
    · obtain rfl : i = l.length := by omega
      rw [if_neg (by omega)]
      simp only [Option.bind_some]
      rw [if_pos (show (0 : Int) ≤ (l.length : Int) by omega), if_pos (show (l.length : Int) ≤ (l.length : Int) by omega)]
      simp only [Option.bind_some, List.nil_append, List.length_nil, Nat.zero_add]
      rw [if_pos (by omega), if_pos (by omega), if_pos (by rw [List.length_append, List.length_singleton]; omega), fin, List.drop_length]
      rfl
theorem drop_l0 (g : Int) (l : List Tm) (hl : l.length ≤ 1000000) : ∀ (k i : Nat) (acc : List S44), l.length - i < k → i ≤ l.length → acc.length ≤ i → PRef12.catafalqueref12_Drop.l0 k (l.map e4) g acc (i : Int) = some (acc ++ (dropG g (l.drop i)).map e4)
  | 0, i, acc, hk, hi, ha => by omega
  | k + 1, i, acc, hk, hi, ha => by
    have n1 : (((l.map e4).length : Nat) : Int) = (l.length : Int) := by rw [List.length_map]
    simp only [PRef12.catafalqueref12_Drop.l0]
    rw [n1]
    by_cases h : i < l.length
    · have hd : l.drop i = l[i] :: l.drop (i + 1) := List.drop_eq_getElem_cons h
      rw [if_pos (show (i : Int) < (l.length : Int) by omega), if_pos (show (0 : Int) ≤ (i : Int) by omega), rd4 h, hd]
      show (if l[i].g = g then _ else _) = _
      by_cases hc : l[i].g = g
      · rw [if_pos hc, w64_succ (by omega), drop_l0 g l hl k (i + 1) acc (by omega) (by omega) (by omega)]
        unfold dropG
        rw [List.filter_cons_of_neg (by simp [hc])]
      · rw [if_neg hc, if_pos (by omega), w64_succ (by omega), drop_l0 g l hl k (i + 1) _ (by omega) (by omega) (by rw [List.length_append, List.length_singleton]; omega)]
        unfold dropG
        rw [List.filter_cons_of_pos (by simp [hc])]
        simp [e4]
    · obtain rfl : i = l.length := by omega
      rw [if_neg (by omega), List.drop_length]
      simp [dropG]
theorem same_l0 (l : List Tm) (hl : l.length ≤ 1000000) : ∀ (k i : Nat), l.length - i < k → i ≤ l.length → PRef12.catafalquelaw12_same.l0 k (l.map e3) (l.map e4) (i : Int) = some true
  | 0, i, hk, hi => by omega
  | k + 1, i, hk, hi => by
    have n1 : (((l.map e4).length : Nat) : Int) = (l.length : Int) := by rw [List.length_map]
    have n2 : (((l.map e3).length : Nat) : Int) = (l.length : Int) := by rw [List.length_map]
    simp only [PRef12.catafalquelaw12_same.l0]
    rw [n1, n2]
    by_cases h : i < l.length
    · rw [if_pos (show (i : Int) < (l.length : Int) by omega), if_pos (show (0 : Int) ≤ (i : Int) by omega), if_pos (show (i : Int) < (l.length : Int) by omega), rd4 h, rd3 h, if_pos (show (e3 l[i]).f0 = (e4 l[i]).f0 from rfl), if_pos (show (e3 l[i]).f1 = (e4 l[i]).f1 from rfl), if_pos (show (e3 l[i]).f2 = (e4 l[i]).f2 from rfl), w64_succ (by omega)]
      exact same_l0 l hl k (i + 1) (by omega) (by omega)
    · obtain rfl : i = l.length := by omega
      rw [if_neg (by omega)]
section
variable {w : World} {A A' : Option Addr} {c c' : Nat} {l : List Tm}
theorem same_calls (w : World) (hl : l.length ≤ 1000000) (h1 : kTm.C w A l.length l) (c1 : l.length ≤ c) (h2 : kTm.C w A' l.length l) (c2 : l.length ≤ c') :
    Calls Try.prog 18 #[.slice A l.length c, .slice A' l.length c'] w fun e w' => e = .returned (.bool true) ∧ Drawn0 w w' := by
  have h := PRef12.catafalquelaw12_same.calls (l.length + 1) A c (l.map e3) A' c' (l.map e4) true w (by rw [List.length_map]; exact to3 h1) (by rw [List.length_map]; exact c1) (by rw [List.length_map]; exact to4 h2) (by rw [List.length_map]; exact c2) (by
    unfold PRef12.catafalquelaw12_same.f
    rw [if_pos (by rw [List.length_map, List.length_map])]
    exact same_l0 l hl (l.length + 1) 0 (by omega) (by omega))
  rw [List.length_map, List.length_map] at h
  exact h
theorem refPush_calls (w : World) (x : Tm) (hl : l.length ≤ 1000000) (h1 : kTm.C w A l.length l) (c1 : l.length ≤ c) :
    Calls Try.prog 17 #[.slice A l.length c, .agg #[.int .i64 x.t, .int .i64 x.s, .int .i64 x.g]] w fun e w' => ∃ v : Value, e = .returned v ∧ Kd.R k44 44 w' w.heap.size (fun _ => True) v ((insL x l).map e4) ∧ Below w.heap.size w w' := by
  have h := PRef12.catafalqueref12_Push.calls (l.length + 1) A c (l.map e4) x.t x.s x.g ((insL x l).map e4) w (by rw [List.length_map]; exact to4 h1) (by rw [List.length_map]; exact c1) (by
    have h2 := push_l0 x l hl (l.length + 1) 0 (by omega) (by omega)
    exact h2)
  rw [List.length_map] at h
  exact h
theorem refDrop_calls (w : World) (g : Int) (hl : l.length ≤ 1000000) (h1 : kTm.C w A l.length l) (c1 : l.length ≤ c) :
    Calls Try.prog 19 #[.slice A l.length c, .int .i64 g] w fun e w' => ∃ v : Value, e = .returned v ∧ Kd.R k44 44 w' w.heap.size (fun _ => True) v ((dropG g l).map e4) ∧ Below w.heap.size w w' := by
  have h := PRef12.catafalqueref12_Drop.calls (l.length + 1) A c (l.map e4) g ((dropG g l).map e4) w (by rw [List.length_map]; exact to4 h1) (by rw [List.length_map]; exact c1) (by
    have h2 := drop_l0 g l hl (l.length + 1) 0 [] (by omega) (by omega) (by simp)
    exact h2)
  rw [List.length_map] at h
  exact h
end
end Go.Proofs.Ytkbjihnkbfjhmaa.Heap
