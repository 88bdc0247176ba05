/- Timers sorted in memory. No condition. -/
import Derived.Test.YtkbjihnkbfjhmaaIter2
import Derived.Test.YtkbjihnkbfjhmaaHeapP
import Derived.Test.YtkbjihnkbfjhmaaUp3
import Derived.Test.YtkbjihnkbfjhmaaSorts
namespace Go.Proofs.Ytkbjihnkbfjhmaa.Heap
open Go Go.Proofs Go.RowKit Go.Shelf Go.Sort Go.Proofs.Ytkbjihnkbfjhmaa.Own Go.Proofs.YtkbjihnkbfjhmaaW.PrintWords Go.Proofs.YtkbjihnkbfjhmaaW.PrintLast Go.Proofs.YtkbjihnkbfjhmaaW.PrintMore
set_option linter.unusedVariables false
set_option linter.unusedSimpArgs false
instance : Inhabited Tm := ⟨⟨0, 0, 0⟩⟩
theorem cells_len (x : Tm) : x.cells.length = 3 := rfl
theorem flat_len (l : List Tm) : (flat l).length = l.length * 3 := by
  induction l with
  | nil => rfl
  | cons x l ih => simp only [flat, List.flatMap_cons, List.length_append, List.length_cons] at ih ⊢; rw [ih, cells_len]; omega
theorem flat_get : ∀ (l : List Tm) (t : Nat), t < l.length * 3 → (flat l)[t]? = some ((l[t / 3]!).cells[t % 3]!)
  | [], t, h => by simp at h
  | x :: l, t, h => by
    have e : flat (x :: l) = x.cells ++ flat l := by simp [flat]
    rw [e]
    by_cases ht : t < 3
    · rw [List.getElem?_append_left (by rw [cells_len]; exact ht)]
      have h1 : t / 3 = 0 := by omega
      have h2 : t % 3 = t := by omega
      rw [h1, h2, List.getElem!_cons_zero]
      rw [List.getElem?_eq_getElem (by rw [cells_len]; exact ht), getElem!_pos _ t (by rw [cells_len]; exact ht)]
    · rw [List.getElem?_append_right (by rw [cells_len]; omega), cells_len, flat_get l (t - 3) (by simp at h; omega)]
      have h1 : t / 3 = (t - 3) / 3 + 1 := by omega
      have h2 : t % 3 = (t - 3) % 3 := by omega
      rw [h1, h2, List.getElem!_cons_succ]
theorem flatK_get (l : List Tm) (t : Nat) (h : t < l.length * 3) : (flat l)[t]? = some (flatK Tm.cells 3 l.toArray)[t]! := by
  rw [flat_get l t h, get_flatK _ _ _ _ (by simpa using h)]
  simp
def leB (x y : Tm) : Bool := !(ltOf cmpT) y x
def sortL (l : List Tm) : List Tm := l.mergeSort leB
theorem sortL_len (l : List Tm) : (sortL l).length = l.length := (List.mergeSort_perm l _).length_eq
theorem leB_iff (x y : Tm) : leB x y = true ↔ le x y := by
  unfold leB ltOf le
  have := cmp_neg x y
  simp
  omega
theorem swo : SWO (ltOf cmpT) where
  irrefl x := by have := (leB_iff x x).mpr (le_refl x); unfold leB at this; simpa using this
  trans x y z h1 h2 := by
    have a := leB_iff y x
    have b := leB_iff z y
    have c := leB_iff z x
    unfold leB at a b c
    rw [h1] at a; rw [h2] at b
    by_cases h3 : ltOf cmpT x z = true
    · exact h3
    · rw [Bool.not_eq_true] at h3
      rw [h3] at c
      have hzx : le z x := c.mp rfl
      have hyx : ¬ le y x := fun h => by have := a.mpr h; simp at this
      have hzy : ¬ le z y := fun h => by have := b.mpr h; simp at this
      exact absurd (le_trans (le_of_not hzy) hzx) hyx
  ntrans x y z h1 h2 := by
    have a := leB_iff y x
    have b := leB_iff z y
    have c := leB_iff z x
    unfold leB at a b c
    rw [h1] at a; rw [h2] at b
    have := c.mpr (le_trans (b.mp rfl) (a.mp rfl))
    simpa using this
theorem parts (x y : Tm) (h1 : ltOf cmpT x y = false) (h2 : ltOf cmpT y x = false) : x = y := by
  have a := (leB_iff y x).mp (by unfold leB; rw [h1]; rfl)
  have b := (leB_iff x y).mp (by unfold leB; rw [h2]; rfl)
  have hn := cmp_neg x y
  unfold le at a b
  exact (cmp_zero x y).mp (by omega)
set_option maxHeartbeats 1000000 in
theorem sort_calls (w : World) (n₀ : Nat) (v : Value) (l : List Tm) (hl : l.length ≤ 1000000) (hown : w.ownsRow n₀ 23 3 v l.length (flat l)) :
    Calls Try.prog 35 #[v, .func (.func 10) #[] #[]] w fun e w' => e = .returned (.tuple #[]) ∧ w'.ownsRow n₀ 23 3 v l.length (flat (sortL l)) ∧ Below n₀ w w' := by
  rcases hown.2 with ⟨rfl, h0⟩ | ⟨g, cap, cur, rfl, hg, hb, h1, h2, h3, h4⟩
  · have hl0 : l = [] := List.length_eq_zero_iff.mp h0
    subst hl0
    refine Calls.mono (AnyF.slices_SortFunc_none Try.sortL none 0 (.func (.func 10) #[] #[]) w) ?_
    rintro e w' ⟨rfl, rfl⟩
    have e0 : sortL [] = [] := List.length_eq_zero_iff.mp (sortL_len [])
    rw [e0]
    exact ⟨rfl, hown, Below.refl _ _⟩
  · have hlt : g < w.heap.size := (Array.getElem?_eq_some_iff.1 hb).1
    have hcl : l.length ≤ cap := h1
    have hsz : cur.size = cap * 3 := h3
    have hH : HoldsK Tm.cells 3 w g 0 l.toArray := fun j hj => by
      rw [size_flatK] at hj
      have hj' : j < l.length * 3 := by simpa using hj
      have hc := hown.cells (g := g) rfl j _ (flatK_get l j hj')
      have e1 : (⟨g, 0, none⟩ : Addr).add j = ⟨g, 0 + j, none⟩ := by simp only [Addr.add]; split <;> simp_all
      rw [e1] at hc
      exact ⟨hc, by simp [World.frozen?, hb]⟩
    have hcon := AnyQ.slices_SortFunc_total Try.sortL 3 Try.isAgg23 Try.sizeOf23 Tm.cells cells_len (fun x u hu => by simp [Tm.cells] at hu; rcases hu with rfl | rfl | rfl <;> rfl) cmpT swo 10 #[] g 0 cap l.toArray w (enters_of Try.func10 (by kernel_rfl) rfl)
      (fun m os dk hs x y => Go.Proofs.Ytkbjihnkbfjhmaa.Up.calls_grown (cmp_calls x y _)) hH hlt (by simp; omega) parts
    refine Calls.mono hcon ?_
    rintro e w' ⟨rfl, n, os, rfl⟩
    refine ⟨rfl, ?_, ?_⟩
    · refine ⟨by rw [flat_len, sortL_len], .inr ⟨g, cap, putCells id 0 (flatK Tm.cells 3 (sortL l).toArray) cur, rfl, hg, ?_, h1, h2, ?_, ?_⟩⟩
      · show ((mapBlock (Sort.ahead w n) g (putCells id 0 (flatK Tm.cells 3 (sortL l).toArray))).heap ++ os)[g]? = _
        have hm : (mapBlock (Sort.ahead w n) g (putCells id 0 (flatK Tm.cells 3 (sortL l).toArray))).heap[g]? = some (.cells (putCells id 0 (flatK Tm.cells 3 (sortL l).toArray) cur) 23 (0, 0)) := by
          show (w.heap.modify g _)[g]? = _
          rw [Array.getElem?_modify, if_pos rfl, hb]
          rfl
        rw [Array.getElem?_append_left (Array.getElem?_eq_some_iff.1 hm).1]
        exact hm
      · simp [putCells, hsz]
      · refine List.ext_getElem? fun i => ?_
        by_cases hi : i < l.length * 3
        · rw [List.getElem?_take, if_pos hi, flatK_get (sortL l) i (by rw [sortL_len]; exact hi)]
          have hic : i < cur.size := by rw [hsz]; exact Nat.lt_of_lt_of_le hi (Nat.mul_le_mul_right _ hcl)
          rw [Array.getElem?_toList]
          unfold putCells
          rw [Array.getElem?_mapIdx, Array.getElem?_eq_getElem hic]
          simp [sortL_len, hi]
        · rw [List.getElem?_eq_none (by simp; omega), List.getElem?_eq_none (by rw [flat_len, sortL_len]; omega)]
    · refine ⟨rfl, rfl, rfl, ?_, fun k hk => ?_⟩
      · show w.heap.size ≤ ((w.heap.modify g _) ++ os).size
        simp
      · show ((w.heap.modify g _) ++ os)[k]? = _
        rw [Array.getElem?_append_left (by simp; omega), Array.getElem?_modify, if_neg (by omega)]
end Go.Proofs.Ytkbjihnkbfjhmaa.Heap
