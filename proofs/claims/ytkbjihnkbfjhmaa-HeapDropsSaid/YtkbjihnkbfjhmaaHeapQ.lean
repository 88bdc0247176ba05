/- Heap: made anew from any row. No condition. -/
import Derived.Test.YtkbjihnkbfjhmaaDrop4
namespace Go.Proofs.Ytkbjihnkbfjhmaa.Heap
set_option linter.unusedVariables false
set_option linter.unusedSimpArgs false
def heapFrom (b : Nat) (l : List Tm) : Prop := ∀ j, 0 < j → j < l.length → b ≤ (j - 1) / 2 → le (tat l ((j - 1) / 2)) (tat l j)
structure DnB (b : Nat) (l : List Tm) (i : Nat) : Prop where
  at_ : b ≤ i
  rest : ∀ j, 0 < j → j < l.length → b ≤ (j - 1) / 2 → (j - 1) / 2 ≠ i → le (tat l ((j - 1) / 2)) (tat l j)
  kids : ∀ j, 0 < j → j < l.length → (j - 1) / 2 = i → 0 < i → b ≤ (i - 1) / 2 → le (tat l ((i - 1) / 2)) (tat l j)
theorem DnB.step {b : Nat} {l : List Tm} {i : Nat} (h : DnB b l i) (hi : i < l.length) (hm : leastOf l i ≠ i) : DnB b (swp l i (leastOf l i)) (leastOf l i) := by
  obtain ⟨s1, s2, s3⟩ := leastOf_spec hi
  generalize leastOf l i = m at s1 s2 s3 hm ⊢
  have s3 := s3.resolve_left hm
  have sw := tat_swp hi s3.2.2
  have hb := h.at_
  refine ⟨by omega, fun j j0 jl jb jp => ?_, fun j j0 jl jp m0 mb => ?_⟩
  · rw [swp_len] at jl
    by_cases e1 : j = i
    · subst e1
      rw [sw j, if_neg (by omega), if_pos rfl, sw, if_neg (by omega), if_neg (by omega)]
      exact h.kids m s3.2.1 s3.2.2 s3.1 j0 jb
    · by_cases e2 : j = m
      · subst e2
        rw [sw j, if_pos rfl, sw, if_neg (by omega), if_pos s3.1]
        exact s2
      · rw [sw j, if_neg e2, if_neg e1, sw, if_neg (by omega)]
        by_cases e3 : (j - 1) / 2 = i
        · rw [if_pos e3]; exact s1 j j0 jl e3
        · rw [if_neg e3]; exact h.rest j j0 jl jb e3
  · rw [swp_len] at jl
    rw [sw ((m - 1) / 2), if_neg (by omega), if_pos s3.1, sw j, if_neg (by omega), if_neg (by omega)]
    have := h.rest j j0 jl (by omega) (by omega)
    rw [jp] at this
    exact this
theorem DnB.done {b : Nat} {l : List Tm} {i : Nat} (h : DnB b l i) (hm : i < l.length → leastOf l i = i) : heapFrom b l := fun j j0 jl jb => by
  by_cases e : (j - 1) / 2 = i
  · have hi : i < l.length := by omega
    have := (leastOf_spec hi).1 j j0 jl e
    rw [hm hi] at this
    rw [e]; exact this
  · exact h.rest j j0 jl jb e
theorem downB : ∀ (f : Nat) (b : Nat) (l : List Tm) (i : Nat), l.length - i < f → DnB b l i → heapFrom b (downL f l i)
  | 0, b, l, i, hf, h => by omega
  | f + 1, b, l, i, hf, h => by
    simp only [downL]
    by_cases hm : leastOf l i = i
    · rw [if_pos hm]; exact h.done (fun _ => hm)
    · rw [if_neg hm]
      have hc := (leastOf_cases l i).resolve_left hm
      exact downB f b _ _ (by rw [swp_len]; omega) (h.step (by omega) hm)
theorem heapify_heap : ∀ (k : Nat) (l : List Tm), heapFrom k l → isHeap (heapify k l)
  | 0, l, h => fun j j0 jl => h j j0 jl (Nat.zero_le _)
  | k + 1, l, h => by
    rw [heapify]
    refine heapify_heap k _ (downB _ k l k (by omega) ⟨Nat.le_refl _, fun j j0 jl jb jp => h j j0 jl (by omega), fun j j0 jl jp i0 ib => by omega⟩)
theorem dropL_heap (g : Int) (l : List Tm) : isHeap (dropL g l) := heapify_heap _ _ (fun j j0 jl jb => by omega)
theorem dropL_perm (g : Int) (l : List Tm) : (dropL g l).Perm (dropG g l) := heapify_perm _ _
theorem dropG_perm {g : Int} {l m : List Tm} (h : l.Perm m) : (dropG g l).Perm (dropG g m) := h.filter _
end Go.Proofs.Ytkbjihnkbfjhmaa.Heap
