/- Heap: each is behind the one above it, and stays so; nobody is lost. No condition. -/
import Derived.Test.YtkbjihnkbfjhmaaHHeapOrder
namespace Go.Proofs.Ytkbjihnkbfjhmaa.Heap
set_option linter.unusedVariables false
set_option linter.unusedSimpArgs false
def tat (l : List Tm) (i : Nat) : Tm := l.getD i zeroTm
def le (x y : Tm) : Prop := cmpT x y ≤ 0
theorem le_refl (x : Tm) : le x x := by unfold le; rw [(cmp_zero x x).mpr rfl]; omega
theorem le_trans {x y z : Tm} (h1 : le x y) (h2 : le y z) : le x z := cmp_trans x y z h1 h2
theorem le_of_not {x y : Tm} (h : ¬ le x y) : le y x := by
  unfold le at *
  have := cmp_neg x y
  omega
theorem tat_get {l : List Tm} {i : Nat} (h : i < l.length) : tat l i = l[i] := by unfold tat; rw [List.getD_eq_getElem?_getD, List.getElem?_eq_getElem h]; rfl
theorem tat_mem {l : List Tm} {i : Nat} (h : i < l.length) : tat l i ∈ l := by rw [tat_get h]; exact List.getElem_mem _
theorem ahd_iff {l : List Tm} {i k : Nat} (hi : i < l.length) (hk : k < l.length) : ahd l i k = true ↔ ¬ le (tat l k) (tat l i) := by
  unfold ahd le
  rw [dif_pos ⟨hi, hk⟩, decide_eq_true_eq, tat_get hi, tat_get hk]
  have := cmp_neg l[i] l[k]
  omega
theorem tat_swp {l : List Tm} {i k : Nat} (hi : i < l.length) (hk : k < l.length) (j : Nat) : tat (swp l i k) j = if j = k then tat l i else if j = i then tat l k else tat l j := by
  rw [tat_get hi, tat_get hk]
  unfold swp
  rw [dif_pos ⟨hi, hk⟩]
  unfold tat
  simp only [List.getD_eq_getElem?_getD, List.getElem?_set, List.length_set]
  by_cases h1 : j = k
  · subst h1
    rw [if_pos rfl, if_pos hk, if_pos rfl]; rfl
  · rw [if_neg (Ne.symm h1), if_neg h1]
    by_cases h2 : j = i
    · subst h2
      rw [if_pos rfl, if_pos hi, if_pos rfl]; rfl
    · rw [if_neg (Ne.symm h2), if_neg h2]
def isHeap (l : List Tm) : Prop := ∀ j, 0 < j → j < l.length → le (tat l ((j - 1) / 2)) (tat l j)
structure UpInv (l : List Tm) (i : Nat) : Prop where
  rest : ∀ j, 0 < j → j < l.length → j ≠ i → le (tat l ((j - 1) / 2)) (tat l j)
  kids : ∀ j, 0 < j → j < l.length → (j - 1) / 2 = i → 0 < i → le (tat l ((i - 1) / 2)) (tat l j)
theorem UpInv.step {l : List Tm} {i : Nat} (h : UpInv l i) (h0 : 0 < i) (hi : i < l.length) (hlt : ¬ le (tat l ((i - 1) / 2)) (tat l i)) : UpInv (swp l i ((i - 1) / 2)) ((i - 1) / 2) := by
  have hlt' := le_of_not hlt
  obtain ⟨p, hp⟩ : ∃ p, p = (i - 1) / 2 := ⟨_, rfl⟩
  rw [← hp] at hlt' ⊢
  have hpi : p < i := by omega
  have hpl : p < l.length := by omega
  have sw := tat_swp hi hpl
  refine ⟨fun j j0 jl jp => ?_, fun j j0 jl jp p0 => ?_⟩
  · rw [swp_len] at jl
    by_cases e1 : j = i
    · subst e1
      rw [← hp, sw, sw, if_pos rfl, if_neg jp, if_pos rfl]
      exact hlt'
    · rw [sw j, if_neg jp, if_neg e1, sw]
      by_cases e2 : (j - 1) / 2 = i
      · rw [if_neg (by omega), if_pos e2, hp]
        exact h.kids j j0 jl e2 h0
      · by_cases e3 : (j - 1) / 2 = p
        · rw [if_pos e3]
          have := h.rest j j0 jl e1
          rw [e3] at this
          exact le_trans hlt' this
        · rw [if_neg e3, if_neg e2]
          exact h.rest j j0 jl e1
  · rw [swp_len] at jl
    have hq := h.rest p p0 hpl (by omega)
    rw [sw ((p - 1) / 2), if_neg (by omega), if_neg (by omega), sw j]
    by_cases e1 : j = i
    · rw [if_neg (by omega), if_pos e1]; exact hq
    · rw [if_neg (by omega), if_neg e1]
      have := h.rest j j0 jl e1
      rw [jp] at this
      exact le_trans hq this
theorem UpInv.done {l : List Tm} {i : Nat} (h : UpInv l i) (hd : i = 0 ∨ le (tat l ((i - 1) / 2)) (tat l i)) : isHeap l := fun j j0 jl => by
  by_cases e : j = i
  · subst e
    rcases hd with hd | hd
    · omega
    · exact hd
  · exact h.rest j j0 jl e
theorem up_heap : ∀ (f : Nat) (l : List Tm) (i : Nat), i ≤ f → i < l.length → UpInv l i → isHeap (upL f l i)
  | 0, l, i, hf, hi, h => h.done (.inl (by omega))
  | f + 1, l, i, hf, hi, h => by
    simp only [upL]
    by_cases h0 : 0 < i
    · have hk : (i - 1) / 2 < l.length := by omega
      by_cases hb : ahd l i ((i - 1) / 2) = true
      · rw [if_pos ⟨h0, hb⟩]
        exact up_heap f _ _ (by omega) (by rw [swp_len]; omega) (h.step h0 hi ((ahd_iff hi hk).mp hb))
      · rw [if_neg (fun h => hb h.2)]
        exact h.done (.inr (Classical.byContradiction fun hc => hb ((ahd_iff hi hk).mpr hc)))
    · rw [if_neg (fun h => h0 h.1)]
      exact h.done (.inl (by omega))
theorem swp_perm (l : List Tm) (i k : Nat) : (swp l i k).Perm l := by
  unfold swp
  split
  · rename_i h
    exact List.set_set_perm h.1 h.2
  · exact List.Perm.refl _
theorem up_perm : ∀ (f : Nat) (l : List Tm) (i : Nat), (upL f l i).Perm l
  | 0, l, i => List.Perm.refl _
  | f + 1, l, i => by
    simp only [upL]
    split
    · exact (up_perm f _ _).trans (swp_perm _ _ _)
    · exact List.Perm.refl _
theorem push_perm (l : List Tm) (x : Tm) : (pushL l x).Perm (x :: l) := (up_perm _ _ _).trans (List.perm_append_singleton x l)
theorem tat_append {l : List Tm} {x : Tm} {j : Nat} (h : j < l.length) : tat (l ++ [x]) j = tat l j := by
  unfold tat
  rw [List.getD_eq_getElem?_getD, List.getD_eq_getElem?_getD, List.getElem?_append_left h]
theorem push_heap {l : List Tm} (h : isHeap l) (x : Tm) : isHeap (pushL l x) := by
  unfold pushL
  refine up_heap _ _ _ (Nat.le_refl _) (by simp) ⟨fun j j0 jl jn => ?_, fun j j0 jl jp i0 => ?_⟩
  · rw [List.length_append, List.length_singleton] at jl
    rw [tat_append (by omega), tat_append (by omega)]
    exact h j j0 (by omega)
  · rw [List.length_append, List.length_singleton] at jl
    omega
structure DnInv (l : List Tm) (i : Nat) : Prop where
  rest : ∀ j, 0 < j → j < l.length → (j - 1) / 2 ≠ i → le (tat l ((j - 1) / 2)) (tat l j)
  kids : ∀ j, 0 < j → j < l.length → (j - 1) / 2 = i → 0 < i → le (tat l ((i - 1) / 2)) (tat l j)
/-- The least of a place and those below it. -/
theorem leastOf_spec {l : List Tm} {i : Nat} (hi : i < l.length) : (∀ j, 0 < j → j < l.length → (j - 1) / 2 = i → le (tat l (leastOf l i)) (tat l j)) ∧ le (tat l (leastOf l i)) (tat l i) ∧ (leastOf l i = i ∨ (leastOf l i - 1) / 2 = i ∧ 0 < leastOf l i ∧ leastOf l i < l.length) := by
  have key : ∀ a k, a < l.length → le (tat l (pick1 l a k)) (tat l a) ∧ (k < l.length → le (tat l (pick1 l a k)) (tat l k)) ∧ (pick1 l a k = a ∨ pick1 l a k = k ∧ k < l.length) := fun a k ha => by
    unfold pick1
    by_cases hk : k < l.length
    · by_cases hb : ahd l k a = true
      · rw [if_pos ⟨hk, hb⟩]
        exact ⟨le_of_not ((ahd_iff hk ha).mp hb), fun _ => le_refl _, .inr ⟨rfl, hk⟩⟩
      · rw [if_neg (fun h => hb h.2)]
        exact ⟨le_refl _, fun _ => Classical.byContradiction fun hc => hb ((ahd_iff hk ha).mpr hc), .inl rfl⟩
    · rw [if_neg (fun h => hk h.1)]
      exact ⟨le_refl _, fun h => absurd h hk, .inl rfl⟩
  obtain ⟨a1, a2, a3⟩ := key i (2 * i + 1) hi
  unfold leastOf
  generalize pick1 l i (2 * i + 1) = a at a1 a2 a3 ⊢
  have hal : a < l.length := by rcases a3 with a3 | a3 <;> omega
  obtain ⟨b1, b2, b3⟩ := key a (2 * i + 2) hal
  generalize pick1 l a (2 * i + 2) = m at b1 b2 b3 ⊢
  refine ⟨fun j j0 jl jp => ?_, le_trans b1 a1, ?_⟩
  · have : j = 2 * i + 1 ∨ j = 2 * i + 2 := by omega
    rcases this with rfl | rfl
    · exact le_trans b1 (a2 jl)
    · exact b2 jl
  · rcases b3 with b3 | b3
    · rcases a3 with a3 | a3
      · exact .inl (by omega)
      · exact .inr ⟨by omega, by omega, by omega⟩
    · exact .inr ⟨by omega, by omega, by omega⟩
theorem DnInv.step {l : List Tm} {i : Nat} (h : DnInv l i) (hi : i < l.length) (hm : leastOf l i ≠ i) : DnInv (swp l i (leastOf l i)) (leastOf l i) := by
  obtain ⟨s1, s2, s3⟩ := leastOf_spec hi
  generalize leastOf l i = m at s1 s2 s3 hm ⊢
  have s3 := s3.resolve_left hm
  have sw := tat_swp hi s3.2.2
  refine ⟨fun j j0 jl jp => ?_, fun j j0 jl jp m0 => ?_⟩
  · rw [swp_len] at jl
    by_cases e1 : j = i
    · subst e1
      rw [sw j, if_neg (by omega), if_pos rfl, sw, if_neg (by omega), if_neg (by omega)]
      exact h.kids m s3.2.1 s3.2.2 s3.1 j0
    · by_cases e2 : j = m
      · subst e2
        rw [sw j, if_pos rfl, sw, if_neg (by omega), if_pos s3.1]
        exact s2
      · rw [sw j, if_neg e2, if_neg e1, sw, if_neg (by omega)]
        by_cases e3 : (j - 1) / 2 = i
        · rw [if_pos e3]; exact s1 j j0 jl e3
        · rw [if_neg e3]; exact h.rest j j0 jl e3
  · rw [swp_len] at jl
    rw [sw ((m - 1) / 2), if_neg (by omega), if_pos s3.1, sw j, if_neg (by omega), if_neg (by omega)]
    have := h.rest j j0 jl (by omega)
    rw [jp] at this
    exact this
theorem DnInv.done {l : List Tm} {i : Nat} (h : DnInv l i) (hm : i < l.length → leastOf l i = i) : isHeap l := fun j j0 jl => by
  by_cases e : (j - 1) / 2 = i
  · have hi : i < l.length := by omega
    have := (leastOf_spec hi).1 j j0 jl e
    rw [hm hi] at this
    rw [e]; exact this
  · exact h.rest j j0 jl e
theorem down_heap : ∀ (f : Nat) (l : List Tm) (i : Nat), l.length - i < f → DnInv l i → isHeap (downL f l i)
  | 0, l, i, hf, h => by omega
  | f + 1, l, i, hf, h => by
    simp only [downL]
    by_cases hm : leastOf l i = i
    · rw [if_pos hm]; exact h.done (fun _ => hm)
    · rw [if_neg hm]
      have hc := (leastOf_cases l i).resolve_left hm
      exact down_heap f _ _ (by rw [swp_len]; omega) (h.step (by omega) hm)
theorem down_perm : ∀ (f : Nat) (l : List Tm) (i : Nat), (downL f l i).Perm l
  | 0, l, i => List.Perm.refl _
  | f + 1, l, i => by
    simp only [downL]
    split
    · exact List.Perm.refl _
    · exact (down_perm f _ _).trans (swp_perm _ _ _)
theorem tat_take {l : List Tm} {n j : Nat} (h : j < n) : tat (l.take n) j = tat l j := by
  unfold tat
  rw [List.getD_eq_getElem?_getD, List.getD_eq_getElem?_getD, List.getElem?_take, if_pos h]
theorem pop_heap {x : Tm} {l : List Tm} (h : isHeap (x :: l)) : isHeap (popL (x :: l)) := by
  unfold popL
  have hn : (x :: l).length - 1 = l.length := by simp
  rw [hn]
  refine down_heap _ _ _ (by rw [List.length_take, swp_len]; omega) ⟨fun j j0 jl jp => ?_, fun j j0 jl jp i0 => by omega⟩
  rw [List.length_take, swp_len] at jl
  have h1 : 0 < (x :: l).length := by simp
  have h2 : l.length < (x :: l).length := by simp
  have h3 : j < (x :: l).length := by simp; omega
  rw [tat_take (by omega), tat_take (by omega), tat_swp h1 h2, tat_swp h1 h2, if_neg (by omega), if_neg (by omega), if_neg (by omega), if_neg (by omega)]
  exact h j j0 h3
theorem pop_perm (x : Tm) (l : List Tm) : (popL (x :: l)).Perm l := by
  unfold popL
  have hn : (x :: l).length - 1 = l.length := by simp
  rw [hn]
  refine (down_perm _ _ _).trans ?_
  have h1 : 0 < (x :: l).length := by simp
  have h2 : l.length < (x :: l).length := by simp
  have hl : (swp (x :: l) 0 l.length).length = l.length + 1 := by rw [swp_len]; simp
  have e : swp (x :: l) 0 l.length = (swp (x :: l) 0 l.length).take l.length ++ [x] := by
    have h3 := List.take_succ_eq_append_getElem (show l.length < (swp (x :: l) 0 l.length).length by omega)
    rw [show l.length + 1 = (swp (x :: l) 0 l.length).length by omega, List.take_length] at h3
    have h4 : (swp (x :: l) 0 l.length)[l.length]'(by omega) = x := by
      rw [← tat_get (by omega), tat_swp h1 h2, if_pos rfl]; rfl
    rw [h4] at h3
    exact h3
  have hp := swp_perm (x :: l) 0 l.length
  rw [e] at hp
  exact ((List.perm_append_singleton x _).symm.trans hp).cons_inv
theorem head_least {x : Tm} {l : List Tm} (h : isHeap (x :: l)) : ∀ y ∈ x :: l, le x y := by
  have key : ∀ n j, j ≤ n → j < (x :: l).length → le x (tat (x :: l) j) := by
    intro n
    induction n with
    | zero => intro j hj hl; have h0 : j = 0 := (by omega); subst h0; exact le_refl _
    | succ n ih =>
      intro j hj hl
      by_cases j0 : j = 0
      · subst j0; exact le_refl _
      · exact le_trans (ih ((j - 1) / 2) (by omega) (by omega)) (h j (by omega) hl)
  intro y hy
  obtain ⟨j, hj, rfl⟩ := List.getElem_of_mem hy
  have := key j j (Nat.le_refl _) hj
  rw [tat_get hj] at this
  exact this
theorem heap_nil : isHeap [] := fun j _ h => by simp at h
end Go.Proofs.Ytkbjihnkbfjhmaa.Heap
