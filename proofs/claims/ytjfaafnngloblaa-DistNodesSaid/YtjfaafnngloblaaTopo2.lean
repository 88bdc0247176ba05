/- The tree of processors, second part. No condition. -/
import Derived.Test.YtjfaafnngloblaaTopo
namespace Go.Proofs.Ytjfaafnngloblaa.Ev
open Go Go.Proofs
set_option linter.unusedVariables false
set_option linter.unusedSimpArgs false
open Go.RowKit (wrap64)
set_option maxRecDepth 100000
attribute [go_sem] wrc splice
section
variable {X : Prims} (hX : Low X)
include hX
theorem procs_g (t : List SVtx) (ht : t.length ≤ 1000) : Gv P X 28 [encT t] (L (vsOf t 3)) := by
  refine gv_of (hX _ (by decide)) fun28 rfl ?_
  simp +decide only [Try.f28, encT, go_sem]
  refine WO_call rfl rfl rfl rfl rfl (level_g hX t 3 ht) ?_
  simp +decide only [go_sem]
  exact ⟨_, rfl, rfl, rfl⟩
theorem nodes_g (t : List SVtx) (ht : t.length ≤ 1000) : Gv P X 27 [encT t] (L (vsOf t 1)) := by
  refine gv_of (hX _ (by decide)) fun27 rfl ?_
  simp +decide only [Try.f27, encT, go_sem]
  refine WO_call rfl rfl rfl rfl rfl (level_g hX t 1 ht) ?_
  simp +decide only [go_sem]
  exact ⟨_, rfl, rfl, rfl⟩
theorem below_g (t : List SVtx) (i : Nat) (hi : i < t.length) (ht : t.length ≤ 1000) : Gv P X 41 [encT t, I i] (B (belowB t i)) := by
  refine gv_of (hX _ (by decide)) fun41 rfl ?_
  have hx := vtx_at hi
  simp +decide only [Try.f41, encT, go_sem, hx, encV, Nat.reduceAdd]
  refine Wif_of (fun h => ?_) (fun h => ?_)
  · have h0 : i = 0 := by simpa using h
    subst h0
    by_cases h1 : par t 0 = -1
    · simp +decide only [go_sem, h1, Nat.reduceAdd]
      exact ⟨_, rfl, rfl, by by_cases h2 : lev t 0 = 0 <;> simp [belowB, h1, h2]⟩
    · have h2 : (par t 0 == -1) = false := by simpa using h1
      simp +decide only [go_sem, h2, Nat.reduceAdd]
      exact ⟨_, rfl, rfl, by simp [belowB, h1]⟩
  · have h0 : i ≠ 0 := by simpa using h
    simp +decide only [go_sem]
    refine W_draw hmx (by kernel_rfl) ?_
    by_cases h1 : 0 ≤ par t i
    · by_cases h2 : par t i < i
      · have hp := vtx_at (show (par t i).toNat < t.length by omega)
        by_cases h3 : lev t i = wrap64 (lev t (par t i).toNat + 1)
        · have h4 : (lev t i == wrap64 (lev t (par t i).toNat + 1)) = true := by simpa using h3
          simp +decide only [go_sem, h1, h2, h4, hp, encV, wrap_eq, Nat.reduceAdd]
          exact ⟨_, rfl, rfl, by simp [belowB, h0, h1, h2, ← h3]⟩
        · have h4 : (lev t i == wrap64 (lev t (par t i).toNat + 1)) = false := by simpa using h3
          simp +decide only [go_sem, h1, h2, h4, hp, encV, wrap_eq, Nat.reduceAdd]
          exact ⟨_, rfl, rfl, by simp [belowB, h0, h3]⟩
      · simp +decide only [go_sem, h1, h2, Nat.reduceAdd]
        exact ⟨_, rfl, rfl, by simp [belowB, h0, h2]⟩
    · simp +decide only [go_sem, h1, Nat.reduceAdd]
      exact ⟨_, rfl, rfl, by simp [belowB, h0, h1]⟩
set_option maxHeartbeats 1000000 in
theorem check_g (t : List SVtx) (ht : t.length ≤ 1000) : Gv P X 34 [encT t] (I (if Valid t then 0 else 2)) := by
  refine gv_of (hX _ (by decide)) fun34 rfl ?_
  by_cases h1 : (t.length : Int) < 1
  · have hv : ¬ Valid t := fun h => by have := h.1; omega
    simp +decide only [Try.f34, encT, go_sem, h1]
    refine WO_not rfl (.inl rfl) ?_
    simp +decide only [go_sem]
    exact ⟨_, rfl, rfl, by simp [hv]⟩
  by_cases h2 : 64 < (t.length : Int)
  · have hv : ¬ Valid t := fun h => by have := h.2.1; omega
    simp +decide only [Try.f34, encT, go_sem, h1, h2]
    refine WO_not rfl (.inl rfl) ?_
    simp +decide only [go_sem]
    exact ⟨_, rfl, rfl, by simp [hv]⟩
  simp +decide only [Try.f34, encT, go_sem, h1, h2]
  refine WO_call rfl rfl rfl rfl rfl (procs_g hX t ht) ?_
  by_cases h3 : 32 < ((vsOf t 3).length : Int)
  · have hv : ¬ Valid t := fun h => by have := h.2.2.1; omega
    simp +decide only [go_sem, h3]
    exact ⟨_, rfl, rfl, by simp [hv]⟩
  simp +decide only [go_sem, h3]
  refine W_ind (fun n s => ∃ i, i + n = t.length ∧ FrIs 50 [(0, .sl .no (t.map encV)), (21, I t.length), (22, I i)] s.fr ∧ s.S = [] ∧ s.T = [] ∧ ∀ j, j < i → okAt t j = true) ?_ (n := t.length) ⟨0, by omega, ⟨rfl, rfl, rfl, by simp, trivial⟩, rfl, rfl, fun j h => absurd h (Nat.not_lt_zero j)⟩
  rintro n ⟨L, S, T⟩ ih ⟨i, hi, hF, rfl, rfl, hall⟩
  obtain ⟨j, rfl⟩ := hF.ex
  simp +decide only [fr, jl, Nat.reduceAdd, go_sem]
  refine Wif_of (fun h => ?_) (fun h => ?_)
  · have hlt : i < t.length := by simpa using h
    have hx := vtx_at hlt
    have hw := wrap_nat i (by omega)
    simp +decide only [go_sem]
    refine WO_call rfl rfl rfl rfl rfl (kids_g hX t i ht) ?_
    simp +decide only [go_sem, hx, encV]
    refine WO_call rfl rfl rfl rfl rfl (below_g hX t i hlt ht) ?_
    have hok : okAt t i = (belowB t i && ((lev t i == 3) == ((kidsOf t (i : Int)).length == 0)) && decide ((kidsOf t (i : Int)).length ≤ 8)) := rfl
    have hK : pick (fun j => decide (par t j = (i : Int))) t.length 0 = kidsOf t (i : Int) := rfl
    have he : ((((kidsOf t (i : Int)).length : Int) == 0) : Bool) = ((kidsOf t (i : Int)).length == 0) := by
      by_cases h : (kidsOf t (i : Int)).length = 0
      · simp [h]
      · have h2 : ¬ ((kidsOf t (i : Int)).length : Int) = 0 := by omega
        rw [beq_eq_false_iff_ne.mpr h2, beq_eq_false_iff_ne.mpr h]
    have hno : okAt t i = false → ¬ Valid t := fun h hv => by have := hv.2.2.2 i hlt; rw [h] at this; cases this
    rw [hK]
    generalize hq : okAt t i = q at hok hno
    generalize hb : belowB t i = b at hok
    generalize hl : (lev t i == 3) = c at hok
    generalize hk : (kidsOf t (i : Int)).length = m at hok he
    generalize hm : (m == 0) = d at hok he
    cases b with
    | false =>
      simp +decide only [go_sem, hb, hl]
      exact ⟨_, rfl, rfl, by simp [hno (by simpa using hok)]⟩
    | true =>
      by_cases hcd : (c == d) = true
      · by_cases h8 : 8 < (m : Int)
        · simp +decide only [go_sem, hb, hl, hk, he, hcd, h8]
          exact ⟨_, rfl, rfl, by simp [hno (by simp [hok]; omega)]⟩
        · simp +decide only [go_sem, hb, hl, hk, he, hcd, h8, hw]
          refine ih (n - 1) _ (by omega) ⟨i + 1, by omega, ⟨rfl, rfl, rfl, rfl, trivial⟩, rfl, rfl, fun j hj => ?_⟩
          by_cases hji : j = i
          · subst hji; rw [hq, hok]; simp [hcd]; omega
          · exact hall j (by omega)
      · rw [Bool.not_eq_true] at hcd
        simp +decide only [go_sem, hb, hl, hk, he, hcd]
        exact ⟨_, rfl, rfl, by simp [hno (by simp [hok, hcd])]⟩
  · have hi' : i = t.length := by simp at h; omega
    subst hi'
    have hv : Valid t := ⟨by omega, by omega, by omega, hall⟩
    simp +decide only [go_sem]
    exact ⟨_, rfl, rfl, by simp [hv]⟩
end
end Go.Proofs.Ytjfaafnngloblaa.Ev
