/- The document's words about the tree: what they compute. No condition. -/
import Derived.Test.YtjfaafnngloblaaDist
namespace Go.Proofs.Ytjfaafnngloblaa.Ev
open Go Go.Proofs
set_option linter.unusedVariables false
set_option linter.unusedSimpArgs false
open Go.RowKit (wrap64)
set_option maxRecDepth 100000

/-- The reference's way of saying it. -/
def rbelow (t : List SVtx) (i : Nat) : Bool := decide (0 ≤ par t i) && decide (par t i < (i : Int)) && decide (lev t i = wrap64 (lev t (par t i).toNat + 1)) && decide (lev t i ≤ 3)
def rkid (t : List SVtx) (i : Nat) : Bool := if lev t i < 3 then decide (1 ≤ (kidsOf t (i : Int)).length) && decide ((kidsOf t (i : Int)).length ≤ 8) else true
theorem valid_ref (t : List SVtx) (h1 : 1 ≤ t.length) (h64 : t.length ≤ 64) (h32 : (vsOf t 3).length ≤ 32) :
    Valid t ↔ (par t 0 = -1 ∧ lev t 0 = 0 ∧ (∀ j, j < t.length → 1 ≤ j → rbelow t j = true) ∧ (∀ j, j < t.length → 0 ≤ j → rkid t j = true)) := by
  constructor
  · intro h
    refine ⟨h.root.1, h.root.2, fun j hj hj1 => ?_, fun j hj _ => ?_⟩
    · have := h.below hj
      rw [belowB, if_neg (by omega)] at this
      exact this
    · have := h.2.2.2 j hj
      simp only [okAt, Bool.and_eq_true, decide_eq_true_eq] at this
      unfold rkid
      split
      · rename_i hl
        have h3 : (lev t j == 3) = false := beq_eq_false_iff_ne.mpr (by omega)
        rw [h3] at this
        have h4 : ¬ (kidsOf t (j : Int)).length = 0 := by
          intro h5
          rw [h5] at this
          exact absurd this.1.2 (by decide)
        rw [decide_eq_true (by omega), decide_eq_true this.2]
        rfl
      · rfl
  · rintro ⟨hp, hl, hb, hk⟩
    have hbel : ∀ i, i < t.length → belowB t i = true := by
      intro i hi
      unfold belowB
      by_cases h0 : i = 0
      · rw [if_pos h0, decide_eq_true hp, decide_eq_true hl]; rfl
      · rw [if_neg h0]
        exact hb i hi (by omega)
    have hl3 : ∀ i, i < t.length → lev t i ≤ 3 := by
      intro i hi
      by_cases h0 : i = 0
      · subst h0; omega
      · have := hb i hi (by omega)
        simp only [rbelow, Bool.and_eq_true, decide_eq_true_eq] at this
        exact this.2
    refine ⟨h1, h64, h32, fun i hi => ?_⟩
    simp only [okAt, Bool.and_eq_true, decide_eq_true_eq]
    by_cases h3 : lev t i = 3
    · have h0 : kidsOf t (i : Int) = [] := by
        apply List.eq_nil_iff_forall_not_mem.mpr
        intro x hx
        obtain ⟨j, rfl, _, hj, hP⟩ := pick_mem.mp hx
        have hP := of_decide_eq_true hP
        have hj0 : j ≠ 0 := by rintro rfl; omega
        have := hb j (by omega) (by omega)
        simp only [rbelow, Bool.and_eq_true, decide_eq_true_eq] at this
        rw [hP, Int.toNat_natCast, h3] at this
        have h4 : wrap64 (3 + 1) = 4 := by decide +kernel
        omega
      rw [h0]
      exact ⟨⟨hbel i hi, by rw [h3]; rfl⟩, by simp⟩
    · have := hk i hi (Nat.zero_le _)
      have hl := hl3 i hi
      rw [rkid, if_pos (by omega)] at this
      simp only [Bool.and_eq_true, decide_eq_true_eq] at this
      refine ⟨⟨hbel i hi, ?_⟩, this.2⟩
      rw [beq_eq_false_iff_ne.mpr h3, beq_eq_false_iff_ne.mpr (show (kidsOf t (i : Int)).length ≠ 0 by omega)]
      rfl

section
variable {X : Prims} (hX : Low X)
include hX
theorem of_g (t : List SVtx) (x : Int) (ht : t.length ≤ 1000) : Gv P X 20 [encT t, I x] (L (pick (fun j => decide (lev t j = x)) t.length 0)) := by
  refine gv_of (hX _ (by decide)) fun20 rfl ?_
  simp only [Try.f20, encT, go_sem, Nat.reduceSub, Nat.reduceAdd, reduceIte]
  refine W_ind (fun n s => ∃ i v, i + n = t.length ∧ FrIs 25 [(0, .sl .no (t.map encV)), (1, I x), (5, v), (6, I i)] s.fr ∧ s.S = [] ∧ App P 3 s.T v ((pick (fun j => decide (lev t j = x)) i 0).map I)) ?_ (n := t.length) ⟨0, .sl .nil [], by omega, ⟨rfl, rfl, rfl, rfl, rfl, trivial⟩, rfl, .nil⟩
  rintro n ⟨L, S, T⟩ ih ⟨i, v, hi, hF, rfl, hA⟩
  obtain ⟨j, rfl⟩ := hF.ex
  simp +decide only [fr, jl, Nat.reduceAdd, go_sem]
  refine Wif_of (fun h => ?_) (fun h => ?_)
  · have hlt : i < t.length := by simpa using h
    have hx := vtx_at hlt
    have hw := wrap_nat i (by omega)
    obtain ⟨v', T', happ, hA'⟩ := app_int hA i (by have := @pick_len (fun j => decide (lev t j = x)) i 0; omega)
    simp +decide only [go_sem, hx, hw, encV]
    have hp := @pick_snoc (fun j => decide (lev t j = x)) i 0
    rw [Nat.zero_add] at hp
    refine Wif_of (fun h => ?_) (fun h => ?_)
    · simp +decide only [go_sem, happ, hw]
      refine ih (n - 1) _ (by omega) ⟨i + 1, v', by omega, ⟨rfl, rfl, rfl, rfl, rfl, trivial⟩, rfl, ?_⟩
      rw [hp, if_pos (by simpa using h)]; exact hA'
    · simp +decide only [go_sem, hw]
      refine ih (n - 1) _ (by omega) ⟨i + 1, v, by omega, ⟨rfl, rfl, rfl, rfl, rfl, trivial⟩, rfl, ?_⟩
      rw [hp, if_neg (by simpa using h), List.append_nil]; exact hA
  · have hi' : i = t.length := by simp at h; omega
    subst hi'
    obtain ⟨o, rfl⟩ := hA.is
    simp +decide only [go_sem]
    exact ⟨_, rfl, rfl, rfl⟩
theorem rkids_g (t : List SVtx) (x : Int) (ht : t.length ≤ 1000) : Gv P X 39 [encT t, I x] (L (pick (fun j => decide (par t j = x)) t.length 0)) := by
  refine gv_of (hX _ (by decide)) fun39 rfl ?_
  simp only [Try.f39, encT, go_sem, Nat.reduceSub, Nat.reduceAdd, reduceIte]
  refine W_ind (fun n s => ∃ i v, i + n = t.length ∧ FrIs 25 [(0, .sl .no (t.map encV)), (1, I x), (5, v), (6, I i)] s.fr ∧ s.S = [] ∧ App P 3 s.T v ((pick (fun j => decide (par t j = x)) i 0).map I)) ?_ (n := t.length) ⟨0, .sl .nil [], by omega, ⟨rfl, rfl, rfl, rfl, rfl, trivial⟩, rfl, .nil⟩
  rintro n ⟨L, S, T⟩ ih ⟨i, v, hi, hF, rfl, hA⟩
  obtain ⟨j, rfl⟩ := hF.ex
  simp +decide only [fr, jl, Nat.reduceAdd, go_sem]
  refine Wif_of (fun h => ?_) (fun h => ?_)
  · have hlt : i < t.length := by simpa using h
    have hx := vtx_at hlt
    have hw := wrap_nat i (by omega)
    obtain ⟨v', T', happ, hA'⟩ := app_int hA i (by have := @pick_len (fun j => decide (par t j = x)) i 0; omega)
    simp +decide only [go_sem, hx, hw, encV]
    have hp := @pick_snoc (fun j => decide (par t j = x)) i 0
    rw [Nat.zero_add] at hp
    refine Wif_of (fun h => ?_) (fun h => ?_)
    · simp +decide only [go_sem, happ, hw]
      refine ih (n - 1) _ (by omega) ⟨i + 1, v', by omega, ⟨rfl, rfl, rfl, rfl, rfl, trivial⟩, rfl, ?_⟩
      rw [hp, if_pos (by simpa using h)]; exact hA'
    · simp +decide only [go_sem, hw]
      refine ih (n - 1) _ (by omega) ⟨i + 1, v, by omega, ⟨rfl, rfl, rfl, rfl, rfl, trivial⟩, rfl, ?_⟩
      rw [hp, if_neg (by simpa using h), List.append_nil]; exact hA
  · have hi' : i = t.length := by simp at h; omega
    subst hi'
    obtain ⟨o, rfl⟩ := hA.is
    simp +decide only [go_sem]
    exact ⟨_, rfl, rfl, rfl⟩
set_option maxHeartbeats 1000000 in
theorem rcheck_g (t : List SVtx) (ht : t.length ≤ 1000) : Gv P X 33 [encT t] (I (if Valid t then 0 else 2)) := by
  refine gv_of (hX _ (by decide)) fun33 rfl ?_
  by_cases h0 : (t.length : Int) = 0
  · have hv : ¬ Valid t := fun h => by have := h.1; omega
    have h0' : ((t.length : Int) == 0) = true := by simpa using h0
    simp +decide only [Try.f33, encT, go_sem, h0']
    refine WO_not rfl (.inl rfl) ?_
    simp +decide only [go_sem]
    exact ⟨_, rfl, rfl, by simp [hv]⟩
  have h0' : ((t.length : Int) == 0) = false := by simpa using h0
  by_cases h1 : 64 < (t.length : Int)
  · have hv : ¬ Valid t := fun h => by have := h.2.1; omega
    simp +decide only [Try.f33, encT, go_sem, h0', h1]
    refine WO_not rfl (.inl rfl) ?_
    simp +decide only [go_sem]
    exact ⟨_, rfl, rfl, by simp [hv]⟩
  simp +decide only [Try.f33, encT, go_sem, h0', h1]
  refine WO_call rfl rfl rfl rfl rfl (of_g hX t 3 ht) ?_
  have hV : pick (fun j => decide (lev t j = 3)) t.length 0 = vsOf t 3 := rfl
  rw [hV]
  by_cases h2 : 32 < ((vsOf t 3).length : Int)
  · have hv : ¬ Valid t := fun h => by have := h.2.2.1; omega
    simp +decide only [go_sem, h2]
    exact ⟨_, rfl, rfl, by simp [hv]⟩
  have hx0 := vtx_at (show 0 < t.length by omega)
  by_cases h3 : par t 0 = -1
  case neg =>
    have hv : ¬ Valid t := fun h => h3 h.root.1
    have h3' : (par t 0 != -1) = true := by simpa using h3
    simp +decide only [go_sem, h2, hx0, encV, h3', Int.reduceToNat]
    exact ⟨_, rfl, rfl, by simp [hv]⟩
  have h3' : (par t 0 != -1) = false := by simpa using h3
  by_cases h4 : lev t 0 = 0
  case neg =>
    have hv : ¬ Valid t := fun h => h4 h.root.2
    have h4' : (lev t 0 != 0) = true := by simpa using h4
    simp +decide only [go_sem, h2, hx0, encV, h3', h4', Int.reduceToNat]
    exact ⟨_, rfl, rfl, by simp [hv]⟩
  have h4' : (lev t 0 != 0) = false := by simpa using h4
  have e := valid_ref t (by omega) (by omega) (by omega)
  simp +decide only [go_sem, h2, hx0, encV, h3', h4', Int.reduceToNat]
  refine W_ind (fun n s => ∃ i : Nat, i + n = t.length ∧ 1 ≤ i ∧ FrIs 99 [(0, .sl .no (t.map encV)), (3, I i)] s.fr ∧ s.S = [] ∧ s.T = [] ∧ ∀ j, j < i → 1 ≤ j → rbelow t j = true) ?_ (n := t.length - 1) ⟨1, by omega, by omega, ⟨rfl, rfl, rfl, trivial⟩, rfl, rfl, fun j h1 h2 => by omega⟩
  rintro n ⟨L, S, T⟩ ih ⟨i, hi, hi1, hF, rfl, rfl, hall⟩
  obtain ⟨j, rfl⟩ := hF.ex
  simp +decide only [fr, jl, Nat.reduceAdd, go_sem]
  refine Wif_of (fun h => ?_) (fun h => ?_)
  · have hlt : i < t.length := by simpa using h
    have hx := vtx_at hlt
    have hw := wrap_nat i (by omega)
    simp +decide only [go_sem, hx, encV]
    refine W_draw hmx (by kernel_rfl) ?_
    have hno : rbelow t i = false → ¬ Valid t := fun h hv => by have := (e.mp hv).2.2.1 i hlt hi1; rw [h] at this; cases this
    by_cases g1 : par t i < 0
    · simp +decide only [go_sem, g1]
      exact ⟨_, rfl, rfl, by simp [hno (by simp [rbelow]; omega)]⟩
    by_cases g2 : (i : Int) ≤ par t i
    · simp +decide only [go_sem, g1, g2]
      exact ⟨_, rfl, rfl, by simp [hno (by simp [rbelow]; omega)]⟩
    have hp := vtx_at (show (par t i).toNat < t.length by omega)
    have g1' : 0 ≤ par t i := by omega
    by_cases g3 : lev t i = wrap64 (lev t (par t i).toNat + 1)
    case neg =>
      have g3' : (lev t i != wrap64 (lev t (par t i).toNat + 1)) = true := by simpa using g3
      simp +decide only [go_sem, g1, g1', g2, g3', hx, hp, encV, wrap_eq]
      exact ⟨_, rfl, rfl, by simp [hno (by simp [rbelow, g3])]⟩
    have g3' : (lev t i != wrap64 (lev t (par t i).toNat + 1)) = false := by simpa using g3
    by_cases g4 : 3 < lev t i
    · simp +decide only [go_sem, g1, g1', g2, g3', g4, hx, hp, encV, wrap_eq]
      exact ⟨_, rfl, rfl, by simp [hno (by simp [rbelow]; omega)]⟩
    rw [wrap_eq] at hw
    simp +decide only [go_sem, g1, g1', g2, g3', g4, hx, hp, encV, wrap_eq, hw]
    refine ih (n - 1) _ (by omega) ⟨i + 1, by omega, by omega, ⟨rfl, rfl, rfl, trivial⟩, rfl, rfl, fun j hj h1 => ?_⟩
    by_cases hji : j = i
    · subst hji
      simp only [rbelow, Bool.and_eq_true, decide_eq_true_eq]
      exact ⟨⟨⟨g1', by omega⟩, g3⟩, by omega⟩
    · exact hall j (by omega) h1
  · have hi' : i = t.length := by simp at h; omega
    subst hi'
    simp +decide only [go_sem]
    clear ih hF
    refine W_ind (fun n s => ∃ i : Nat, i + n = t.length ∧ FrIs 99 [(0, .sl .no (t.map encV)), (5, I i)] s.fr ∧ s.S = [] ∧ s.T = [] ∧ ∀ j, j < i → rkid t j = true) ?_ (n := t.length) ⟨0, by omega, ⟨rfl, rfl, rfl, trivial⟩, rfl, rfl, fun j h1 => by omega⟩
    rintro n ⟨L, S, T⟩ ih ⟨i, hi, hF, rfl, rfl, hall2⟩
    obtain ⟨j, rfl⟩ := hF.ex
    simp +decide only [fr, jl, Nat.reduceAdd, go_sem]
    refine Wif_of (fun h => ?_) (fun h => ?_)
    · have hlt : i < t.length := by simpa using h
      have hx := vtx_at hlt
      have hw := wrap_nat i (by omega)
      simp +decide only [go_sem]
      refine WO_call rfl rfl rfl rfl rfl (rkids_g hX t i ht) ?_
      have hK : pick (fun j => decide (par t j = (i : Int))) t.length 0 = kidsOf t (i : Int) := rfl
      have hno : rkid t i = false → ¬ Valid t := fun h hv => by have := (e.mp hv).2.2.2 i hlt (Nat.zero_le _); rw [h] at this; cases this
      rw [hK]
      by_cases g1 : lev t i < 3
      · by_cases g2 : ((kidsOf t (i : Int)).length : Int) < 1
        · simp +decide only [go_sem, hx, encV, g1, g2]
          exact ⟨_, rfl, rfl, by simp [hno (by simp [rkid, g1]; omega)]⟩
        by_cases g3 : 8 < ((kidsOf t (i : Int)).length : Int)
        · simp +decide only [go_sem, hx, encV, g1, g2, g3]
          exact ⟨_, rfl, rfl, by simp [hno (by simp [rkid, g1]; omega)]⟩
        simp +decide only [go_sem, hx, encV, g1, g2, g3, hw]
        refine ih (n - 1) _ (by omega) ⟨i + 1, by omega, ⟨rfl, rfl, rfl, trivial⟩, rfl, rfl, fun j hj => ?_⟩
        by_cases hji : j = i
        · subst hji; simp [rkid, g1]; omega
        · exact hall2 j (by omega)
      · simp +decide only [go_sem, hx, encV, g1, hw]
        refine ih (n - 1) _ (by omega) ⟨i + 1, by omega, ⟨rfl, rfl, rfl, trivial⟩, rfl, rfl, fun j hj => ?_⟩
        by_cases hji : j = i
        · subst hji; simp [rkid, g1]
        · exact hall2 j (by omega)
    · have hi' : i = t.length := by simp at h; omega
      subst hi'
      have hv : Valid t := e.mpr ⟨h3, h4, hall, fun j hj _ => hall2 j hj⟩
      simp +decide only [go_sem]
      exact ⟨_, rfl, rfl, by simp [hv]⟩
end
end Go.Proofs.Ytjfaafnngloblaa.Ev
