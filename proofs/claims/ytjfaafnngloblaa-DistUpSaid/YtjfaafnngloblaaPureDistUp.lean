/- DistUp: two processors are as far from each other as the first vertex above both is above them; no condition. -/
import Derived.Test.YtjfaafnngloblaaDDistUp
namespace Go.Proofs.Ytjfaafnngloblaa.Pure
open Go.RowKit Go.Proofs.Ytjfaafnngloblaa.PDistUp Go.Proofs.YtjfaafnngloblaaW.PrintWords Go.Proofs.YtjfaafnngloblaaW.PrintLast Go.Proofs.YtjfaafnngloblaaW.PrintMore
set_option linter.unusedVariables false

def par (t : List S40) (i : Nat) : Int := (t.getD i z40).f0
def lev (t : List S40) (i : Nat) : Int := (t.getD i z40).f1
/-- The numbers i .. i+m-1 at which P holds. -/
def pick (P : Nat → Bool) : Nat → Nat → List Int
  | 0, _ => []
  | m + 1, i => if P i then (i : Int) :: pick P m (i + 1) else pick P m (i + 1)
theorem pick_len {P : Nat → Bool} : ∀ {m i : Nat}, (pick P m i).length ≤ m
  | 0, _ => by simp [pick]
  | m + 1, i => by
    have := @pick_len P m (i + 1)
    unfold pick
    split
    · simp; omega
    · omega
theorem pick_mem {P : Nat → Bool} {x : Int} : ∀ {m i : Nat}, x ∈ pick P m i ↔ ∃ j : Nat, x = (j : Int) ∧ i ≤ j ∧ j < i + m ∧ P j = true
  | 0, i => by simp [pick]; omega
  | m + 1, i => by
    unfold pick
    by_cases h : P i = true
    · rw [if_pos h, List.mem_cons, pick_mem]
      constructor
      · rintro (rfl | ⟨j, rfl, h1, h2, h3⟩)
        · exact ⟨i, rfl, by omega, by omega, h⟩
        · exact ⟨j, rfl, by omega, by omega, h3⟩
      · rintro ⟨j, rfl, h1, h2, h3⟩
        by_cases hj : j = i
        · subst hj; exact .inl rfl
        · exact .inr ⟨j, rfl, by omega, by omega, h3⟩
    · rw [if_neg h, pick_mem]
      constructor
      · rintro ⟨j, rfl, h1, h2, h3⟩
        exact ⟨j, rfl, by omega, by omega, h3⟩
      · rintro ⟨j, rfl, h1, h2, h3⟩
        by_cases hj : j = i
        · subst hj; exact absurd h3 h
        · exact ⟨j, rfl, by omega, by omega, h3⟩
theorem pick_sorted {P : Nat → Bool} : ∀ {m i : Nat}, (pick P m i).Pairwise (· < ·)
  | 0, _ => by simp [pick]
  | m + 1, i => by
    unfold pick
    split
    · refine List.Pairwise.cons ?_ pick_sorted
      intro x hx
      obtain ⟨j, rfl, h1, _, _⟩ := pick_mem.mp hx
      omega
    · exact pick_sorted
theorem pick_ext {P Q : Nat → Bool} : ∀ {m i : Nat}, (∀ j, i ≤ j → j < i + m → P j = Q j) → pick P m i = pick Q m i
  | 0, _, _ => rfl
  | m + 1, i, h => by
    unfold pick
    rw [h i (by omega) (by omega), pick_ext (m := m) (i := i + 1) (fun j h1 h2 => h j (by omega) (by omega))]
theorem get_pick {P : Nat → Bool} {m i : Nat} {a : Int} (h0 : 0 ≤ a) (h1 : a < ((pick P m i).length : Int)) : ∃ j : Nat, rd (pick P m i) a = (j : Int) ∧ i ≤ j ∧ j < i + m ∧ P j = true := by
  have : rd (pick P m i) a ∈ pick P m i := by
    unfold rd
    rw [List.getD_eq_getElem?_getD, List.getElem?_eq_getElem (by omega)]
    exact List.getElem_mem _
  exact pick_mem.mp this
/-- The vertices of a level; those below one. -/
def vsOf (t : List S40) (x : Int) : List Int := pick (fun j => decide (lev t j = x)) t.length 0
def kidsOf (t : List S40) (v : Int) : List Int := pick (fun j => decide (par t j = v)) t.length 0

theorem level_l0 (t : List S40) (x : Int) (ht : t.length ≤ 1000) : ∀ (m i : Nat) (acc : List Int) (k : Nat), i + m = t.length → m + 1 ≤ k → acc.length ≤ i →
    topo_level.l0 k t x acc (t.length : Int) (i : Int) = some (acc ++ pick (fun j => decide (lev t j = x)) m i)
  | 0, i, acc, k, hi, hk, ha => by
    obtain ⟨k, rfl⟩ : ∃ j, k = j + 1 := ⟨k - 1, by omega⟩
    simp only [topo_level.l0]
    rw [if_neg (by omega)]
    simp [pick]
  | m + 1, i, acc, k, hi, hk, ha => by
    obtain ⟨k, rfl⟩ : ∃ j, k = j + 1 := ⟨k - 1, by omega⟩
    have hw : wrap64 ((i : Int) + 1) = ((i + 1 : Nat) : Int) := by unfold wrap64; omega
    have hr : (rd_T40 t (i : Int)).f1 = lev t i := rfl
    simp only [topo_level.l0]
    rw [if_pos (show (i : Int) < (t.length : Int) by omega), if_pos (show (0 : Int) ≤ (i : Int) by omega)]
    rw [if_pos (show (i : Int) < (t.length : Int) by omega)]
    rw [hr, hw]
    by_cases hx : lev t i = x
    · rw [if_pos hx, if_pos (by omega), level_l0 t x ht m (i + 1) (acc ++ [(i : Int)]) k (by omega) (by omega) (by simp; omega)]
      simp [pick, hx]
    · rw [if_neg hx, level_l0 t x ht m (i + 1) acc k (by omega) (by omega) (by omega)]
      simp [pick, hx]
theorem level_f (t : List S40) (x : Int) (ht : t.length ≤ 1000) (k : Nat) (hk : t.length + 1 ≤ k) : topo_level.f k t x = some (pick (fun j => decide (lev t j = x)) t.length 0) := by
  unfold topo_level.f
  rw [show (0 : Int) = ((0 : Nat) : Int) from rfl, level_l0 t x ht t.length 0 [] k (by omega) (by omega) (by simp)]
  simp

theorem kids_l0 (t : List S40) (x : Int) (ht : t.length ≤ 1000) : ∀ (m i : Nat) (acc : List Int) (k : Nat), i + m = t.length → m + 1 ≤ k → acc.length ≤ i →
    topo_Kids.l0 k t x acc (t.length : Int) (i : Int) = some (acc ++ pick (fun j => decide (par t j = x)) m i)
  | 0, i, acc, k, hi, hk, ha => by
    obtain ⟨k, rfl⟩ : ∃ j, k = j + 1 := ⟨k - 1, by omega⟩
    simp only [topo_Kids.l0]
    rw [if_neg (by omega)]
    simp [pick]
  | m + 1, i, acc, k, hi, hk, ha => by
    obtain ⟨k, rfl⟩ : ∃ j, k = j + 1 := ⟨k - 1, by omega⟩
    have hw : wrap64 ((i : Int) + 1) = ((i + 1 : Nat) : Int) := by unfold wrap64; omega
    have hr : (rd_T40 t (i : Int)).f0 = par t i := rfl
    simp only [topo_Kids.l0]
    rw [if_pos (show (i : Int) < (t.length : Int) by omega), if_pos (show (0 : Int) ≤ (i : Int) by omega)]
    rw [if_pos (show (i : Int) < (t.length : Int) by omega)]
    rw [hr, hw]
    by_cases hx : par t i = x
    · rw [if_pos hx, if_pos (by omega), kids_l0 t x ht m (i + 1) (acc ++ [(i : Int)]) k (by omega) (by omega) (by simp; omega)]
      simp [pick, hx]
    · rw [if_neg hx, kids_l0 t x ht m (i + 1) acc k (by omega) (by omega) (by omega)]
      simp [pick, hx]
theorem kids_f (t : List S40) (x : Int) (ht : t.length ≤ 1000) (k : Nat) (hk : t.length + 1 ≤ k) : topo_Kids.f k t x = some (pick (fun j => decide (par t j = x)) t.length 0) := by
  unfold topo_Kids.f
  rw [show (0 : Int) = ((0 : Nat) : Int) from rfl, kids_l0 t x ht t.length 0 [] k (by omega) (by omega) (by simp)]
  simp

theorem procs_f (t : List S40) (ht : t.length ≤ 1000) (k : Nat) (hk : t.length + 1 ≤ k) : topo_Procs.f k t = some (vsOf t 3) := by
  unfold topo_Procs.f
  rw [level_f t 3 ht k hk]
  rfl
/-- A vertex stands rightly. -/
def belowB (t : List S40) (i : Nat) : Bool :=
  if i = 0 then decide (par t 0 = -1) && decide (lev t 0 = 0)
  else decide (0 ≤ par t i) && decide (par t i < (i : Int)) && decide (lev t i = wrap64 (lev t (par t i).toNat + 1)) && decide (lev t i ≤ 3)
def okAt (t : List S40) (i : Nat) : Bool := belowB t i && ((lev t i == 3) == ((kidsOf t (i : Int)).length == 0)) && decide ((kidsOf t (i : Int)).length ≤ 8)
def Valid (t : List S40) : Prop := 1 ≤ t.length ∧ t.length ≤ 64 ∧ (vsOf t 3).length ≤ 32 ∧ ∀ i, i < t.length → okAt t i = true
instance (t : List S40) : Decidable (Valid t) := inferInstanceAs (Decidable (_ ∧ _ ∧ _ ∧ _))
theorem below_f (t : List S40) (i : Nat) (hi : i < t.length) : topo_below.f t (i : Int) = some (belowB t i) := by
  have hr0 : ∀ j : Nat, (rd_T40 t (j : Int)).f0 = par t j := fun _ => rfl
  have hr1 : ∀ j : Nat, (rd_T40 t (j : Int)).f1 = lev t j := fun _ => rfl
  unfold topo_below.f belowB
  rw [if_pos (by omega), if_pos (by omega)]
  simp only [hr0, hr1]
  by_cases h0 : i = 0
  · subst h0
    rw [if_pos (show ((0 : Nat) : Int) = 0 from rfl), if_pos rfl]
    by_cases h1 : par t 0 = -1
    · rw [if_pos h1]; simp [h1]; rfl
    · rw [if_neg h1]; simp [h1]
  · rw [if_neg (by omega), if_neg h0]
    by_cases h1 : par t i ≥ 0
    · rw [if_pos h1]
      by_cases h2 : par t i < (i : Int)
      · obtain ⟨p, hp⟩ : ∃ p : Nat, par t i = (p : Int) := ⟨(par t i).toNat, by omega⟩
        rw [hp] at h1 h2 ⊢
        rw [if_pos h2, if_pos h1, if_pos (by omega)]
        simp only [hr1, Int.toNat_natCast]
        by_cases h3 : lev t i = wrap64 (lev t p + 1)
        · rw [if_pos h3]; simp [h3]; omega
        · rw [if_neg h3]; simp [h3]
      · rw [if_neg h2]; simp; omega
    · rw [if_neg h1]; simp; omega
theorem check_l0 (t : List S40) (ht : t.length ≤ 64) : ∀ (m i k : Nat), i + m = t.length → m + t.length + 3 ≤ k → topo_Check.l0 k t (t.length : Int) (i : Int) = some (if (∀ j, j < t.length → i ≤ j → okAt t j = true) then 0 else 2)
  | 0, i, k, hi, hk => by
    obtain ⟨k, rfl⟩ : ∃ j, k = j + 1 := ⟨k - 1, by omega⟩
    simp only [topo_Check.l0]
    rw [if_neg (by omega), if_pos (fun j h1 h2 => by omega)]
  | m + 1, i, k, hi, hk => by
    obtain ⟨k, rfl⟩ : ∃ j, k = j + 1 := ⟨k - 1, by omega⟩
    have hw : wrap64 ((i : Int) + 1) = ((i + 1 : Nat) : Int) := by unfold wrap64; omega
    have hr1 : (rd_T40 t (i : Int)).f1 = lev t i := rfl
    simp only [topo_Check.l0]
    rw [if_pos (by omega), kids_f t (i : Int) (by omega) k (by omega), Option.bind_some, if_pos (by omega), if_pos (by omega), below_f t i (by omega), Option.bind_some, hr1, hw, check_l0 t ht m (i + 1) k (by omega) (by omega)]
    have hstep : okAt t i = true → ((∀ j, j < t.length → i ≤ j → okAt t j = true) ↔ (∀ j, j < t.length → i + 1 ≤ j → okAt t j = true)) := by
      intro h
      constructor
      · intro H j h1 h2; exact H j h1 (by omega)
      · intro H j h1 h2
        by_cases hj : j = i
        · subst hj; exact h
        · exact H j h1 (by omega)
    have hno : okAt t i = false → ¬ (∀ j, j < t.length → i ≤ j → okAt t j = true) := by
      intro h H
      have := H i (by omega) (Nat.le_refl _)
      rw [h] at this
      cases this
    have hK : pick (fun j => decide (par t j = (i : Int))) t.length 0 = kidsOf t (i : Int) := rfl
    rw [hK]
    have he : ((((kidsOf t (i : Int)).length : Int) == 0) : Bool) = ((kidsOf t (i : Int)).length == 0) := by
      by_cases h : (kidsOf t (i : Int)).length = 0
      · simp [h]
      · have h2 : ¬ ((kidsOf t (i : Int)).length : Int) = 0 := by omega
        rw [beq_eq_false_iff_ne.mpr h2, beq_eq_false_iff_ne.mpr h]
    rw [he]
    by_cases hb : belowB t i = true
    · rw [if_pos hb]
      by_cases hl : ((lev t i == 3) != ((kidsOf t (i : Int)).length == 0)) = true
      · rw [if_pos hl, if_neg (hno _)]
        simp only [okAt, hb, Bool.true_and]
        rw [bne, Bool.not_eq_true'] at hl
        rw [hl]
        rfl
      · rw [if_neg hl]
        rw [bne, Bool.not_eq_true', Bool.not_eq_false] at hl
        by_cases hg : ((kidsOf t (i : Int)).length : Int) > 8
        · rw [if_pos hg, if_neg (hno _)]
          simp only [okAt, hb, hl, Bool.true_and]
          exact decide_eq_false (by omega)
        · rw [if_neg hg]
          have hok : okAt t i = true := by
            simp only [okAt, hb, hl, Bool.true_and]
            exact decide_eq_true (by omega)
          by_cases hA : (∀ j, j < t.length → i ≤ j → okAt t j = true)
          · rw [if_pos hA, if_pos ((hstep hok).mp hA)]
          · rw [if_neg hA, if_neg (fun h => hA ((hstep hok).mpr h))]
    · rw [if_neg hb, if_neg (hno _)]
      rw [Bool.not_eq_true] at hb
      simp [okAt, hb]
theorem check_f (t : List S40) (ht : t.length ≤ 1000) (k : Nat) (hk : 2 * t.length + 5 ≤ k) : topo_Check.f k t = some (if Valid t then 0 else 2) := by
  obtain ⟨k, rfl⟩ : ∃ j, k = j + 1 := ⟨k - 1, by omega⟩
  unfold topo_Check.f
  by_cases h0 : (t.length : Int) < 1
  · rw [if_pos h0, if_neg (fun h : Valid t => by have := h.1; omega)]
    simp [topo_Check.j0]
  · rw [if_neg h0]
    by_cases h1 : (t.length : Int) > 64
    · rw [if_pos h1, if_neg (fun h : Valid t => by have := h.2.1; omega)]
      simp [topo_Check.j0]
    · rw [if_neg h1, procs_f t ht _ (by omega), Option.bind_some]
      simp only [topo_Check.j0]
      by_cases h2 : ((vsOf t 3).length : Int) > 32
      · rw [if_pos (decide_eq_true h2), if_neg (fun h : Valid t => by have := h.2.2.1; omega)]
      · rw [if_neg (by simpa using h2)]
        have := check_l0 t (by omega) t.length 0 k (by omega) (by omega)
        rw [show ((0 : Nat) : Int) = 0 from rfl] at this
        rw [this]
        have e : Valid t ↔ (∀ j, j < t.length → 0 ≤ j → okAt t j = true) := ⟨fun h j hj _ => h.2.2.2 j hj, fun h => ⟨by omega, by omega, by omega, fun i hi => h i hi (Nat.zero_le _)⟩⟩
        by_cases hv : Valid t
        · rw [if_pos hv, if_pos (e.mp hv)]
        · rw [if_neg hv, if_neg (fun h => hv (e.mpr h))]
/-! What a valid tree is. -/
theorem Valid.below {t : List S40} (h : Valid t) {i : Nat} (hi : i < t.length) : belowB t i = true := by
  have := h.2.2.2 i hi
  simp only [okAt, Bool.and_eq_true] at this
  exact this.1.1
theorem Valid.root {t : List S40} (h : Valid t) : par t 0 = -1 ∧ lev t 0 = 0 := by
  have := h.below (i := 0) h.1
  simpa [belowB] using this
theorem Valid.at_ {t : List S40} (h : Valid t) : ∀ {i : Nat}, i < t.length → 0 ≤ lev t i ∧ lev t i ≤ 3 ∧ (i ≠ 0 → 0 ≤ par t i ∧ par t i < (i : Int) ∧ lev t i = lev t (par t i).toNat + 1) := by
  intro i
  induction i using Nat.strongRecOn with
  | ind i ih =>
    intro hi
    by_cases h0 : i = 0
    · subst h0
      have := h.root
      exact ⟨by omega, by omega, fun h => absurd rfl h⟩
    · have hb := h.below hi
      simp only [belowB, if_neg h0, Bool.and_eq_true, decide_eq_true_eq] at hb
      obtain ⟨⟨⟨h1, h2⟩, h3⟩, h4⟩ := hb
      have hp := ih (par t i).toNat (by omega) (by omega)
      have hw : wrap64 (lev t (par t i).toNat + 1) = lev t (par t i).toNat + 1 := by
        have h5 := hp.1
        have h6 := hp.2.1
        generalize lev t (par t i).toNat = z at h5 h6
        unfold wrap64; omega
      rw [hw] at h3
      exact ⟨by omega, h4, fun _ => ⟨h1, h2, h3⟩⟩
theorem Valid.pos {t : List S40} (h : Valid t) {i : Nat} (hi : i < t.length) (hl : 0 < lev t i) : i ≠ 0 := by
  rintro rfl
  have := h.root
  omega
/-! The vertex above. -/
def upN (t : List S40) (x : Int) : Nat → Int → Int
  | 0, _ => -1
  | n + 1, v => if 0 ≤ v ∧ v < (t.length : Int) then (if lev t v.toNat = x then v else if par t v.toNat ≥ v then -1 else upN t x n (par t v.toNat)) else -1
def up (t : List S40) (v x : Int) : Int := upN t x (t.length + 1) v
theorem upN_more (t : List S40) (x : Int) : ∀ (n m : Nat) (v : Int), v < (n : Int) → v < (m : Int) → 0 < n → 0 < m → upN t x n v = upN t x m v
  | 0, _, _, _, _, h, _ => absurd h (Nat.lt_irrefl 0)
  | _ + 1, 0, _, _, _, _, h => absurd h (Nat.lt_irrefl 0)
  | n + 1, m + 1, v, h1, h2, _, _ => by
    unfold upN
    by_cases hv : 0 ≤ v ∧ v < (t.length : Int)
    · rw [if_pos hv, if_pos hv]
      split
      · rfl
      · split
        · rfl
        · rename_i h3
          by_cases hn : 0 < n
          · by_cases hm : 0 < m
            · exact upN_more t x n m _ (by omega) (by omega) hn hm
            · have : m = 0 := by omega
              subst this
              obtain ⟨n, rfl⟩ : ∃ j, n = j + 1 := ⟨n - 1, by omega⟩
              unfold upN
              rw [if_neg (by omega)]
          · have : n = 0 := by omega
            subst this
            cases m with
            | zero => rfl
            | succ m =>
              unfold upN
              rw [if_neg (by omega)]
    · rw [if_neg hv, if_neg hv]
theorem up_l0 (t : List S40) (x : Int) : ∀ (n : Nat) (v : Int) (k : Nat), v < (n : Int) → 2 * n + 3 ≤ k → topo_Up.l0 k t v x = some (upN t x (n + 1) v)
  | n, v, k, hv, hk => by
    obtain ⟨k, rfl⟩ : ∃ j, k = j + 2 := ⟨k - 2, by omega⟩
    simp only [topo_Up.l0, topo_Up.j1]
    unfold upN
    by_cases h0 : v ≥ 0
    · rw [if_pos h0]
      by_cases h1 : v < (t.length : Int)
      · rw [if_pos (decide_eq_true h1), if_pos h0, if_pos h1, if_pos (show 0 ≤ v ∧ v < (t.length : Int) from ⟨h0, h1⟩)]
        have hr0 : (rd_T40 t v).f0 = par t v.toNat := rfl
        have hr1 : (rd_T40 t v).f1 = lev t v.toNat := rfl
        rw [hr0, hr1]
        split
        · rfl
        · split
          · rfl
          · obtain ⟨n, rfl⟩ : ∃ j, n = j + 1 := ⟨n - 1, by omega⟩
            exact up_l0 t x n _ k (by omega) (by omega)
      · rw [if_neg (by simpa using h1), if_neg (by omega)]
    · rw [if_neg h0, if_neg (by decide), if_neg (by omega)]
theorem up_f (t : List S40) (v x : Int) (ht : t.length ≤ 1000) (hv : v < 1000) (k : Nat) (hk : 2005 ≤ k) : topo_Up.f k t v x = some (up t v x) := by
  unfold topo_Up.f
  rw [up_l0 t x 1000 v k (by omega) (by omega)]
  by_cases h0 : v < (t.length : Int)
  · rw [up, upN_more t x 1001 (t.length + 1) v (by omega) (by omega) (by omega) (by omega)]
  · rw [up]
    unfold upN
    rw [if_neg (by omega), if_neg (by omega)]
/-- The vertex d steps above. -/
def anc (t : List S40) : Nat → Nat → Nat
  | 0, v => v
  | d + 1, v => anc t d (par t v).toNat
theorem anc_at {t : List S40} (h : Valid t) : ∀ (d v : Nat), v < t.length → (d : Int) ≤ lev t v → anc t d v < t.length ∧ lev t (anc t d v) = lev t v - d
  | 0, v, hv, _ => ⟨hv, by simp [anc]⟩
  | d + 1, v, hv, hd => by
    obtain ⟨_, _, h3⟩ := h.at_ hv
    obtain ⟨h4, h5, h6⟩ := h3 (h.pos hv (by omega))
    obtain ⟨h7, h8⟩ := anc_at h d (par t v).toNat (by omega) (by omega)
    exact ⟨h7, by rw [anc, h8]; omega⟩
theorem anc_succ (t : List S40) : ∀ (d v : Nat), anc t (d + 1) v = (par t (anc t d v)).toNat
  | 0, v => rfl
  | d + 1, v => by rw [anc, anc_succ t d]; rfl
theorem upN_anc {t : List S40} (h : Valid t) : ∀ (d v n : Nat), v < t.length → (d : Int) ≤ lev t v → v < n → upN t (lev t v - d) n (v : Int) = (anc t d v : Nat)
  | 0, v, n, hv, _, hn => by
    obtain ⟨n, rfl⟩ : ∃ j, n = j + 1 := ⟨n - 1, by omega⟩
    unfold upN
    rw [if_pos ⟨by omega, by omega⟩, if_pos (by simp)]
    rfl
  | d + 1, v, n, hv, hd, hn => by
    obtain ⟨n, rfl⟩ : ∃ j, n = j + 1 := ⟨n - 1, by omega⟩
    obtain ⟨_, _, h3⟩ := h.at_ hv
    obtain ⟨h4, h5, h6⟩ := h3 (h.pos hv (by omega))
    unfold upN
    rw [if_pos ⟨by omega, by omega⟩]
    simp only [Int.toNat_natCast]
    rw [if_neg (by omega), if_neg (by omega)]
    obtain ⟨p, hp⟩ : ∃ p : Nat, par t v = (p : Int) := ⟨(par t v).toNat, by omega⟩
    have h6' : lev t v = lev t p + 1 := by rw [hp] at h6; simpa using h6
    have := upN_anc h d p n (by omega) (by omega) (by omega)
    rw [show lev t v - ((d + 1 : Nat) : Int) = lev t p - (d : Int) by omega, hp, this, anc, hp]
    rfl
theorem up_anc {t : List S40} (h : Valid t) (d v : Nat) (hv : v < t.length) (hd : (d : Int) ≤ lev t v) : up t (v : Int) (lev t v - d) = (anc t d v : Nat) := upN_anc h d v _ hv hd (by omega)

theorem of_l0 (t : List S40) (x : Int) (ht : t.length ≤ 1000) : ∀ (m i : Nat) (acc : List Int) (k : Nat), i + m = t.length → m + 1 ≤ k → acc.length ≤ i →
    catafalqueref01_Of.l0 k t x acc (i : Int) = some (acc ++ pick (fun j => decide (lev t j = x)) m i)
  | 0, i, acc, k, hi, hk, ha => by
    obtain ⟨k, rfl⟩ : ∃ j, k = j + 1 := ⟨k - 1, by omega⟩
    simp only [catafalqueref01_Of.l0]
    rw [if_neg (by omega)]
    simp [pick]
  | m + 1, i, acc, k, hi, hk, ha => by
    obtain ⟨k, rfl⟩ : ∃ j, k = j + 1 := ⟨k - 1, by omega⟩
    have hw : wrap64 ((i : Int) + 1) = ((i + 1 : Nat) : Int) := by unfold wrap64; omega
    have hr : (rd_T40 t (i : Int)).f1 = lev t i := rfl
    simp only [catafalqueref01_Of.l0]
    rw [if_pos (show (i : Int) < (t.length : Int) by omega), if_pos (show (0 : Int) ≤ (i : Int) by omega)]
    skip
    rw [hr, hw]
    by_cases hx : lev t i = x
    · rw [if_pos hx, if_pos (by omega), of_l0 t x ht m (i + 1) (acc ++ [(i : Int)]) k (by omega) (by omega) (by simp; omega)]
      simp [pick, hx]
    · rw [if_neg hx, of_l0 t x ht m (i + 1) acc k (by omega) (by omega) (by omega)]
      simp [pick, hx]
theorem of_f (t : List S40) (x : Int) (ht : t.length ≤ 1000) (k : Nat) (hk : t.length + 1 ≤ k) : catafalqueref01_Of.f k t x = some (pick (fun j => decide (lev t j = x)) t.length 0) := by
  unfold catafalqueref01_Of.f
  rw [show (0 : Int) = ((0 : Nat) : Int) from rfl, of_l0 t x ht t.length 0 [] k (by omega) (by omega) (by simp)]
  simp

theorem rkids_l0 (t : List S40) (x : Int) (ht : t.length ≤ 1000) : ∀ (m i : Nat) (acc : List Int) (k : Nat), i + m = t.length → m + 1 ≤ k → acc.length ≤ i →
    catafalqueref01_Kids.l0 k t x acc (i : Int) = some (acc ++ pick (fun j => decide (par t j = x)) m i)
  | 0, i, acc, k, hi, hk, ha => by
    obtain ⟨k, rfl⟩ : ∃ j, k = j + 1 := ⟨k - 1, by omega⟩
    simp only [catafalqueref01_Kids.l0]
    rw [if_neg (by omega)]
    simp [pick]
  | m + 1, i, acc, k, hi, hk, ha => by
    obtain ⟨k, rfl⟩ : ∃ j, k = j + 1 := ⟨k - 1, by omega⟩
    have hw : wrap64 ((i : Int) + 1) = ((i + 1 : Nat) : Int) := by unfold wrap64; omega
    have hr : (rd_T40 t (i : Int)).f0 = par t i := rfl
    simp only [catafalqueref01_Kids.l0]
    rw [if_pos (show (i : Int) < (t.length : Int) by omega), if_pos (show (0 : Int) ≤ (i : Int) by omega)]
    skip
    rw [hr, hw]
    by_cases hx : par t i = x
    · rw [if_pos hx, if_pos (by omega), rkids_l0 t x ht m (i + 1) (acc ++ [(i : Int)]) k (by omega) (by omega) (by simp; omega)]
      simp [pick, hx]
    · rw [if_neg hx, rkids_l0 t x ht m (i + 1) acc k (by omega) (by omega) (by omega)]
      simp [pick, hx]
theorem rkids_f (t : List S40) (x : Int) (ht : t.length ≤ 1000) (k : Nat) (hk : t.length + 1 ≤ k) : catafalqueref01_Kids.f k t x = some (pick (fun j => decide (par t j = x)) t.length 0) := by
  unfold catafalqueref01_Kids.f
  rw [show (0 : Int) = ((0 : Nat) : Int) from rfl, rkids_l0 t x ht t.length 0 [] k (by omega) (by omega) (by simp)]
  simp

theorem of_vs (t : List S40) (x : Int) (ht : t.length ≤ 1000) (k : Nat) (hk : t.length + 1 ≤ k) : catafalqueref01_Of.f k t x = some (vsOf t x) := of_f t x ht k hk
/-- The reference's way of saying it. -/
def rbelow (t : List S40) (i : Nat) : Bool := decide (0 ≤ par t i) && decide (par t i < (i : Int)) && decide (lev t i = wrap64 (lev t (par t i).toNat + 1)) && decide (lev t i ≤ 3)
def rkid (t : List S40) (i : Nat) : Bool := if lev t i < 3 then decide (1 ≤ (kidsOf t (i : Int)).length) && decide ((kidsOf t (i : Int)).length ≤ 8) else true
theorem rcheck_l1 (t : List S40) (ht : t.length ≤ 64) : ∀ (m i k : Nat), i + m = t.length → m + t.length + 3 ≤ k → catafalqueref01_Check.l1 k t (i : Int) = some (if (∀ j, j < t.length → i ≤ j → rkid t j = true) then 0 else 2)
  | 0, i, k, hi, hk => by
    obtain ⟨k, rfl⟩ : ∃ j, k = j + 1 := ⟨k - 1, by omega⟩
    simp only [catafalqueref01_Check.l1]
    rw [if_neg (by omega), if_pos (fun j h1 h2 => by omega)]
  | m + 1, i, k, hi, hk => by
    obtain ⟨k, rfl⟩ : ∃ j, k = j + 1 := ⟨k - 1, by omega⟩
    have hw : wrap64 ((i : Int) + 1) = ((i + 1 : Nat) : Int) := by unfold wrap64; omega
    have hr1 : (rd_T40 t (i : Int)).f1 = lev t i := rfl
    simp only [catafalqueref01_Check.l1]
    have hK : pick (fun j => decide (par t j = (i : Int))) t.length 0 = kidsOf t (i : Int) := rfl
    rw [if_pos (by omega), rkids_f t (i : Int) (by omega) k (by omega), Option.bind_some, if_pos (by omega), hr1, hw, rcheck_l1 t ht m (i + 1) k (by omega) (by omega), hK]
    have hstep : rkid t i = true → ((∀ j, j < t.length → i ≤ j → rkid t j = true) ↔ (∀ j, j < t.length → i + 1 ≤ j → rkid t j = true)) := by
      intro h
      constructor
      · intro H j h1 h2; exact H j h1 (by omega)
      · intro H j h1 h2
        by_cases hj : j = i
        · subst hj; exact h
        · exact H j h1 (by omega)
    have hno : rkid t i = false → ¬ (∀ j, j < t.length → i ≤ j → rkid t j = true) := by
      intro h H
      have := H i (by omega) (Nat.le_refl _)
      rw [h] at this
      cases this
    have hyes : rkid t i = true → (if (∀ j, j < t.length → i + 1 ≤ j → rkid t j = true) then (0 : Int) else 2) = if (∀ j, j < t.length → i ≤ j → rkid t j = true) then 0 else 2 := by
      intro hok
      by_cases hA : (∀ j, j < t.length → i ≤ j → rkid t j = true)
      · rw [if_pos hA, if_pos ((hstep hok).mp hA)]
      · rw [if_neg hA, if_neg (fun h => hA ((hstep hok).mpr h))]
    by_cases hl : lev t i < 3
    · rw [if_pos hl]
      by_cases h1 : ((kidsOf t (i : Int)).length : Int) < 1
      · rw [if_pos h1, if_neg (hno _)]
        simp only [rkid, if_pos hl]
        rw [decide_eq_false (by omega)]; rfl
      · rw [if_neg h1]
        by_cases h8 : ((kidsOf t (i : Int)).length : Int) > 8
        · rw [if_pos h8, if_neg (hno _)]
          simp only [rkid, if_pos hl]
          rw [decide_eq_false (show ¬ (kidsOf t (i : Int)).length ≤ 8 by omega), Bool.and_false]
        · rw [if_neg h8, hyes]
          simp only [rkid, if_pos hl]
          rw [decide_eq_true (by omega), decide_eq_true (by omega)]; rfl
    · rw [if_neg hl, hyes]
      simp only [rkid, if_neg hl]
theorem rcheck_l0 (t : List S40) (ht : t.length ≤ 64) : ∀ (m i k : Nat), i + m = t.length → 1 ≤ i → m + 2 * t.length + 5 ≤ k →
    catafalqueref01_Check.l0 k t (i : Int) = some (if (∀ j, j < t.length → i ≤ j → rbelow t j = true) ∧ (∀ j, j < t.length → 0 ≤ j → rkid t j = true) then 0 else 2)
  | 0, i, k, hi, h1, hk => by
    obtain ⟨k, rfl⟩ : ∃ j, k = j + 1 := ⟨k - 1, by omega⟩
    simp only [catafalqueref01_Check.l0]
    have h := rcheck_l1 t ht t.length 0 k (by omega) (by omega)
    rw [show ((0 : Nat) : Int) = 0 from rfl] at h
    rw [if_neg (by omega), h]
    by_cases hA : (∀ j, j < t.length → 0 ≤ j → rkid t j = true)
    · rw [if_pos hA, if_pos ⟨fun j h1 h2 => by omega, hA⟩]
    · rw [if_neg hA, if_neg (fun h => hA h.2)]
  | m + 1, i, k, hi, h1, hk => by
    obtain ⟨k, rfl⟩ : ∃ j, k = j + 1 := ⟨k - 1, by omega⟩
    have hw : wrap64 ((i : Int) + 1) = ((i + 1 : Nat) : Int) := by unfold wrap64; omega
    have hr0 : ∀ j : Nat, (rd_T40 t (j : Int)).f0 = par t j := fun _ => rfl
    have hr1 : ∀ j : Nat, (rd_T40 t (j : Int)).f1 = lev t j := fun _ => rfl
    simp only [catafalqueref01_Check.l0]
    rw [if_pos (by omega), if_pos (by omega), hw, rcheck_l0 t ht m (i + 1) k (by omega) (by omega) (by omega)]
    simp only [hr0, hr1]
    have hno : rbelow t i = false → ¬ ((∀ j, j < t.length → i ≤ j → rbelow t j = true) ∧ (∀ j, j < t.length → 0 ≤ j → rkid t j = true)) := by
      intro h H
      have := H.1 i (by omega) (Nat.le_refl _)
      rw [h] at this
      cases this
    by_cases h2 : par t i < 0
    · rw [if_pos h2, if_neg (hno _)]
      simp only [rbelow]
      rw [decide_eq_false (by omega)]; rfl
    · rw [if_neg h2]
      by_cases h3 : par t i ≥ (i : Int)
      · rw [if_pos h3, if_neg (hno _)]
        simp only [rbelow]
        rw [decide_eq_false (show ¬ par t i < (i : Int) by omega), Bool.and_false]; rfl
      · rw [if_neg h3, if_pos (by omega), if_pos (by omega)]
        obtain ⟨p, hp⟩ : ∃ p : Nat, par t i = (p : Int) := ⟨(par t i).toNat, by omega⟩
        rw [hp]
        simp only [hr1]
        by_cases h4 : lev t i = wrap64 (lev t p + 1)
        · rw [if_pos h4]
          by_cases h5 : lev t i > 3
          · rw [if_pos h5, if_neg (hno _)]
            simp only [rbelow]
            rw [decide_eq_false (show ¬ lev t i ≤ 3 by omega), Bool.and_false]
          · rw [if_neg h5]
            have hok : rbelow t i = true := by
              simp only [rbelow, hp, Int.toNat_natCast]
              rw [decide_eq_true (by omega), decide_eq_true (by omega), decide_eq_true h4, decide_eq_true (by omega)]
              rfl
            have hstep : (∀ j, j < t.length → i ≤ j → rbelow t j = true) ↔ (∀ j, j < t.length → i + 1 ≤ j → rbelow t j = true) := by
              constructor
              · intro H j h1 h2; exact H j h1 (by omega)
              · intro H j h1 h2
                by_cases hj : j = i
                · subst hj; exact hok
                · exact H j h1 (by omega)
            by_cases hA : (∀ j, j < t.length → i ≤ j → rbelow t j = true) ∧ (∀ j, j < t.length → 0 ≤ j → rkid t j = true)
            · rw [if_pos hA, if_pos ⟨hstep.mp hA.1, hA.2⟩]
            · rw [if_neg hA, if_neg (fun h => hA ⟨hstep.mpr h.1, h.2⟩)]
        · rw [if_neg h4, if_neg (hno _)]
          simp only [rbelow, hp, Int.toNat_natCast]
          rw [decide_eq_false h4, Bool.and_false]; rfl
theorem valid_ref (t : List S40) (h1 : 1 ≤ t.length) (h64 : t.length ≤ 64) (h32 : (vsOf t 3).length ≤ 32) :
    Valid t ↔ (par t 0 = -1 ∧ lev t 0 = 0 ∧ (∀ j, j < t.length → 1 ≤ j → rbelow t j = true) ∧ (∀ j, j < t.length → 0 ≤ j → rkid t j = true)) := by
  constructor
  · intro h
    refine ⟨h.root.1, h.root.2, fun j hj hj1 => ?_, fun j hj _ => ?_⟩
    · have := h.below hj
      rw [belowB, if_neg (by omega)] at this
      exact this
    · have := h.2.2.2 j hj
      simp only [okAt, Bool.and_eq_true, decide_eq_true_eq] at this
      unfold rkid
      split
      · rename_i hl
        have h3 : (lev t j == 3) = false := beq_eq_false_iff_ne.mpr (by omega)
        rw [h3] at this
        have h4 : ¬ (kidsOf t (j : Int)).length = 0 := by
          intro h5
          rw [h5] at this
          exact absurd this.1.2 (by decide)
        rw [decide_eq_true (by omega), decide_eq_true this.2]
        rfl
      · rfl
  · rintro ⟨hp, hl, hb, hk⟩
    have hbel : ∀ i, i < t.length → belowB t i = true := by
      intro i hi
      unfold belowB
      by_cases h0 : i = 0
      · rw [if_pos h0, decide_eq_true hp, decide_eq_true hl]; rfl
      · rw [if_neg h0]
        exact hb i hi (by omega)
    have hl3 : ∀ i, i < t.length → lev t i ≤ 3 := by
      intro i hi
      by_cases h0 : i = 0
      · subst h0; omega
      · have := hb i hi (by omega)
        simp only [rbelow, Bool.and_eq_true, decide_eq_true_eq] at this
        exact this.2
    refine ⟨h1, h64, h32, fun i hi => ?_⟩
    simp only [okAt, Bool.and_eq_true, decide_eq_true_eq]
    by_cases h3 : lev t i = 3
    · have h0 : kidsOf t (i : Int) = [] := by
        apply List.eq_nil_iff_forall_not_mem.mpr
        intro x hx
        obtain ⟨j, rfl, _, hj, hP⟩ := pick_mem.mp hx
        have hP := of_decide_eq_true hP
        have hj0 : j ≠ 0 := by rintro rfl; omega
        have := hb j (by omega) (by omega)
        simp only [rbelow, Bool.and_eq_true, decide_eq_true_eq] at this
        rw [hP, Int.toNat_natCast, h3] at this
        have h4 : wrap64 (3 + 1) = 4 := by decide +kernel
        omega
      rw [h0]
      exact ⟨⟨hbel i hi, by rw [h3]; rfl⟩, by simp⟩
    · have := hk i hi (Nat.zero_le _)
      have hl := hl3 i hi
      rw [rkid, if_pos (by omega)] at this
      simp only [Bool.and_eq_true, decide_eq_true_eq] at this
      refine ⟨⟨hbel i hi, ?_⟩, this.2⟩
      rw [beq_eq_false_iff_ne.mpr h3, beq_eq_false_iff_ne.mpr (show (kidsOf t (i : Int)).length ≠ 0 by omega)]
      rfl
theorem rcheck_f (t : List S40) (ht : t.length ≤ 1000) (k : Nat) (hk : 3 * t.length + 8 ≤ k) : catafalqueref01_Check.f k t = some (if Valid t then 0 else 2) := by
  obtain ⟨k, rfl⟩ : ∃ j, k = j + 1 := ⟨k - 1, by omega⟩
  have hr0 : (rd_T40 t 0).f0 = par t 0 := rfl
  have hr1 : (rd_T40 t 0).f1 = lev t 0 := rfl
  unfold catafalqueref01_Check.f
  rw [hr0, hr1]
  by_cases h0 : (t.length : Int) = 0
  · rw [if_pos h0, if_neg (fun h : Valid t => by have := h.1; omega)]
    simp [catafalqueref01_Check.j0]
  · rw [if_neg h0]
    by_cases h1 : (t.length : Int) > 64
    · rw [if_pos h1, if_neg (fun h : Valid t => by have := h.2.1; omega)]
      simp [catafalqueref01_Check.j0]
    · rw [if_neg h1, of_vs t 3 ht _ (by omega), Option.bind_some]
      by_cases h2 : ((vsOf t 3).length : Int) > 32
      · rw [if_pos h2, if_neg (fun h : Valid t => by have := h.2.2.1; omega)]
        simp [catafalqueref01_Check.j0]
      · rw [if_neg h2, if_pos (by omega)]
        have e := valid_ref t (by omega) (by omega) (by omega)
        by_cases h3 : par t 0 = -1
        · rw [if_pos h3]
          simp only [catafalqueref01_Check.j0]
          by_cases h4 : lev t 0 = 0
          · rw [if_neg (by simp [h4])]
            have h := rcheck_l0 t (by omega) (t.length - 1) 1 k (by omega) (by omega) (by omega)
            rw [show ((1 : Nat) : Int) = 1 from rfl] at h
            rw [h]
            by_cases hv : Valid t
            · rw [if_pos hv, if_pos ((e.mp hv).2.2)]
            · rw [if_neg hv, if_neg (fun h => hv (e.mpr ⟨h3, h4, h⟩))]
          · rw [if_pos (by simpa using h4), if_neg (fun h : Valid t => h4 h.root.2)]
        · rw [if_neg h3, if_neg (fun h : Valid t => h3 h.root.1)]
          simp [catafalqueref01_Check.j0]
/-! Layer 2. -/
def procN (t : List S40) : Nat := if Valid t then (vsOf t 3).length else 0
def inP (t : List S40) (a : Int) : Prop := 0 ≤ a ∧ a < (procN t : Int)
instance (t : List S40) (a : Int) : Decidable (inP t a) := inferInstanceAs (Decidable (_ ∧ _))
def vx (t : List S40) (a : Int) : Nat := (rd (vsOf t 3) a).toNat
theorem inP.valid {t : List S40} {a : Int} (h : inP t a) : Valid t := by
  unfold inP procN at h
  by_cases hv : Valid t
  · exact hv
  · rw [if_neg hv] at h; omega
theorem procN_of {t : List S40} (h : Valid t) : procN t = (vsOf t 3).length := by rw [procN, if_pos h]
theorem vx_at {t : List S40} {a : Int} (h : inP t a) : vx t a < t.length ∧ lev t (vx t a) = 3 ∧ rd (vsOf t 3) a = (vx t a : Int) := by
  have hv := h.valid
  have h2 := h.2
  rw [procN_of hv] at h2
  obtain ⟨j, h1, _, h3, h4⟩ := get_pick h.1 h2
  have h5 : vx t a = j := by unfold vx; unfold vsOf; rw [h1]; rfl
  rw [h5]
  exact ⟨by omega, of_decide_eq_true h4, h1⟩
theorem getD_lt_of_sorted {l : List Int} (h : l.Pairwise (· < ·)) {i j : Nat} (hij : i < j) (hj : j < l.length) : l.getD i 0 < l.getD j 0 := by
  rw [List.getD_eq_getElem?_getD, List.getD_eq_getElem?_getD, List.getElem?_eq_getElem hj, List.getElem?_eq_getElem (show i < l.length by omega)]
  exact List.pairwise_iff_getElem.mp h i j (by omega) hj hij
theorem vx_inj {t : List S40} {a b : Int} (ha : inP t a) (hb : inP t b) (h : vx t a = vx t b) : a = b := by
  have hv := ha.valid
  have e1 := (vx_at ha).2.2
  have e2 := (vx_at hb).2.2
  have a2 := ha.2
  have b2 := hb.2
  rw [procN_of hv] at a2 b2
  rw [← h] at e2
  have hs : (vsOf t 3).Pairwise (· < ·) := pick_sorted
  have a0 := ha.1
  have b0 := hb.1
  rcases Int.lt_trichotomy a b with hlt | rfl | hlt
  · have := getD_lt_of_sorted hs (show a.toNat < b.toNat by omega) (by omega)
    have e3 : (vsOf t 3).getD a.toNat 0 = rd (vsOf t 3) a := rfl
    have e4 : (vsOf t 3).getD b.toNat 0 = rd (vsOf t 3) b := rfl
    rw [e3, e4] at this
    omega
  · rfl
  · have := getD_lt_of_sorted hs (show b.toNat < a.toNat by omega) (by omega)
    have e3 : (vsOf t 3).getD a.toNat 0 = rd (vsOf t 3) a := rfl
    have e4 : (vsOf t 3).getD b.toNat 0 = rd (vsOf t 3) b := rfl
    rw [e3, e4] at this
    omega
theorem proc_f (t : List S40) (p : Int) (ht : t.length ≤ 1000) (k : Nat) (hk : 3000 ≤ k) : dist_proc.f k t p = some (if inP t p then (vx t p : Int) else -1) := by
  unfold dist_proc.f
  rw [check_f t ht k (by omega), Option.bind_some]
  by_cases hv : Valid t
  · rw [if_pos hv, if_pos rfl, procs_f t ht k (by omega), Option.bind_some]
    by_cases h0 : p ≥ 0
    · rw [if_pos h0]
      by_cases h1 : p < ((vsOf t 3).length : Int)
      · have hin : inP t p := ⟨h0, by rw [procN_of hv]; exact h1⟩
        rw [if_pos h1, if_pos h0, if_pos hin, (vx_at hin).2.2]
      · rw [if_neg h1, if_neg (fun h : inP t p => h1 (by have := h.2; rwa [procN_of hv] at this))]
    · rw [if_neg h0, if_neg (fun h : inP t p => h0 h.1)]
  · rw [if_neg hv, if_neg (by decide), if_neg (fun h : inP t p => hv h.valid)]
def farV (t : List S40) (v w : Nat) : Nat := if v = w then 0 else if anc t 1 v = anc t 1 w then 1 else if anc t 2 v = anc t 2 w then 2 else 3
def farOf (t : List S40) (a b : Int) : Int := if inP t a ∧ inP t b then (farV t (vx t a) (vx t b) : Int) else -1
theorem anc3 {t : List S40} (h : Valid t) {v : Nat} (hv : v < t.length) (hl : lev t v = 3) : anc t 3 v = 0 := by
  have h1 := anc_at h 3 v hv (by omega)
  by_cases h0 : anc t 3 v = 0
  · exact h0
  · have h2 := (h.at_ h1.1).2.2 h0
    have h3 := (h.at_ (show (par t (anc t 3 v)).toNat < t.length by omega)).1
    omega
theorem up_at {t : List S40} (h : Valid t) {v : Nat} (hv : v < t.length) (hl : lev t v = 3) (d : Nat) (hd : d ≤ 3) : up t (v : Int) (3 - d) = (anc t d v : Nat) := by
  have := up_anc h d v hv (by omega)
  rw [hl] at this
  exact this
theorem far_step {t : List S40} (h : Valid t) {v w : Nat} (hv : v < t.length) (hl : lev t v = 3) (hw : w < t.length) (hm : lev t w = 3) (d : Nat) (hd : d ≤ 3) (k : Nat) (hk : 2005 ≤ k) :
    dist_Far.l0 (k + 1) t (v : Int) (w : Int) (d : Int) = if anc t d v = anc t d w then some (d : Int) else dist_Far.l0 k t (v : Int) (w : Int) ((d + 1 : Nat) : Int) := by
  have h64 := h.2.1
  have e1 : wrap64 (3 - (d : Int)) = 3 - d := by unfold wrap64; omega
  have e2 : wrap64 ((d : Int) + 1) = ((d + 1 : Nat) : Int) := by unfold wrap64; omega
  simp only [dist_Far.l0]
  rw [e1, e2, up_f t v _ (by omega) (by omega) k hk, up_f t w _ (by omega) (by omega) k hk, Option.bind_some, Option.bind_some, up_at h hv hl d hd, up_at h hw hm d hd]
  by_cases he : anc t d v = anc t d w
  · rw [if_pos he, if_pos (by rw [he])]
  · rw [if_neg he, if_neg (by omega)]
theorem far_f (t : List S40) (a b : Int) (ht : t.length ≤ 1000) (k : Nat) (hk : 3010 ≤ k) : dist_Far.f k t a b = some (farOf t a b) := by
  obtain ⟨k, rfl⟩ : ∃ j, k = j + 5 := ⟨k - 5, by omega⟩
  unfold dist_Far.f farOf
  rw [proc_f t a ht _ (by omega), proc_f t b ht _ (by omega), Option.bind_some, Option.bind_some]
  by_cases ha : inP t a
  · rw [if_pos ha, if_neg (by omega)]
    simp only [dist_Far.j0]
    by_cases hb : inP t b
    · obtain ⟨h1, h2, -⟩ := vx_at ha
      obtain ⟨h3, h4, -⟩ := vx_at hb
      have hv := ha.valid
      rw [if_pos hb, if_neg (by simp), if_pos ⟨ha, hb⟩, show (0 : Int) = ((0 : Nat) : Int) from rfl]
      rw [far_step hv h1 h2 h3 h4 0 (by omega) _ (by omega), far_step hv h1 h2 h3 h4 1 (by omega) _ (by omega), far_step hv h1 h2 h3 h4 2 (by omega) _ (by omega), far_step hv h1 h2 h3 h4 3 (by omega) _ (by omega)]
      unfold farV
      rw [anc3 hv h1 h2, anc3 hv h3 h4, if_pos (rfl : (0 : Nat) = 0)]
      have a0 : ∀ x, anc t 0 x = x := fun _ => rfl
      rw [a0, a0]
      by_cases c0 : vx t a = vx t b
      · rw [if_pos c0, if_pos c0]
      · rw [if_neg c0, if_neg c0]
        by_cases c1 : anc t 1 (vx t a) = anc t 1 (vx t b)
        · rw [if_pos c1, if_pos c1]
        · rw [if_neg c1, if_neg c1]
          by_cases c2 : anc t 2 (vx t a) = anc t 2 (vx t b)
          · rw [if_pos c2, if_pos c2]
          · rw [if_neg c2, if_neg c2]
    · rw [if_neg hb, if_pos (by decide), if_neg (fun h : inP t a ∧ inP t b => hb h.2)]
  · rw [if_neg ha, if_pos (by decide), if_neg (fun h : inP t a ∧ inP t b => ha h.1)]
    simp [dist_Far.j0]
/-- Where a number first stands in a list; -1: nowhere. -/
def idxN (l : List Int) (x : Int) : Nat → Nat → Int
  | 0, _ => -1
  | m + 1, i => if rd l (i : Int) = x then (i : Int) else idxN l x m (i + 1)
def idxOf (l : List Int) (x : Int) : Int := idxN l x l.length 0
theorem index_l0 (l : List Int) (x : Int) (hl : l.length ≤ 1000) : ∀ (m i k : Nat), i + m = l.length → m + 1 ≤ k → slices_Index_int_int.l0 k l x (l.length : Int) (i : Int) = some (idxN l x m i)
  | 0, i, k, hi, hk => by
    obtain ⟨k, rfl⟩ : ∃ j, k = j + 1 := ⟨k - 1, by omega⟩
    simp only [slices_Index_int_int.l0]
    rw [if_neg (by omega)]; rfl
  | m + 1, i, k, hi, hk => by
    obtain ⟨k, rfl⟩ : ∃ j, k = j + 1 := ⟨k - 1, by omega⟩
    have hw : wrap64 ((i : Int) + 1) = ((i + 1 : Nat) : Int) := by unfold wrap64; omega
    simp only [slices_Index_int_int.l0, idxN]
    rw [if_pos (by omega), if_pos (by omega), if_pos (by omega), hw, index_l0 l x hl m (i + 1) k (by omega) (by omega)]
    by_cases h : x = rd l (i : Int)
    · rw [if_pos h, if_pos h.symm]
    · rw [if_neg h, if_neg (fun h2 => h h2.symm)]
theorem index_f (l : List Int) (x : Int) (hl : l.length ≤ 1000) (k : Nat) (hk : 1001 ≤ k) : slices_Index_int_int.f k l x = some (idxOf l x) := by
  have := index_l0 l x hl l.length 0 k (by omega) (by omega)
  exact this
theorem idxN_at {l : List Int} {x : Int} : ∀ {m i : Nat}, i + m = l.length → (idxN l x m i = -1 ∧ (∀ j : Nat, i ≤ j → j < l.length → rd l (j : Int) ≠ x)) ∨ ∃ j : Nat, idxN l x m i = (j : Int) ∧ i ≤ j ∧ j < l.length ∧ rd l (j : Int) = x
  | 0, i, h => .inl ⟨rfl, fun j h1 h2 => by omega⟩
  | m + 1, i, h => by
    unfold idxN
    by_cases hx : rd l (i : Int) = x
    · rw [if_pos hx]
      exact .inr ⟨i, rfl, Nat.le_refl _, by omega, hx⟩
    · rw [if_neg hx]
      rcases @idxN_at l x m (i + 1) (by omega) with ⟨h1, h2⟩ | ⟨j, h1, h2, h3, h4⟩
      · refine .inl ⟨h1, fun j hj1 hj2 => ?_⟩
        by_cases hj : j = i
        · subst hj; exact hx
        · exact h2 j (by omega) hj2
      · exact .inr ⟨j, h1, by omega, h3, h4⟩
theorem idxOf_mem {l : List Int} {x : Int} (h : x ∈ l) : 0 ≤ idxOf l x ∧ idxOf l x < l.length ∧ rd l (idxOf l x) = x := by
  rcases @idxN_at l x l.length 0 (by omega) with ⟨h1, h2⟩ | ⟨j, h1, h2, h3, h4⟩
  · exfalso
    obtain ⟨i, hi, he⟩ := List.getElem_of_mem h
    refine h2 i (Nat.zero_le _) hi ?_
    show l.getD i 0 = x
    rw [List.getD_eq_getElem?_getD, List.getElem?_eq_getElem hi]
    exact he
  · have : idxOf l x = (j : Int) := h1
    rw [this]
    exact ⟨by omega, by omega, h4⟩
def nodeOf (t : List S40) (p : Int) : Int := if inP t p then idxOf (vsOf t 1) (anc t 2 (vx t p) : Nat) else -1
theorem vsOf_len (t : List S40) (x : Int) : (vsOf t x).length ≤ t.length := pick_len
theorem node_f (t : List S40) (p : Int) (ht : t.length ≤ 1000) (k : Nat) (hk : 3010 ≤ k) : dist_Node.f k t p = some (nodeOf t p) := by
  unfold dist_Node.f nodeOf
  rw [proc_f t p ht _ (by omega), Option.bind_some]
  by_cases hp : inP t p
  · obtain ⟨h1, h2, -⟩ := vx_at hp
    have hv := hp.valid
    have h64 := hv.2.1
    have hN : topo_Nodes.f k t = some (vsOf t 1) := by
      unfold topo_Nodes.f
      rw [level_f t 1 ht k (by omega)]
      rfl
    have hu : up t (vx t p : Int) 1 = (anc t 2 (vx t p) : Nat) := up_at hv h1 h2 2 (by omega)
    have hl := vsOf_len t 1
    rw [if_pos hp, if_neg (by omega), hN, Option.bind_some, up_f t _ 1 ht (by omega) k (by omega), Option.bind_some, hu, index_f (vsOf t 1) _ (by omega) k (by omega), if_pos hp]
    rfl
  · rw [if_neg hp, if_pos (by decide), if_neg hp]
theorem anc2_node {t : List S40} {p : Int} (hp : inP t p) : ((anc t 2 (vx t p) : Nat) : Int) ∈ vsOf t 1 := by
  obtain ⟨h1, h2, -⟩ := vx_at hp
  have := anc_at hp.valid 2 _ h1 (by omega)
  exact pick_mem.mpr ⟨_, rfl, by omega, by omega, decide_eq_true (by omega)⟩
theorem nodeOf_eq {t : List S40} {a b : Int} (ha : inP t a) (hb : inP t b) : nodeOf t a = nodeOf t b ↔ anc t 2 (vx t a) = anc t 2 (vx t b) := by
  unfold nodeOf
  rw [if_pos ha, if_pos hb]
  have h1 := idxOf_mem (anc2_node ha)
  have h2 := idxOf_mem (anc2_node hb)
  constructor
  · intro h
    rw [h] at h1
    have := h1.2.2.symm.trans h2.2.2
    omega
  · intro h
    rw [h]
theorem farV_le (t : List S40) (v w : Nat) : farV t v w ≤ 3 := by
  unfold farV; split
  · omega
  · split
    · omega
    · split <;> omega
theorem farOf_of {t : List S40} {a b : Int} (ha : inP t a) (hb : inP t b) : farOf t a b = (farV t (vx t a) (vx t b) : Int) := by rw [farOf, if_pos ⟨ha, hb⟩]
theorem farOf_no {t : List S40} {a b : Int} (h : ¬ (inP t a ∧ inP t b)) : farOf t a b = -1 := by rw [farOf, if_neg h]
theorem anc_eq_up {t : List S40} {v w : Nat} : ∀ {d : Nat}, anc t d v = anc t d w → ∀ e, d ≤ e → anc t e v = anc t e w := by
  intro d h e he
  induction e with
  | zero => have : d = 0 := by omega
            subst this; exact h
  | succ e ih =>
    by_cases hd : d = e + 1
    · subst hd; exact h
    · rw [anc_succ, anc_succ, ih (by omega)]
/-- How far: the first step at which the vertices above are one. -/
theorem farV_iff {t : List S40} (h : Valid t) {v w : Nat} (hv : v < t.length) (hl : lev t v = 3) (hw : w < t.length) (hm : lev t w = 3) (d : Nat) : farV t v w ≤ d ↔ (d ≥ 3 ∨ anc t d v = anc t d w) := by
  have a0 : ∀ x, anc t 0 x = x := fun _ => rfl
  unfold farV
  by_cases h0 : v = w
  · rw [if_pos h0]; subst h0; exact ⟨fun _ => .inr rfl, fun _ => Nat.zero_le _⟩
  · rw [if_neg h0]
    by_cases h1 : anc t 1 v = anc t 1 w
    · rw [if_pos h1]
      constructor
      · intro hd; exact .inr (anc_eq_up h1 d hd)
      · rintro (hd | hd)
        · omega
        · rcases Nat.eq_zero_or_pos d with rfl | hp
          · exact absurd hd h0
          · exact hp
    · rw [if_neg h1]
      by_cases h2 : anc t 2 v = anc t 2 w
      · rw [if_pos h2]
        constructor
        · intro hd; exact .inr (anc_eq_up h2 d hd)
        · rintro (hd | hd)
          · omega
          · rcases Nat.lt_or_ge d 2 with hlt | hge
            · exact absurd (anc_eq_up hd 1 (by omega)) h1
            · exact hge
      · rw [if_neg h2]
        constructor
        · intro hd; exact .inl hd
        · rintro (hd | hd)
          · exact hd
          · rcases Nat.lt_or_ge d 3 with hlt | hge
            · exact absurd (anc_eq_up hd 2 (by omega)) h2
            · exact hge
theorem rprocs_f (t : List S40) (ht : t.length ≤ 1000) (k : Nat) (hk : 3010 ≤ k) : catafalqueref02_Procs.f k t = some (procN t : Int) := by
  unfold catafalqueref02_Procs.f procN
  rw [rcheck_f t ht k (by omega), Option.bind_some]
  by_cases hv : Valid t
  · rw [if_pos hv, if_pos rfl, of_vs t 3 ht k (by omega), if_pos hv]; rfl
  · rw [if_neg hv, if_neg (by decide), if_neg hv]; rfl
theorem rup_l0 (t : List S40) (x : Int) : ∀ (n : Nat) (v : Int) (k : Nat), v < (n : Int) → 2 * n + 3 ≤ k → catafalqueref01_Up.f k t v x = some (upN t x (n + 1) v)
  | n, v, k, hv, hk => by
    obtain ⟨k, rfl⟩ : ∃ j, k = j + 2 := ⟨k - 2, by omega⟩
    simp only [catafalqueref01_Up.f, catafalqueref01_Up.j0]
    unfold upN
    by_cases h0 : v < 0
    · rw [if_pos h0, if_pos trivial, if_neg (by omega)]
    · rw [if_neg h0]
      by_cases h1 : v ≥ (t.length : Int)
      · rw [if_pos (decide_eq_true h1), if_neg (by omega)]
      · rw [if_neg (by simpa using h1), if_pos (by omega), if_pos (by omega), if_pos (show 0 ≤ v ∧ v < (t.length : Int) by omega)]
        have hr0 : (rd_T40 t v).f0 = par t v.toNat := rfl
        have hr1 : (rd_T40 t v).f1 = lev t v.toNat := rfl
        rw [hr0, hr1]
        split
        · rfl
        · split
          · rfl
          · obtain ⟨n, rfl⟩ : ∃ j, n = j + 1 := ⟨n - 1, by omega⟩
            rw [rup_l0 t x n _ k (by omega) (by omega), Option.bind_some]
theorem rup_f (t : List S40) (v x : Int) (ht : t.length ≤ 1000) (hv : v < 1000) (k : Nat) (hk : 2005 ≤ k) : catafalqueref01_Up.f k t v x = some (up t v x) := by
  rw [rup_l0 t x 1000 v k (by omega) (by omega)]
  by_cases h0 : v < (t.length : Int)
  · rw [up, upN_more t x 1001 (t.length + 1) v (by omega) (by omega) (by omega) (by omega)]
  · rw [up]
    unfold upN
    rw [if_neg (by omega), if_neg (by omega)]
/-! Who is near. -/
theorem uniq_sorted {α : Type} {lt : α → α → Prop} (irr : ∀ x, ¬ lt x x) (asy : ∀ x y, lt x y → lt y x → False) : ∀ {l1 l2 : List α}, l1.Pairwise lt → l2.Pairwise lt → (∀ x, x ∈ l1 ↔ x ∈ l2) → l1 = l2
  | [], [], _, _, _ => rfl
  | [], b :: l2, _, _, h => by have := (h b).mpr List.mem_cons_self; cases this
  | a :: l1, [], _, _, h => by have := (h a).mp List.mem_cons_self; cases this
  | a :: l1, b :: l2, h1, h2, h => by
    have p1 := List.pairwise_cons.mp h1
    have p2 := List.pairwise_cons.mp h2
    have hab : a = b := by
      rcases List.mem_cons.mp ((h a).mp List.mem_cons_self) with h3 | h3
      · exact h3
      · rcases List.mem_cons.mp ((h b).mpr List.mem_cons_self) with h4 | h4
        · exact h4.symm
        · exact absurd (p1.1 b h4) (fun h5 => asy _ _ h5 (p2.1 a h3))
    subst hab
    rw [uniq_sorted irr asy p1.2 p2.2 (fun x => ?_)]
    constructor
    · intro hx
      rcases List.mem_cons.mp ((h x).mp (List.mem_cons_of_mem _ hx)) with h3 | h3
      · subst h3; exact absurd (p1.1 x hx) (irr x)
      · exact h3
    · intro hx
      rcases List.mem_cons.mp ((h x).mpr (List.mem_cons_of_mem _ hx)) with h3 | h3
      · subst h3; exact absurd (p2.1 x hx) (irr x)
      · exact h3
/-- The others behind p, round about, that are so far. -/
def rowN (t : List S40) (p : Int) (n : Nat) (far : Int) : Nat → Nat → List Int
  | 0, _ => []
  | m + 1, i => if farOf t p (Int.tmod (p + (i : Int)) (n : Int)) = far then Int.tmod (p + (i : Int)) (n : Int) :: rowN t p n far m (i + 1) else rowN t p n far m (i + 1)
def rowOf (t : List S40) (p : Int) (far : Int) : List Int := rowN t p (procN t) far (procN t - 1) 1
def nearOf (t : List S40) (p : Int) : List Int := if inP t p then rowOf t p 1 ++ (rowOf t p 2 ++ rowOf t p 3) else []
theorem procN_le (t : List S40) : procN t ≤ 32 := by
  unfold procN
  split
  · rename_i h; exact h.2.2.1
  · omega
theorem turn_mod {n p : Nat} {i : Nat} (hp : p < n) (h1 : 1 ≤ i) (hi : i < n) : 0 ≤ Int.tmod ((p : Int) + (i : Int)) (n : Int) ∧ Int.tmod ((p : Int) + (i : Int)) (n : Int) < n ∧ Int.tmod ((p : Int) + (i : Int)) (n : Int) ≠ p ∧ dist_Near.turn n p (Int.tmod ((p : Int) + (i : Int)) (n : Int)) = i := by
  have e : Int.tmod ((p : Int) + (i : Int)) (n : Int) = if p + i < n then ((p : Int) + i) else ((p : Int) + i - n) := by
    rw [Int.tmod_eq_emod_of_nonneg (by omega)]
    by_cases h : p + i < n
    · rw [if_pos h, Int.emod_eq_of_lt (by omega) (by omega)]
    · rw [if_neg h, ← Int.sub_emod_right, Int.emod_eq_of_lt (by omega) (by omega)]
  rw [e]
  by_cases h : p + i < n
  · rw [if_pos h]
    refine ⟨by omega, by omega, by omega, ?_⟩
    rw [dist_Near.turn_of (by omega) (by omega), if_neg (by omega)]
    omega
  · rw [if_neg h]
    refine ⟨by omega, by omega, by omega, ?_⟩
    rw [dist_Near.turn_of (by omega) (by omega), if_pos (by omega)]
    omega
theorem rowN_at {t : List S40} {p n : Nat} {far : Int} (hp : p < n) : ∀ {m i : Nat}, 1 ≤ i → i + m ≤ n → ∀ {x : Int}, x ∈ rowN t (p : Int) n far m i → 0 ≤ x ∧ x < n ∧ x ≠ p ∧ farOf t p x = far ∧ (i : Int) ≤ dist_Near.turn n p x ∧ dist_Near.turn n p x < (i + m : Nat)
  | 0, i, _, _, x, h => by cases h
  | m + 1, i, h1, h2, x, h => by
    unfold rowN at h
    have ht := turn_mod hp h1 (by omega : i < n)
    by_cases hf : farOf t (p : Int) (Int.tmod ((p : Int) + (i : Int)) (n : Int)) = far
    · rw [if_pos hf] at h
      rcases List.mem_cons.mp h with rfl | h
      · exact ⟨ht.1, ht.2.1, ht.2.2.1, hf, by omega, by omega⟩
      · have := rowN_at hp (m := m) (i := i + 1) (by omega) (by omega) h
        exact ⟨this.1, this.2.1, this.2.2.1, this.2.2.2.1, by omega, by omega⟩
    · rw [if_neg hf] at h
      have := rowN_at hp (m := m) (i := i + 1) (by omega) (by omega) h
      exact ⟨this.1, this.2.1, this.2.2.1, this.2.2.2.1, by omega, by omega⟩
theorem rowN_sorted {t : List S40} {p n : Nat} {far : Int} (hp : p < n) : ∀ {m i : Nat}, 1 ≤ i → i + m ≤ n → (rowN t (p : Int) n far m i).Pairwise (fun x y => dist_Near.turn n p x < dist_Near.turn n p y)
  | 0, i, _, _ => List.Pairwise.nil
  | m + 1, i, h1, h2 => by
    unfold rowN
    have ht := turn_mod hp h1 (by omega : i < n)
    split
    · refine List.Pairwise.cons (fun y hy => ?_) (rowN_sorted hp (by omega) (by omega))
      have := rowN_at hp (m := m) (i := i + 1) (by omega) (by omega) hy
      omega
    · exact rowN_sorted hp (by omega) (by omega)
theorem rowN_has {t : List S40} {p n : Nat} {far : Int} (hp : p < n) {x : Int} (hx : 0 ≤ x ∧ x < n) (hf : farOf t p x = far) : ∀ {m i : Nat}, 1 ≤ i → i + m ≤ n → (i : Int) ≤ dist_Near.turn n p x → dist_Near.turn n p x < (i + m : Nat) → x ∈ rowN t (p : Int) n far m i
  | 0, i, _, _, h3, h4 => by omega
  | m + 1, i, h1, h2, h3, h4 => by
    unfold rowN
    by_cases he : dist_Near.turn n p x = i
    · have hxe : x = Int.tmod ((p : Int) + (i : Int)) (n : Int) := by
        rw [dist_Near.turn_of hx (by omega)] at he
        rw [Int.tmod_eq_emod_of_nonneg (by omega)]
        by_cases hlt : x < p
        · rw [if_pos hlt] at he
          rw [← Int.sub_emod_right, Int.emod_eq_of_lt (by omega) (by omega)]; omega
        · rw [if_neg hlt] at he
          rw [Int.emod_eq_of_lt (by omega) (by omega)]; omega
      rw [← hxe, if_pos hf]
      exact List.mem_cons_self
    · have := rowN_has hp hx hf (m := m) (i := i + 1) (by omega) (by omega) (by omega) (by omega)
      split
      · exact List.mem_cons_of_mem _ this
      · exact this
theorem far_self {t : List S40} {a : Int} (ha : inP t a) : farOf t a a = 0 := by rw [farOf_of ha ha]; simp [farV]
theorem far_pos {t : List S40} {a b : Int} (ha : inP t a) (hb : inP t b) (h : a ≠ b) : 1 ≤ farOf t a b ∧ farOf t a b ≤ 3 := by
  rw [farOf_of ha hb]
  have h1 := farV_le t (vx t a) (vx t b)
  have h2 : ¬ vx t a = vx t b := fun h2 => h (vx_inj ha hb h2)
  have h3 : 1 ≤ farV t (vx t a) (vx t b) := by
    unfold farV
    rw [if_neg h2]
    split
    · omega
    · split <;> omega
  omega
/-- Before whom one stands. -/
def nearLt (t : List S40) (p : Int) (x y : Int) : Prop := farOf t p x < farOf t p y ∨ farOf t p x = farOf t p y ∧ dist_Near.turn (procN t) p x < dist_Near.turn (procN t) p y
theorem nearOf_mem {t : List S40} {p : Int} (hp : inP t p) {x : Int} : x ∈ nearOf t p ↔ inP t x ∧ x ≠ p := by
  obtain ⟨q, rfl⟩ : ∃ q : Nat, p = (q : Int) := ⟨p.toNat, by have := hp.1; omega⟩
  have hq : q < procN t := by have := hp.2; omega
  rw [nearOf, if_pos hp]
  constructor
  · intro h
    have key : ∀ far, x ∈ rowOf t (q : Int) far → inP t x ∧ x ≠ q := fun far h => by
      have := rowN_at hq (by omega) (by omega) h
      exact ⟨⟨this.1, this.2.1⟩, this.2.2.1⟩
    rcases List.mem_append.mp h with h | h
    · exact key _ h
    · rcases List.mem_append.mp h with h | h
      · exact key _ h
      · exact key _ h
  · rintro ⟨hx, hne⟩
    have hf := far_pos hp hx (Ne.symm hne)
    have hb1 : (1 : Int) ≤ dist_Near.turn (procN t) q x := by
      rw [dist_Near.turn_of hx hp]
      have := hx.1
      split <;> omega
    have hb2 : dist_Near.turn (procN t) q x < (1 + (procN t - 1) : Nat) := by
      rw [dist_Near.turn_of hx hp]
      have := hx.2
      split <;> omega
    have key : ∀ far, farOf t q x = far → x ∈ rowOf t (q : Int) far := fun far hfar => rowN_has hq hx hfar (by omega) (by omega) (by omega) hb2
    rcases (by omega : farOf t q x = 1 ∨ farOf t q x = 2 ∨ farOf t q x = 3) with h | h | h
    · exact List.mem_append_left _ (key 1 h)
    · exact List.mem_append_right _ (List.mem_append_left _ (key 2 h))
    · exact List.mem_append_right _ (List.mem_append_right _ (key 3 h))
theorem nearOf_sorted {t : List S40} {p : Int} (hp : inP t p) : (nearOf t p).Pairwise (nearLt t p) := by
  obtain ⟨q, rfl⟩ : ∃ q : Nat, p = (q : Int) := ⟨p.toNat, by have := hp.1; omega⟩
  have hq : q < procN t := by have := hp.2; omega
  rw [nearOf, if_pos hp]
  have hs : ∀ far, (rowOf t (q : Int) far).Pairwise (nearLt t q) := fun far => by
    refine List.Pairwise.imp_of_mem ?_ (rowN_sorted hq (by omega) (by omega))
    intro x y hx hy h
    have h1 := rowN_at hq (by omega) (by omega) hx
    have h2 := rowN_at hq (by omega) (by omega) hy
    exact .inr ⟨h1.2.2.2.1.trans h2.2.2.2.1.symm, h⟩
  have hf : ∀ far x, x ∈ rowOf t (q : Int) far → farOf t q x = far := fun far x hx => (rowN_at hq (by omega) (by omega) hx).2.2.2.1
  refine List.pairwise_append.mpr ⟨hs 1, List.pairwise_append.mpr ⟨hs 2, hs 3, fun x hx y hy => .inl ?_⟩, fun x hx y hy => .inl ?_⟩
  · rw [hf 2 x hx, hf 3 y hy]; omega
  · rcases List.mem_append.mp hy with hy | hy
    · rw [hf 1 x hx, hf 2 y hy]; omega
    · rw [hf 1 x hx, hf 3 y hy]; omega
theorem dists_f (t : List S40) (p : Int) (ht : t.length ≤ 1000) (k : Nat) (hk : 3010 ≤ k) : ∀ n : Nat, ∃ ds, dist_Near.dists k t p n = some ds ∧ ∀ i : Nat, i < n → ds.getD i 0 = farOf t p (i : Int)
  | 0 => ⟨[], rfl, fun i hi => by omega⟩
  | n + 1 => by
    obtain ⟨ds, h1, h2⟩ := dists_f t p ht k hk n
    have hl := dist_Near.dists_len h1
    refine ⟨ds ++ [farOf t p n], by rw [dist_Near.dists, h1, Option.bind_some, far_f t p n ht k hk]; rfl, fun i hi => ?_⟩
    by_cases hin : i < n
    · rw [← h2 i hin]
      simp [List.getD, List.getElem?_append_left (show i < ds.length by omega)]
    · have : i = n := by omega
      subst this
      simp [List.getD, hl]
theorem others_sorted {p : Int} : ∀ {n : Nat}, (dist_Near.others p n).Pairwise (· ≠ ·)
  | 0 => List.Pairwise.nil
  | n + 1 => by
    unfold dist_Near.others
    split
    · refine List.pairwise_append.mpr ⟨others_sorted, List.pairwise_singleton _ _, fun x hx y hy => ?_⟩
      have := dist_Near.others_mem.mp hx
      rw [List.mem_singleton] at hy
      omega
    · exact others_sorted
theorem sorted_near {t : List S40} {p : Int} (hp : inP t p) {ds : List Int} (hds : ∀ i : Nat, i < procN t → ds.getD i 0 = farOf t p (i : Int)) : dist_Near.sorted (procN t) p ds = nearOf t p := by
  have hm : ∀ x, x ∈ dist_Near.sorted (procN t) p ds ↔ inP t x ∧ x ≠ p := fun x => by
    unfold dist_Near.sorted
    rw [List.mem_mergeSort, dist_Near.others_mem]
    exact ⟨fun h => ⟨⟨h.1, h.2.1⟩, h.2.2⟩, fun h => ⟨h.1.1, h.1.2, h.2⟩⟩
  have hd : ∀ x, inP t x → ds.getD x.toNat 0 = farOf t p x := fun x hx => by
    have := hds x.toNat (by have := hx.1; have := hx.2; omega)
    rwa [Int.toNat_of_nonneg hx.1] at this
  refine uniq_sorted (lt := nearLt t p) (fun x h => ?_) (fun x y h1 h2 => ?_) ?_ (nearOf_sorted hp) (fun x => by rw [hm, nearOf_mem hp])
  · unfold nearLt at h; omega
  · unfold nearLt at h1 h2; omega
  · have hs : (dist_Near.sorted (procN t) p ds).Pairwise (fun x y => (!decide (dist_Near.cf (procN t) p ds y x < 0)) = true) := by
      refine List.pairwise_mergeSort (fun a b c h1 h2 => ?_) (fun a b => ?_) _
      · rw [Bool.not_eq_true', decide_eq_false_iff_not, dist_Near.cf_lt] at *
        omega
      · by_cases h : dist_Near.cf (procN t) p ds b a < 0
        · have : ¬ dist_Near.cf (procN t) p ds a b < 0 := by rw [dist_Near.cf_lt] at *; omega
          simp [this]
        · simp [h]
    have hn : (dist_Near.sorted (procN t) p ds).Pairwise (· ≠ ·) := (List.mergeSort_perm _ _).symm.pairwise others_sorted (fun h => Ne.symm h)
    refine List.Pairwise.imp_of_mem ?_ (hs.and hn)
    rintro x y hx hy ⟨h1, h2⟩
    have hx := (hm x).mp hx
    have hy := (hm y).mp hy
    rw [Bool.not_eq_true', decide_eq_false_iff_not, dist_Near.cf_lt, hd x hx.1, hd y hy.1] at h1
    unfold nearLt
    have ht : dist_Near.turn (procN t) p x ≠ dist_Near.turn (procN t) p y := by
      rw [dist_Near.turn_of hx.1 hp, dist_Near.turn_of hy.1 hp]
      have := hx.1.1; have := hx.1.2; have := hy.1.1; have := hy.1.2
      split <;> split <;> omega
    omega
theorem near_f (t : List S40) (p : Int) (ht : t.length ≤ 1000) (k : Nat) (hk : 3010 ≤ k) : dist_Near.f k t p = some (nearOf t p) := by
  unfold dist_Near.f
  rw [proc_f t p ht _ (by omega), Option.bind_some]
  by_cases hp : inP t p
  · have hN := procN_of hp.valid
    have h2 := hp.2
    have h32 := procN_le t
    rw [hN] at h2 h32
    obtain ⟨ds, h3, h4⟩ := dists_f t p ht k hk (procN t)
    rw [if_pos hp, if_neg (by omega), procs_f t ht k (by omega), Option.bind_some, if_pos (by omega), if_pos ⟨hp.1, h2, by omega⟩, ← hN, h3, Option.bind_some, sorted_near hp h4]
  · rw [if_neg hp, if_pos (by decide), nearOf, if_neg hp]
theorem ints_l0 (a b : List Int) (hl : a.length = b.length) (ha : a.length ≤ 100000) : ∀ (m i k : Nat), i + m = a.length → m + 1 ≤ k → catafalqueref01_Ints.l0 k a b (i : Int) = some (decide (a.drop i = b.drop i))
  | 0, i, k, hi, hk => by
    obtain ⟨k, rfl⟩ : ∃ j, k = j + 1 := ⟨k - 1, by omega⟩
    simp only [catafalqueref01_Ints.l0]
    rw [if_neg (by omega), List.drop_of_length_le (by omega), List.drop_of_length_le (by omega)]
    rfl
  | m + 1, i, k, hi, hk => by
    obtain ⟨k, rfl⟩ : ∃ j, k = j + 1 := ⟨k - 1, by omega⟩
    have hw : wrap64 ((i : Int) + 1) = ((i + 1 : Nat) : Int) := by unfold wrap64; omega
    have ra : rd a (i : Int) = a[i]'(by omega) := by show a.getD i 0 = _; rw [List.getD_eq_getElem?_getD, List.getElem?_eq_getElem (by omega)]; rfl
    have rb : rd b (i : Int) = b[i]'(by omega) := by show b.getD i 0 = _; rw [List.getD_eq_getElem?_getD, List.getElem?_eq_getElem (by omega)]; rfl
    simp only [catafalqueref01_Ints.l0]
    rw [if_pos (by omega), if_pos (by omega), if_pos (by omega), hw, ints_l0 a b hl ha m (i + 1) k (by omega) (by omega), ra, rb]
    have da := List.drop_eq_getElem_cons (show i < a.length by omega)
    have db := List.drop_eq_getElem_cons (show i < b.length by omega)
    rw [da, db]
    by_cases h : a[i]'(by omega) = b[i]'(by omega)
    · rw [if_pos h]
      exact congrArg some (decide_eq_decide.mpr ⟨fun e => by rw [h, e], fun e => (List.cons.inj e).2⟩)
    · rw [if_neg h, decide_eq_false (fun e => h (List.cons.inj e).1)]
theorem ints_f (a b : List Int) (ha : a.length ≤ 100000) (k : Nat) (hk : a.length + 1 ≤ k) : catafalqueref01_Ints.f k a b = some (decide (a = b)) := by
  unfold catafalqueref01_Ints.f
  by_cases h : (a.length : Int) = (b.length : Int)
  · rw [if_pos h]
    exact ints_l0 a b (by omega) ha a.length 0 k (by omega) (by omega)
  · rw [if_neg h, decide_eq_false (fun h2 => h (by rw [h2]))]
theorem nearOf_len {t : List S40} {p : Int} : (nearOf t p).length ≤ 96 := by
  have h32 := procN_le t
  have key : ∀ (q : Int) (n : Nat) (far : Int) (m i : Nat), (rowN t q n far m i).length ≤ m := by
    intro q n far m
    induction m with
    | zero => intro i; exact Nat.le_refl 0
    | succ m ih =>
      intro i
      have := ih (i + 1)
      unfold rowN
      split
      · simp; omega
      · omega
  unfold nearOf
  split
  · have h1 := key p (procN t) 1 (procN t - 1) 1
    have h2 := key p (procN t) 2 (procN t - 1) 1
    have h3 := key p (procN t) 3 (procN t - 1) 1
    simp only [rowOf, List.length_append]
    omega
  · simp
theorem shown_f (k : Nat) (hk : 3010 ≤ k) : catafalquelaw02_shown.f k = some true := by
  have ht : ([(⟨(-1), 0⟩ : S40), (⟨0, 1⟩ : S40), (⟨1, 2⟩ : S40), (⟨2, 3⟩ : S40), (⟨2, 3⟩ : S40), (⟨0, 1⟩ : S40), (⟨5, 2⟩ : S40), (⟨6, 3⟩ : S40), (⟨6, 3⟩ : S40)] : List S40).length ≤ 1000 := by decide
  unfold catafalquelaw02_shown.f catafalquelaw02_two.f
  rw [Option.bind_some, far_f _ _ _ ht k hk, Option.bind_some, far_f _ _ _ ht k hk, Option.bind_some, near_f _ _ ht k hk, Option.bind_some, node_f _ _ ht k hk, ints_f _ _ (by have := @nearOf_len [(⟨(-1), 0⟩ : S40), (⟨0, 1⟩ : S40), (⟨1, 2⟩ : S40), (⟨2, 3⟩ : S40), (⟨2, 3⟩ : S40), (⟨0, 1⟩ : S40), (⟨5, 2⟩ : S40), (⟨6, 3⟩ : S40), (⟨6, 3⟩ : S40)] 3; omega) k (by have := @nearOf_len [(⟨(-1), 0⟩ : S40), (⟨0, 1⟩ : S40), (⟨1, 2⟩ : S40), (⟨2, 3⟩ : S40), (⟨2, 3⟩ : S40), (⟨0, 1⟩ : S40), (⟨5, 2⟩ : S40), (⟨6, 3⟩ : S40), (⟨6, 3⟩ : S40)] 3; omega), Option.bind_some, Option.bind_some]
  decide +kernel
theorem DistUp : catafalquelaw02_DistUp.Pure := by
  intro t a b hb _ _
  refine ⟨7002, ?_⟩
  unfold catafalquelaw02_DistUp.f
  rw [shown_f 7002 (by decide), Option.bind_some]
  by_cases h : (t.length : Int) > 64
  · rw [if_pos h]
  · have ht : t.length ≤ 1000 := by omega
    rw [if_neg h, far_f t a b ht _ (by decide), rprocs_f t ht _ (by decide), Option.bind_some, Option.bind_some]
    have hno : ∀ (q : Bool), ¬ (inP t a ∧ inP t b) → q = true → catafalquelaw02_DistUp.j0 7002 t a b true (farOf t a b) q = some true := by
      rintro q hn rfl
      rw [farOf_no hn]
      simp [catafalquelaw02_DistUp.j0]
    by_cases a0 : a < 0
    · rw [if_pos a0, hno _ (fun h => by have := h.1.1; omega) rfl]
    · rw [if_neg a0]
      by_cases a1 : a ≥ (procN t : Int)
      · rw [if_pos a1, hno _ (fun h => by have := h.1.2; omega) rfl]
      · rw [if_neg a1]
        by_cases b0 : b < 0
        · rw [if_pos b0, hno _ (fun h => by have := h.2.1; omega) rfl]
        · rw [if_neg b0]
          by_cases b1 : b ≥ (procN t : Int)
          · rw [hno _ (fun h => by have := h.2.2; omega) (decide_eq_true b1)]
          · have ha : inP t a := ⟨by omega, by omega⟩
            have hbb : inP t b := ⟨by omega, by omega⟩
            have hv := ha.valid
            have hN := procN_of hv
            have h64 := hv.2.1
            obtain ⟨h1, h2, h5⟩ := vx_at ha
            obtain ⟨h3, h4, h6⟩ := vx_at hbb
            rw [decide_eq_false b1]
            have hfar := farOf_of ha hbb
            have hle := farV_le t (vx t a) (vx t b)
            have hiff := farV_iff hv h1 h2 h3 h4
            generalize farV t (vx t a) (vx t b) = d at hfar hle hiff
            rw [hfar]
            simp only [catafalquelaw02_DistUp.j0, catafalquelaw02_DistUp.j1]
            have e1 : wrap64 (3 - (d : Int)) = 3 - d := by unfold wrap64; omega
            have ed : anc t d (vx t a) = anc t d (vx t b) := by
              rcases (hiff d).mp (Nat.le_refl d) with h7 | h7
              · have : d = 3 := by omega
                subst this
                rw [anc3 hv h1 h2, anc3 hv h3 h4]
              · exact h7
            rw [if_neg (by decide), if_neg (by omega), decide_eq_false (show ¬ (d : Int) > 3 by omega), if_neg (by decide), of_vs t 3 ht _ (by omega), Option.bind_some, if_pos (by omega), if_pos (by omega), h5, h6, e1, rup_f t _ _ ht (by omega) _ (by decide), Option.bind_some, if_pos (by omega), if_pos (by omega), rup_f t _ _ ht (by omega) _ (by decide), Option.bind_some, up_at hv h1 h2 d hle, up_at hv h3 h4 d hle, ed]
            by_cases hd : (d : Int) > 0
            · obtain ⟨c, rfl⟩ : ∃ c, d = c + 1 := ⟨d - 1, by omega⟩
              have e2 : wrap64 (4 - ((c + 1 : Nat) : Int)) = 3 - c := by unfold wrap64; omega
              have ec : ¬ ((anc t c (vx t a) : Nat) : Int) = (anc t c (vx t b) : Nat) := by
                intro h7
                have := (hiff c).mpr (.inr (by omega))
                omega
              rw [if_pos hd, e2, rup_f t _ _ ht (by omega) _ (by decide), Option.bind_some, rup_f t _ _ ht (by omega) _ (by decide), Option.bind_some, up_at hv h1 h2 c (by omega), up_at hv h3 h4 c (by omega), if_pos trivial, if_pos rfl, beq_eq_false_iff_ne.mpr ec]
              rfl
            · rw [if_neg hd, if_pos trivial, if_pos rfl]
              rfl
end Go.Proofs.Ytjfaafnngloblaa.Pure
