/- How far processors are: what the program's walks compute. No condition. -/
import Derived.Test.YtjfaafnngloblaaTopo3
namespace Go.Proofs.Ytjfaafnngloblaa.Ev
open Go Go.Proofs
set_option linter.unusedVariables false
set_option linter.unusedSimpArgs false
open Go.RowKit (wrap64)
set_option maxRecDepth 100000
/-! Layer 2. -/
def procN (t : List SVtx) : Nat := if Valid t then (vsOf t 3).length else 0
def inP (t : List SVtx) (a : Int) : Prop := 0 ≤ a ∧ a < (procN t : Int)
instance (t : List SVtx) (a : Int) : Decidable (inP t a) := inferInstanceAs (Decidable (_ ∧ _))
def vx (t : List SVtx) (a : Int) : Nat := (rd (vsOf t 3) a).toNat
theorem inP.valid {t : List SVtx} {a : Int} (h : inP t a) : Valid t := by
  unfold inP procN at h
  by_cases hv : Valid t
  · exact hv
  · rw [if_neg hv] at h; omega
theorem procN_of {t : List SVtx} (h : Valid t) : procN t = (vsOf t 3).length := by rw [procN, if_pos h]
theorem vx_at {t : List SVtx} {a : Int} (h : inP t a) : vx t a < t.length ∧ lev t (vx t a) = 3 ∧ rd (vsOf t 3) a = (vx t a : Int) := by
  have hv := h.valid
  have h2 := h.2
  rw [procN_of hv] at h2
  obtain ⟨j, h1, _, h3, h4⟩ := get_pick h.1 h2
  have h5 : vx t a = j := by unfold vx; unfold vsOf; rw [h1]; rfl
  rw [h5]
  exact ⟨by omega, of_decide_eq_true h4, h1⟩
theorem getD_lt_of_sorted {l : List Int} (h : l.Pairwise (· < ·)) {i j : Nat} (hij : i < j) (hj : j < l.length) : l.getD i 0 < l.getD j 0 := by
  rw [List.getD_eq_getElem?_getD, List.getD_eq_getElem?_getD, List.getElem?_eq_getElem hj, List.getElem?_eq_getElem (show i < l.length by omega)]
  exact List.pairwise_iff_getElem.mp h i j (by omega) hj hij
theorem vx_inj {t : List SVtx} {a b : Int} (ha : inP t a) (hb : inP t b) (h : vx t a = vx t b) : a = b := by
  have hv := ha.valid
  have e1 := (vx_at ha).2.2
  have e2 := (vx_at hb).2.2
  have a2 := ha.2
  have b2 := hb.2
  rw [procN_of hv] at a2 b2
  rw [← h] at e2
  have hs : (vsOf t 3).Pairwise (· < ·) := pick_sorted
  have a0 := ha.1
  have b0 := hb.1
  rcases Int.lt_trichotomy a b with hlt | rfl | hlt
  · have := getD_lt_of_sorted hs (show a.toNat < b.toNat by omega) (by omega)
    have e3 : (vsOf t 3).getD a.toNat 0 = rd (vsOf t 3) a := rfl
    have e4 : (vsOf t 3).getD b.toNat 0 = rd (vsOf t 3) b := rfl
    rw [e3, e4] at this
    omega
  · rfl
  · have := getD_lt_of_sorted hs (show b.toNat < a.toNat by omega) (by omega)
    have e3 : (vsOf t 3).getD a.toNat 0 = rd (vsOf t 3) a := rfl
    have e4 : (vsOf t 3).getD b.toNat 0 = rd (vsOf t 3) b := rfl
    rw [e3, e4] at this
    omega
def farV (t : List SVtx) (v w : Nat) : Nat := if v = w then 0 else if anc t 1 v = anc t 1 w then 1 else if anc t 2 v = anc t 2 w then 2 else 3
def farOf (t : List SVtx) (a b : Int) : Int := if inP t a ∧ inP t b then (farV t (vx t a) (vx t b) : Int) else -1
theorem anc3 {t : List SVtx} (h : Valid t) {v : Nat} (hv : v < t.length) (hl : lev t v = 3) : anc t 3 v = 0 := by
  have h1 := anc_at h 3 v hv (by omega)
  by_cases h0 : anc t 3 v = 0
  · exact h0
  · have h2 := (h.at_ h1.1).2.2 h0
    have h3 := (h.at_ (show (par t (anc t 3 v)).toNat < t.length by omega)).1
    omega
theorem up_at {t : List SVtx} (h : Valid t) {v : Nat} (hv : v < t.length) (hl : lev t v = 3) (d : Nat) (hd : d ≤ 3) : up t (v : Int) (3 - d) = (anc t d v : Nat) := by
  have := up_anc h d v hv (by omega)
  rw [hl] at this
  exact this
/-- Where a number first stands in a list; -1: nowhere. -/
def idxN (l : List Int) (x : Int) : Nat → Nat → Int
  | 0, _ => -1
  | m + 1, i => if rd l (i : Int) = x then (i : Int) else idxN l x m (i + 1)
def idxOf (l : List Int) (x : Int) : Int := idxN l x l.length 0
theorem idxN_at {l : List Int} {x : Int} : ∀ {m i : Nat}, i + m = l.length → (idxN l x m i = -1 ∧ (∀ j : Nat, i ≤ j → j < l.length → rd l (j : Int) ≠ x)) ∨ ∃ j : Nat, idxN l x m i = (j : Int) ∧ i ≤ j ∧ j < l.length ∧ rd l (j : Int) = x
  | 0, i, h => .inl ⟨rfl, fun j h1 h2 => by omega⟩
  | m + 1, i, h => by
    unfold idxN
    by_cases hx : rd l (i : Int) = x
    · rw [if_pos hx]
      exact .inr ⟨i, rfl, Nat.le_refl _, by omega, hx⟩
    · rw [if_neg hx]
      rcases @idxN_at l x m (i + 1) (by omega) with ⟨h1, h2⟩ | ⟨j, h1, h2, h3, h4⟩
      · refine .inl ⟨h1, fun j hj1 hj2 => ?_⟩
        by_cases hj : j = i
        · subst hj; exact hx
        · exact h2 j (by omega) hj2
      · exact .inr ⟨j, h1, by omega, h3, h4⟩
theorem idxOf_mem {l : List Int} {x : Int} (h : x ∈ l) : 0 ≤ idxOf l x ∧ idxOf l x < l.length ∧ rd l (idxOf l x) = x := by
  rcases @idxN_at l x l.length 0 (by omega) with ⟨h1, h2⟩ | ⟨j, h1, h2, h3, h4⟩
  · exfalso
    obtain ⟨i, hi, he⟩ := List.getElem_of_mem h
    refine h2 i (Nat.zero_le _) hi ?_
    show l.getD i 0 = x
    rw [List.getD_eq_getElem?_getD, List.getElem?_eq_getElem hi]
    exact he
  · have : idxOf l x = (j : Int) := h1
    rw [this]
    exact ⟨by omega, by omega, h4⟩
def nodeOf (t : List SVtx) (p : Int) : Int := if inP t p then idxOf (vsOf t 1) (anc t 2 (vx t p) : Nat) else -1
theorem vsOf_len (t : List SVtx) (x : Int) : (vsOf t x).length ≤ t.length := pick_len
theorem anc2_node {t : List SVtx} {p : Int} (hp : inP t p) : ((anc t 2 (vx t p) : Nat) : Int) ∈ vsOf t 1 := by
  obtain ⟨h1, h2, -⟩ := vx_at hp
  have := anc_at hp.valid 2 _ h1 (by omega)
  exact pick_mem.mpr ⟨_, rfl, by omega, by omega, decide_eq_true (by omega)⟩
theorem nodeOf_eq {t : List SVtx} {a b : Int} (ha : inP t a) (hb : inP t b) : nodeOf t a = nodeOf t b ↔ anc t 2 (vx t a) = anc t 2 (vx t b) := by
  unfold nodeOf
  rw [if_pos ha, if_pos hb]
  have h1 := idxOf_mem (anc2_node ha)
  have h2 := idxOf_mem (anc2_node hb)
  constructor
  · intro h
    rw [h] at h1
    have := h1.2.2.symm.trans h2.2.2
    omega
  · intro h
    rw [h]
theorem farV_le (t : List SVtx) (v w : Nat) : farV t v w ≤ 3 := by
  unfold farV; split
  · omega
  · split
    · omega
    · split <;> omega
theorem farOf_of {t : List SVtx} {a b : Int} (ha : inP t a) (hb : inP t b) : farOf t a b = (farV t (vx t a) (vx t b) : Int) := by rw [farOf, if_pos ⟨ha, hb⟩]
theorem farOf_no {t : List SVtx} {a b : Int} (h : ¬ (inP t a ∧ inP t b)) : farOf t a b = -1 := by rw [farOf, if_neg h]
theorem anc_eq_up {t : List SVtx} {v w : Nat} : ∀ {d : Nat}, anc t d v = anc t d w → ∀ e, d ≤ e → anc t e v = anc t e w := by
  intro d h e he
  induction e with
  | zero => have : d = 0 := by omega
            subst this; exact h
  | succ e ih =>
    by_cases hd : d = e + 1
    · subst hd; exact h
    · rw [anc_succ, anc_succ, ih (by omega)]
/-- How far: the first step at which the vertices above are one. -/
theorem farV_iff {t : List SVtx} (h : Valid t) {v w : Nat} (hv : v < t.length) (hl : lev t v = 3) (hw : w < t.length) (hm : lev t w = 3) (d : Nat) : farV t v w ≤ d ↔ (d ≥ 3 ∨ anc t d v = anc t d w) := by
  have a0 : ∀ x, anc t 0 x = x := fun _ => rfl
  unfold farV
  by_cases h0 : v = w
  · rw [if_pos h0]; subst h0; exact ⟨fun _ => .inr rfl, fun _ => Nat.zero_le _⟩
  · rw [if_neg h0]
    by_cases h1 : anc t 1 v = anc t 1 w
    · rw [if_pos h1]
      constructor
      · intro hd; exact .inr (anc_eq_up h1 d hd)
      · rintro (hd | hd)
        · omega
        · rcases Nat.eq_zero_or_pos d with rfl | hp
          · exact absurd hd h0
          · exact hp
    · rw [if_neg h1]
      by_cases h2 : anc t 2 v = anc t 2 w
      · rw [if_pos h2]
        constructor
        · intro hd; exact .inr (anc_eq_up h2 d hd)
        · rintro (hd | hd)
          · omega
          · rcases Nat.lt_or_ge d 2 with hlt | hge
            · exact absurd (anc_eq_up hd 1 (by omega)) h1
            · exact hge
      · rw [if_neg h2]
        constructor
        · intro hd; exact .inl hd
        · rintro (hd | hd)
          · exact hd
          · rcases Nat.lt_or_ge d 3 with hlt | hge
            · exact absurd (anc_eq_up hd 2 (by omega)) h2
            · exact hge

theorem rd_at {l : List Int} {i : Nat} (h : i < l.length) : l[i]? = some (rd l (i : Int)) := by
  simp [rd, List.getD_eq_getElem?_getD, h]
theorem farV_first {t : List SVtx} {v w d : Nat} (hd : d ≤ 3) (h3 : anc t 3 v = anc t 3 w) (he : anc t d v = anc t d w) (hn : ∀ e, e < d → anc t e v ≠ anc t e w) : farV t v w = d := by
  have a0 : ∀ x, anc t 0 x = x := fun _ => rfl
  unfold farV
  match d, hd, he, hn with
  | 0, _, he, _ => rw [a0, a0] at he; rw [if_pos he]
  | 1, _, he, hn => rw [if_neg (by have := hn 0 (by omega); rwa [a0, a0] at this), if_pos he]
  | 2, _, he, hn => rw [if_neg (by have := hn 0 (by omega); rwa [a0, a0] at this), if_neg (hn 1 (by omega)), if_pos he]
  | 3, _, he, hn => rw [if_neg (by have := hn 0 (by omega); rwa [a0, a0] at this), if_neg (hn 1 (by omega)), if_neg (hn 2 (by omega))]
section
variable {X : Prims} (hX : Low X)
include hX
theorem proc_g (t : List SVtx) (p : Int) (ht : t.length ≤ 1000) : Gv P X 24 [encT t, I p] (I (if inP t p then (vx t p : Int) else -1)) := by
  refine gv_of (hX _ (by decide)) fun24 rfl ?_
  simp +decide only [Try.f24, encT, go_sem]
  refine WO_call rfl rfl rfl rfl rfl (check_g hX t ht) ?_
  by_cases hv : Valid t
  · rw [if_pos hv]
    simp +decide only [go_sem, Int.reduceBNe]
    refine WO_call rfl rfl rfl rfl rfl (procs_g hX t ht) ?_
    by_cases h0 : 0 ≤ p
    · by_cases h1 : p < ((vsOf t 3).length : Int)
      · have hin : inP t p := ⟨h0, by rw [procN_of hv]; exact h1⟩
        have hx := rd_at (l := vsOf t 3) (i := p.toNat) (by omega)
        have hp : ((p.toNat : Nat) : Int) = p := by omega
        rw [hp, (vx_at hin).2.2] at hx
        simp +decide only [go_sem, h0, h1, hx]
        exact ⟨_, rfl, rfl, by rw [if_pos hin]⟩
      · simp +decide only [go_sem, h0, h1]
        exact ⟨_, rfl, rfl, by rw [if_neg (fun h : inP t p => h1 (by have := h.2; rwa [procN_of hv] at this))]⟩
    · simp +decide only [go_sem, h0]
      exact ⟨_, rfl, rfl, by rw [if_neg (fun h : inP t p => h0 h.1)]⟩
  · rw [if_neg hv]
    simp +decide only [go_sem, Int.reduceBNe]
    exact ⟨_, rfl, rfl, by rw [if_neg (fun h : inP t p => hv h.valid)]⟩
theorem far_g (t : List SVtx) (a b : Int) (ht : t.length ≤ 1000) : Gv P X 11 [encT t, I a, I b] (I (farOf t a b)) := by
  refine gv_of (hX _ (by decide)) fun11 rfl ?_
  simp +decide only [Try.f11, encT, go_sem]
  refine WO_call rfl rfl rfl rfl rfl (proc_g hX t a ht) ?_
  simp +decide only [go_sem]
  refine WO_call rfl rfl rfl rfl rfl (proc_g hX t b ht) ?_
  unfold farOf
  by_cases ha : inP t a
  · have ha0 : ¬ (vx t a : Int) < 0 := by omega
    by_cases hb : inP t b
    · have hb0 : ¬ (vx t b : Int) < 0 := by omega
      obtain ⟨h1, h2, -⟩ := vx_at ha
      obtain ⟨h3, h4, -⟩ := vx_at hb
      have hv := ha.valid
      rw [if_pos ha, if_pos hb, if_pos ⟨ha, hb⟩]
      simp +decide only [go_sem, ha0, hb0]
      refine W_ind (fun n s => ∃ d : Nat, d + n = 3 ∧ (∀ e, e < d → anc t e (vx t a) ≠ anc t e (vx t b)) ∧ FrIs 37 [(0, .sl .no (t.map encV)), (7, I (vx t a)), (8, I (vx t b)), (9, I d)] s.fr ∧ s.S = [] ∧ s.T = []) ?_ (n := 3) ⟨0, rfl, fun e h => absurd h (Nat.not_lt_zero e), ⟨rfl, rfl, rfl, rfl, rfl, trivial⟩, rfl, rfl⟩
      rintro n ⟨L, S, T⟩ ih ⟨d, hd, hn, hF, rfl, rfl⟩
      obtain ⟨j, rfl⟩ := hF.ex
      have e1 : IntKind.i64.wrap (3 - (d : Int)) = 3 - d := wrap64_of (by omega)
      have hw := wrap_nat d (by omega)
      simp +decide only [fr, jl, Nat.reduceAdd, go_sem, e1]
      refine WO_call rfl rfl rfl rfl rfl (up_g hX t (vx t a) (3 - d) ht) ?_
      simp +decide only [go_sem]
      refine WO_call rfl rfl rfl rfl rfl (up_g hX t (vx t b) (3 - d) ht) ?_
      rw [up_at hv h1 h2 d (by omega), up_at hv h3 h4 d (by omega)]
      simp +decide only [go_sem]
      refine Wif_of (fun h => ?_) (fun h => ?_)
      · have he : anc t d (vx t a) = anc t d (vx t b) := by
          have : ((anc t d (vx t a) : Nat) : Int) = (anc t d (vx t b) : Nat) := by simpa using h
          omega
        simp +decide only [go_sem]
        exact ⟨_, rfl, rfl, by rw [farV_first (by omega) (by rw [anc3 hv h1 h2, anc3 hv h3 h4]) he hn]⟩
      · have he : anc t d (vx t a) ≠ anc t d (vx t b) := by
          have : ¬ ((anc t d (vx t a) : Nat) : Int) = (anc t d (vx t b) : Nat) := by simpa using h
          omega
        have h3d : d ≠ 3 := fun h => by subst h; exact he (by rw [anc3 hv h1 h2, anc3 hv h3 h4])
        simp +decide only [go_sem, hw]
        refine ih (n - 1) _ (by omega) ⟨d + 1, by omega, fun e h => ?_, ⟨rfl, rfl, rfl, rfl, rfl, trivial⟩, rfl, rfl⟩
        by_cases hed : e = d
        · subst hed; exact he
        · exact hn e (by omega)
    · rw [if_pos ha, if_neg hb, if_neg (fun h : inP t a ∧ inP t b => hb h.2)]
      simp +decide only [go_sem, ha0]
      exact ⟨_, rfl, rfl, rfl⟩
  · rw [if_neg ha, if_neg (fun h : inP t a ∧ inP t b => ha h.1)]
    simp +decide only [go_sem]
    exact ⟨_, rfl, rfl, rfl⟩
theorem index_g (l : List Int) (x : Int) (hl : l.length ≤ 100000) : Gv P X 26 [L l, I x] (I (idxOf l x)) := by
  refine gv_of (hX _ (by decide)) fun26 rfl ?_
  simp +decide only [Try.f26, go_sem]
  refine W_ind (fun n s => ∃ i : Nat, i + n = l.length ∧ idxOf l x = idxN l x n i ∧ FrIs 19 [(0, L l), (1, I x), (7, I l.length), (8, I i)] s.fr ∧ s.S = [] ∧ s.T = []) ?_ (n := l.length) ⟨0, by omega, rfl, ⟨rfl, rfl, rfl, rfl, rfl, trivial⟩, rfl, rfl⟩
  rintro n ⟨L, S, T⟩ ih ⟨i, hi, he, hF, rfl, rfl⟩
  obtain ⟨j, rfl⟩ := hF.ex
  have hw := wrap_nat i (by omega)
  simp +decide only [fr, jl, Nat.reduceAdd, go_sem]
  refine Wif_of (fun h => ?_) (fun h => ?_)
  · have hlt : i < l.length := by simpa using h
    have hx := rd_at hlt
    obtain ⟨m, rfl⟩ : ∃ m, n = m + 1 := ⟨n - 1, by omega⟩
    rw [idxN] at he
    simp +decide only [go_sem, hx]
    refine Wif_of (fun h => ?_) (fun h => ?_)
    · have h' : x = rd l i := by simpa using h
      rw [if_pos h'.symm] at he
      simp +decide only [go_sem]
      exact ⟨_, rfl, rfl, by rw [he]⟩
    · have h' : x ≠ rd l i := by simpa using h
      rw [if_neg (fun h2 => h' h2.symm)] at he
      simp +decide only [go_sem, hw]
      exact ih m _ (by omega) ⟨i + 1, by omega, he, ⟨rfl, rfl, rfl, rfl, rfl, trivial⟩, rfl, rfl⟩
  · have hi' : n = 0 := by simp at h; omega
    subst hi'
    simp +decide only [go_sem]
    exact ⟨_, rfl, rfl, by rw [he]; rfl⟩
end
end Go.Proofs.Ytjfaafnngloblaa.Ev
