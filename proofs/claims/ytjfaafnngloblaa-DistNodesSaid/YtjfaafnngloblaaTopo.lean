/- The tree of processors: what the program's walks through it compute. No condition. -/
import Derived.Test.YtjfaafnngloblaaEvT
import Derived.RowKit
namespace Go.Proofs.Ytjfaafnngloblaa.Ev
open Go Go.Proofs
set_option linter.unusedVariables false
set_option linter.unusedSimpArgs false
open Go.RowKit (wrap64)
set_option maxRecDepth 100000
structure SVtx where
  f0 : Int
  f1 : Int
  deriving Inhabited, DecidableEq
abbrev z_Vtx : SVtx := ⟨0, 0⟩
def rd (l : List Int) (i : Int) : Int := l.getD i.toNat 0
theorem wrap_eq (n : Int) : IntKind.i64.wrap n = wrap64 n := by simp [IntKind.wrap, IntKind.bits, IntKind.signed, wrap64]; split <;> omega
def encV (x : SVtx) : AV := .agg [I x.f0, I x.f1]
def encT (t : List SVtx) : AV := .sl .no (t.map encV)
/-- Whole numbers, as a slice. -/
abbrev L (l : List Int) : AV := .sl .no (l.map I)

def par (t : List SVtx) (i : Nat) : Int := (t.getD i z_Vtx).f0
def lev (t : List SVtx) (i : Nat) : Int := (t.getD i z_Vtx).f1
/-- The numbers i .. i+m-1 at which P holds. -/
def pick (P : Nat → Bool) : Nat → Nat → List Int
  | 0, _ => []
  | m + 1, i => if P i then (i : Int) :: pick P m (i + 1) else pick P m (i + 1)
theorem pick_len {P : Nat → Bool} : ∀ {m i : Nat}, (pick P m i).length ≤ m
  | 0, _ => by simp [pick]
  | m + 1, i => by
    have := @pick_len P m (i + 1)
    unfold pick
    split
    · simp; omega
    · omega
theorem pick_mem {P : Nat → Bool} {x : Int} : ∀ {m i : Nat}, x ∈ pick P m i ↔ ∃ j : Nat, x = (j : Int) ∧ i ≤ j ∧ j < i + m ∧ P j = true
  | 0, i => by simp [pick]; omega
  | m + 1, i => by
    unfold pick
    by_cases h : P i = true
    · rw [if_pos h, List.mem_cons, pick_mem]
      constructor
      · rintro (rfl | ⟨j, rfl, h1, h2, h3⟩)
        · exact ⟨i, rfl, by omega, by omega, h⟩
        · exact ⟨j, rfl, by omega, by omega, h3⟩
      · rintro ⟨j, rfl, h1, h2, h3⟩
        by_cases hj : j = i
        · subst hj; exact .inl rfl
        · exact .inr ⟨j, rfl, by omega, by omega, h3⟩
    · rw [if_neg h, pick_mem]
      constructor
      · rintro ⟨j, rfl, h1, h2, h3⟩
        exact ⟨j, rfl, by omega, by omega, h3⟩
      · rintro ⟨j, rfl, h1, h2, h3⟩
        by_cases hj : j = i
        · subst hj; exact absurd h3 h
        · exact ⟨j, rfl, by omega, by omega, h3⟩
theorem pick_sorted {P : Nat → Bool} : ∀ {m i : Nat}, (pick P m i).Pairwise (· < ·)
  | 0, _ => by simp [pick]
  | m + 1, i => by
    unfold pick
    split
    · refine List.Pairwise.cons ?_ pick_sorted
      intro x hx
      obtain ⟨j, rfl, h1, _, _⟩ := pick_mem.mp hx
      omega
    · exact pick_sorted
theorem pick_ext {P Q : Nat → Bool} : ∀ {m i : Nat}, (∀ j, i ≤ j → j < i + m → P j = Q j) → pick P m i = pick Q m i
  | 0, _, _ => rfl
  | m + 1, i, h => by
    unfold pick
    rw [h i (by omega) (by omega), pick_ext (m := m) (i := i + 1) (fun j h1 h2 => h j (by omega) (by omega))]
theorem get_pick {P : Nat → Bool} {m i : Nat} {a : Int} (h0 : 0 ≤ a) (h1 : a < ((pick P m i).length : Int)) : ∃ j : Nat, rd (pick P m i) a = (j : Int) ∧ i ≤ j ∧ j < i + m ∧ P j = true := by
  have : rd (pick P m i) a ∈ pick P m i := by
    unfold rd
    rw [List.getD_eq_getElem?_getD, List.getElem?_eq_getElem (by omega)]
    exact List.getElem_mem _
  exact pick_mem.mp this
/-- The vertices of a level; those below one. -/
def vsOf (t : List SVtx) (x : Int) : List Int := pick (fun j => decide (lev t j = x)) t.length 0
def kidsOf (t : List SVtx) (v : Int) : List Int := pick (fun j => decide (par t j = v)) t.length 0

/-- A vertex stands rightly. -/
def belowB (t : List SVtx) (i : Nat) : Bool :=
  if i = 0 then decide (par t 0 = -1) && decide (lev t 0 = 0)
  else decide (0 ≤ par t i) && decide (par t i < (i : Int)) && decide (lev t i = wrap64 (lev t (par t i).toNat + 1)) && decide (lev t i ≤ 3)
def okAt (t : List SVtx) (i : Nat) : Bool := belowB t i && ((lev t i == 3) == ((kidsOf t (i : Int)).length == 0)) && decide ((kidsOf t (i : Int)).length ≤ 8)
def Valid (t : List SVtx) : Prop := 1 ≤ t.length ∧ t.length ≤ 64 ∧ (vsOf t 3).length ≤ 32 ∧ ∀ i, i < t.length → okAt t i = true
instance (t : List SVtx) : Decidable (Valid t) := inferInstanceAs (Decidable (_ ∧ _ ∧ _ ∧ _))
theorem Valid.below {t : List SVtx} (h : Valid t) {i : Nat} (hi : i < t.length) : belowB t i = true := by
  have := h.2.2.2 i hi
  simp only [okAt, Bool.and_eq_true] at this
  exact this.1.1
theorem Valid.root {t : List SVtx} (h : Valid t) : par t 0 = -1 ∧ lev t 0 = 0 := by
  have := h.below (i := 0) h.1
  simpa [belowB] using this
theorem Valid.at_ {t : List SVtx} (h : Valid t) : ∀ {i : Nat}, i < t.length → 0 ≤ lev t i ∧ lev t i ≤ 3 ∧ (i ≠ 0 → 0 ≤ par t i ∧ par t i < (i : Int) ∧ lev t i = lev t (par t i).toNat + 1) := by
  intro i
  induction i using Nat.strongRecOn with
  | ind i ih =>
    intro hi
    by_cases h0 : i = 0
    · subst h0
      have := h.root
      exact ⟨by omega, by omega, fun h => absurd rfl h⟩
    · have hb := h.below hi
      simp only [belowB, if_neg h0, Bool.and_eq_true, decide_eq_true_eq] at hb
      obtain ⟨⟨⟨h1, h2⟩, h3⟩, h4⟩ := hb
      have hp := ih (par t i).toNat (by omega) (by omega)
      have hw : wrap64 (lev t (par t i).toNat + 1) = lev t (par t i).toNat + 1 := by
        have h5 := hp.1
        have h6 := hp.2.1
        generalize lev t (par t i).toNat = z at h5 h6
        unfold wrap64; omega
      rw [hw] at h3
      exact ⟨by omega, h4, fun _ => ⟨h1, h2, h3⟩⟩
theorem Valid.pos {t : List SVtx} (h : Valid t) {i : Nat} (hi : i < t.length) (hl : 0 < lev t i) : i ≠ 0 := by
  rintro rfl
  have := h.root
  omega
/-! The vertex above. -/
def upN (t : List SVtx) (x : Int) : Nat → Int → Int
  | 0, _ => -1
  | n + 1, v => if 0 ≤ v ∧ v < (t.length : Int) then (if lev t v.toNat = x then v else if par t v.toNat ≥ v then -1 else upN t x n (par t v.toNat)) else -1
def up (t : List SVtx) (v x : Int) : Int := upN t x (t.length + 1) v
theorem upN_more (t : List SVtx) (x : Int) : ∀ (n m : Nat) (v : Int), v < (n : Int) → v < (m : Int) → 0 < n → 0 < m → upN t x n v = upN t x m v
  | 0, _, _, _, _, h, _ => absurd h (Nat.lt_irrefl 0)
  | _ + 1, 0, _, _, _, _, h => absurd h (Nat.lt_irrefl 0)
  | n + 1, m + 1, v, h1, h2, _, _ => by
    unfold upN
    by_cases hv : 0 ≤ v ∧ v < (t.length : Int)
    · rw [if_pos hv, if_pos hv]
      split
      · rfl
      · split
        · rfl
        · rename_i h3
          by_cases hn : 0 < n
          · by_cases hm : 0 < m
            · exact upN_more t x n m _ (by omega) (by omega) hn hm
            · have : m = 0 := by omega
              subst this
              obtain ⟨n, rfl⟩ : ∃ j, n = j + 1 := ⟨n - 1, by omega⟩
              unfold upN
              rw [if_neg (by omega)]
          · have : n = 0 := by omega
            subst this
            cases m with
            | zero => rfl
            | succ m =>
              unfold upN
              rw [if_neg (by omega)]
    · rw [if_neg hv, if_neg hv]
/-- The vertex d steps above. -/
def anc (t : List SVtx) : Nat → Nat → Nat
  | 0, v => v
  | d + 1, v => anc t d (par t v).toNat
theorem anc_at {t : List SVtx} (h : Valid t) : ∀ (d v : Nat), v < t.length → (d : Int) ≤ lev t v → anc t d v < t.length ∧ lev t (anc t d v) = lev t v - d
  | 0, v, hv, _ => ⟨hv, by simp [anc]⟩
  | d + 1, v, hv, hd => by
    obtain ⟨_, _, h3⟩ := h.at_ hv
    obtain ⟨h4, h5, h6⟩ := h3 (h.pos hv (by omega))
    obtain ⟨h7, h8⟩ := anc_at h d (par t v).toNat (by omega) (by omega)
    exact ⟨h7, by rw [anc, h8]; omega⟩
theorem anc_succ (t : List SVtx) : ∀ (d v : Nat), anc t (d + 1) v = (par t (anc t d v)).toNat
  | 0, v => rfl
  | d + 1, v => by rw [anc, anc_succ t d]; rfl
theorem upN_anc {t : List SVtx} (h : Valid t) : ∀ (d v n : Nat), v < t.length → (d : Int) ≤ lev t v → v < n → upN t (lev t v - d) n (v : Int) = (anc t d v : Nat)
  | 0, v, n, hv, _, hn => by
    obtain ⟨n, rfl⟩ : ∃ j, n = j + 1 := ⟨n - 1, by omega⟩
    unfold upN
    rw [if_pos ⟨by omega, by omega⟩, if_pos (by simp)]
    rfl
  | d + 1, v, n, hv, hd, hn => by
    obtain ⟨n, rfl⟩ : ∃ j, n = j + 1 := ⟨n - 1, by omega⟩
    obtain ⟨_, _, h3⟩ := h.at_ hv
    obtain ⟨h4, h5, h6⟩ := h3 (h.pos hv (by omega))
    unfold upN
    rw [if_pos ⟨by omega, by omega⟩]
    simp only [Int.toNat_natCast]
    rw [if_neg (by omega), if_neg (by omega)]
    obtain ⟨p, hp⟩ : ∃ p : Nat, par t v = (p : Int) := ⟨(par t v).toNat, by omega⟩
    have h6' : lev t v = lev t p + 1 := by rw [hp] at h6; simpa using h6
    have := upN_anc h d p n (by omega) (by omega) (by omega)
    rw [show lev t v - ((d + 1 : Nat) : Int) = lev t p - (d : Int) by omega, hp, this, anc, hp]
    rfl
theorem up_anc {t : List SVtx} (h : Valid t) (d v : Nat) (hv : v < t.length) (hd : (d : Int) ≤ lev t v) : up t (v : Int) (lev t v - d) = (anc t d v : Nat) := upN_anc h d v _ hv hd (by omega)

theorem pick_snoc {P : Nat → Bool} : ∀ {m i : Nat}, pick P (m + 1) i = pick P m i ++ (if P (i + m) then [((i + m : Nat) : Int)] else [])
  | 0, i => by simp [pick]
  | m + 1, i => by
    have := @pick_snoc P m (i + 1)
    rw [pick, this, pick, show i + 1 + m = i + (m + 1) by omega]
    split <;> simp
theorem app_int {T : Toks} {v : AV} {l : List Int} (hA : App P 3 T v (l.map I)) (n : Int) (hl : l.length ≤ 100000) :
    ∃ v' T', appA P 27 v (.sl .full [I n]) T = some (v', T') ∧ App P 3 T' v' ((l ++ [n]).map I) := by
  obtain ⟨v', T', h1, h2⟩ := hA.go (t := 27) (m := [I n]) (o := .full) ty27.2.2.2.2 ty3.1 ty3.2.2.1 ty3.2.2.2 rfl (by simp; omega) (by simp [maxLen]; omega)
  exact ⟨v', T', h1, by simpa using h2⟩
theorem vtx_at {t : List SVtx} {i : Nat} (h : i < t.length) : t[i]? = some ⟨par t i, lev t i⟩ := by
  simp [par, lev, List.getD_eq_getElem?_getD, h]
/-- Known otherwise is dist.Near alone. -/
def Low (X : Prims) : Prop := ∀ f, f ≠ 16 → X f = none
section
variable {X : Prims} (hX : Low X)
include hX
theorem level_g (t : List SVtx) (x : Int) (ht : t.length ≤ 1000) : Gv P X 35 [encT t, I x] (L (pick (fun j => decide (lev t j = x)) t.length 0)) := by
  refine gv_of (hX _ (by decide)) fun35 rfl ?_
  simp only [Try.f35, encT, go_sem, Nat.reduceSub, Nat.reduceAdd, reduceIte]
  refine W_ind (fun n s => ∃ i v, i + n = t.length ∧ FrIs 25 [(0, .sl .no (t.map encV)), (1, I x), (5, v), (8, I t.length), (9, I i)] s.fr ∧ s.S = [] ∧ App P 3 s.T v ((pick (fun j => decide (lev t j = x)) i 0).map I)) ?_ (n := t.length) ⟨0, .sl .nil [], by omega, ⟨rfl, rfl, rfl, rfl, by simp, rfl, trivial⟩, rfl, .nil⟩
  rintro n ⟨L, S, T⟩ ih ⟨i, v, hi, hF, rfl, hA⟩
  obtain ⟨j, rfl⟩ := hF.ex
  simp +decide only [fr, jl, Nat.reduceAdd, go_sem]
  refine Wif_of (fun h => ?_) (fun h => ?_)
  · have hlt : i < t.length := by simpa using h
    have hx := vtx_at hlt
    have hw := wrap_nat i (by omega)
    obtain ⟨v', T', happ, hA'⟩ := app_int hA i (by have := @pick_len (fun j => decide (lev t j = x)) i 0; omega)
    simp +decide only [go_sem, hx, hw, encV]
    have hp := @pick_snoc (fun j => decide (lev t j = x)) i 0
    rw [Nat.zero_add] at hp
    refine Wif_of (fun h => ?_) (fun h => ?_)
    · simp +decide only [go_sem, happ, hw]
      refine ih (n - 1) _ (by omega) ⟨i + 1, v', by omega, ⟨rfl, rfl, rfl, rfl, rfl, rfl, trivial⟩, rfl, ?_⟩
      rw [hp, if_pos (by simpa using h)]; exact hA'
    · simp +decide only [go_sem, hw]
      refine ih (n - 1) _ (by omega) ⟨i + 1, v, by omega, ⟨rfl, rfl, rfl, rfl, rfl, rfl, trivial⟩, rfl, ?_⟩
      rw [hp, if_neg (by simpa using h), List.append_nil]; exact hA
  · have hi' : i = t.length := by simp at h; omega
    subst hi'
    obtain ⟨o, rfl⟩ := hA.is
    simp +decide only [go_sem]
    exact ⟨_, rfl, rfl, rfl⟩
theorem kids_g (t : List SVtx) (x : Int) (ht : t.length ≤ 1000) : Gv P X 40 [encT t, I x] (L (pick (fun j => decide (par t j = x)) t.length 0)) := by
  refine gv_of (hX _ (by decide)) fun40 rfl ?_
  simp only [Try.f40, encT, go_sem, Nat.reduceSub, Nat.reduceAdd, reduceIte]
  refine W_ind (fun n s => ∃ i v, i + n = t.length ∧ FrIs 25 [(0, .sl .no (t.map encV)), (1, I x), (5, v), (8, I t.length), (9, I i)] s.fr ∧ s.S = [] ∧ App P 3 s.T v ((pick (fun j => decide (par t j = x)) i 0).map I)) ?_ (n := t.length) ⟨0, .sl .nil [], by omega, ⟨rfl, rfl, rfl, rfl, by simp, rfl, trivial⟩, rfl, .nil⟩
  rintro n ⟨L, S, T⟩ ih ⟨i, v, hi, hF, rfl, hA⟩
  obtain ⟨j, rfl⟩ := hF.ex
  simp +decide only [fr, jl, Nat.reduceAdd, go_sem]
  refine Wif_of (fun h => ?_) (fun h => ?_)
  · have hlt : i < t.length := by simpa using h
    have hx := vtx_at hlt
    have hw := wrap_nat i (by omega)
    obtain ⟨v', T', happ, hA'⟩ := app_int hA i (by have := @pick_len (fun j => decide (par t j = x)) i 0; omega)
    simp +decide only [go_sem, hx, hw, encV]
    have hp := @pick_snoc (fun j => decide (par t j = x)) i 0
    rw [Nat.zero_add] at hp
    refine Wif_of (fun h => ?_) (fun h => ?_)
    · simp +decide only [go_sem, happ, hw]
      refine ih (n - 1) _ (by omega) ⟨i + 1, v', by omega, ⟨rfl, rfl, rfl, rfl, rfl, rfl, trivial⟩, rfl, ?_⟩
      rw [hp, if_pos (by simpa using h)]; exact hA'
    · simp +decide only [go_sem, hw]
      refine ih (n - 1) _ (by omega) ⟨i + 1, v, by omega, ⟨rfl, rfl, rfl, rfl, rfl, rfl, trivial⟩, rfl, ?_⟩
      rw [hp, if_neg (by simpa using h), List.append_nil]; exact hA
  · have hi' : i = t.length := by simp at h; omega
    subst hi'
    obtain ⟨o, rfl⟩ := hA.is
    simp +decide only [go_sem]
    exact ⟨_, rfl, rfl, rfl⟩
end
end Go.Proofs.Ytjfaafnngloblaa.Ev
