/- Who is near: the list, sorted. No condition. -/
import Derived.Test.YtjfaafnngloblaaNear1
import Derived.Shelf.SlSortCmp.Kit1
import Derived.Below
namespace Go.Proofs.Ytjfaafnngloblaa.Ev
open Go Go.Proofs Go.Sort
set_option linter.unusedVariables false
set_option linter.unusedSimpArgs false
open Go.RowKit (wrap64)
set_option maxRecDepth 100000
def others (p : Int) : Nat → List Int
  | 0 => []
  | n + 1 => if (n : Int) ≠ p then others p n ++ [(n : Int)] else others p n
def sorted (n : Nat) (p : Int) (t : List SVtx) : List Int := (others p n).mergeSort (fun x y => !decide (cf t n p y x < 0))
theorem others_mem {p : Int} : ∀ {n : Nat} {x : Int}, x ∈ others p n ↔ 0 ≤ x ∧ x < n ∧ x ≠ p
  | 0, x => by simp [others]; omega
  | n + 1, x => by
    unfold others
    split
    · rw [List.mem_append, others_mem, List.mem_singleton]; omega
    · rw [others_mem]; omega
theorem others_len {p : Int} : ∀ {n : Nat}, (others p n).length ≤ n
  | 0 => by simp [others]
  | n + 1 => by
    have := @others_len p n
    unfold others
    split
    · simp; omega
    · omega
theorem turn_of {n p q : Int} (hq : 0 ≤ q ∧ q < n) (hp : 0 ≤ p ∧ p < n) : turn n p q = if q < p then q - p + n else q - p := by
  unfold turn
  rw [Int.tmod_eq_emod_of_nonneg (by omega)]
  by_cases h : q < p
  · rw [if_pos h, Int.emod_eq_of_lt (by omega) (by omega)]
  · rw [if_neg h, Int.add_emod_right, Int.emod_eq_of_lt (by omega) (by omega)]
theorem cf_lt {n p : Int} {t : List SVtx} {a b : Int} : (cf t n p a b < 0) ↔ (farOf t p a < farOf t p b ∨ farOf t p a = farOf t p b ∧ turn n p a < turn n p b) := by
  unfold cf sgn
  generalize farOf t p a = x
  generalize farOf t p b = y
  generalize turn n p a = u
  generalize turn n p b = v
  split <;> (split <;> (try split) <;> (try split) <;> omega)
abbrev Q (n : Nat) : Type := { x : Int // 0 ≤ x ∧ x < n }
def enc {n : Nat} (x : Q n) : Value := .int .i64 x.1
theorem swo (n : Nat) (p : Int) (t : List SVtx) : Go.Sort.SWO (Go.Proofs.ltOf (fun x y : Q n => cf t n p x.1 y.1)) := by
  refine ⟨fun x => ?_, fun x y z h1 h2 => ?_, fun x y z h1 h2 => ?_⟩
  · exact decide_eq_false (by rw [cf_lt]; omega)
  · have h1 := cf_lt.mp (of_decide_eq_true h1)
    have h2 := cf_lt.mp (of_decide_eq_true h2)
    exact decide_eq_true (cf_lt.mpr (by omega))
  · have h1 := mt cf_lt.mpr (of_decide_eq_false h1)
    have h2 := mt cf_lt.mpr (of_decide_eq_false h2)
    exact decide_eq_false (mt cf_lt.mp (by omega))
theorem tot (n : Nat) (p : Int) (hp : 0 ≤ p ∧ p < n) (t : List SVtx) (x y : Q n) (h1 : Go.Proofs.ltOf (fun x y : Q n => cf t n p x.1 y.1) x y = false) (h2 : Go.Proofs.ltOf (fun x y : Q n => cf t n p x.1 y.1) y x = false) : x = y := by
  have h1 := mt cf_lt.mpr (of_decide_eq_false h1)
  have h2 := mt cf_lt.mpr (of_decide_eq_false h2)
  have hx := x.2
  have hy := y.2
  rw [turn_of hx hp, turn_of hy hp] at h1 h2
  apply Subtype.ext
  generalize farOf t p x.1 = d1 at *
  generalize farOf t p y.1 = d2 at *
  have he : d1 = d2 := by omega
  subst he
  split at h1 <;> split at h1 <;> simp_all <;> omega
theorem lift (n : Nat) (l : List Int) (h : ∀ x ∈ l, 0 ≤ x ∧ x < n) : ∃ d : List (Q n), d.map (·.1) = l :=
  ⟨l.attach.map fun x => ⟨x.1, h x.1 x.2⟩, by rw [List.map_map]; exact List.attach_map_subtype_val l⟩
theorem sort_map (n : Nat) (p : Int) (t : List SVtx) (d : List (Q n)) :
    (d.mergeSort fun x y => !(Go.Proofs.ltOf (fun x y : Q n => cf t n p x.1 y.1)) y x).map (·.1) = (d.map (·.1)).mergeSort (fun x y => !decide (cf t n p y x < 0)) :=
  List.map_mergeSort fun _ _ _ _ => rfl
theorem uniq_sorted {α : Type} {lt : α → α → Prop} (irr : ∀ x, ¬ lt x x) (asy : ∀ x y, lt x y → lt y x → False) : ∀ {l1 l2 : List α}, l1.Pairwise lt → l2.Pairwise lt → (∀ x, x ∈ l1 ↔ x ∈ l2) → l1 = l2
  | [], [], _, _, _ => rfl
  | [], b :: l2, _, _, h => by have := (h b).mpr List.mem_cons_self; cases this
  | a :: l1, [], _, _, h => by have := (h a).mp List.mem_cons_self; cases this
  | a :: l1, b :: l2, h1, h2, h => by
    have p1 := List.pairwise_cons.mp h1
    have p2 := List.pairwise_cons.mp h2
    have hab : a = b := by
      rcases List.mem_cons.mp ((h a).mp List.mem_cons_self) with h3 | h3
      · exact h3
      · rcases List.mem_cons.mp ((h b).mpr List.mem_cons_self) with h4 | h4
        · exact h4.symm
        · exact absurd (p1.1 b h4) (fun h5 => asy _ _ h5 (p2.1 a h3))
    subst hab
    rw [uniq_sorted irr asy p1.2 p2.2 (fun x => ?_)]
    constructor
    · intro hx
      rcases List.mem_cons.mp ((h x).mp (List.mem_cons_of_mem _ hx)) with h3 | h3
      · subst h3; exact absurd (p1.1 x hx) (irr x)
      · exact h3
    · intro hx
      rcases List.mem_cons.mp ((h x).mpr (List.mem_cons_of_mem _ hx)) with h3 | h3
      · subst h3; exact absurd (p2.1 x hx) (irr x)
      · exact h3
/-- The others behind p, round about, that are so far. -/
def rowN (t : List SVtx) (p : Int) (n : Nat) (far : Int) : Nat → Nat → List Int
  | 0, _ => []
  | m + 1, i => if farOf t p (Int.tmod (p + (i : Int)) (n : Int)) = far then Int.tmod (p + (i : Int)) (n : Int) :: rowN t p n far m (i + 1) else rowN t p n far m (i + 1)
def rowOf (t : List SVtx) (p : Int) (far : Int) : List Int := rowN t p (procN t) far (procN t - 1) 1
def nearOf (t : List SVtx) (p : Int) : List Int := if inP t p then rowOf t p 1 ++ (rowOf t p 2 ++ rowOf t p 3) else []
theorem procN_le (t : List SVtx) : procN t ≤ 32 := by
  unfold procN
  split
  · rename_i h; exact h.2.2.1
  · omega
theorem turn_mod {n p : Nat} {i : Nat} (hp : p < n) (h1 : 1 ≤ i) (hi : i < n) : 0 ≤ Int.tmod ((p : Int) + (i : Int)) (n : Int) ∧ Int.tmod ((p : Int) + (i : Int)) (n : Int) < n ∧ Int.tmod ((p : Int) + (i : Int)) (n : Int) ≠ p ∧ turn n p (Int.tmod ((p : Int) + (i : Int)) (n : Int)) = i := by
  have e : Int.tmod ((p : Int) + (i : Int)) (n : Int) = if p + i < n then ((p : Int) + i) else ((p : Int) + i - n) := by
    rw [Int.tmod_eq_emod_of_nonneg (by omega)]
    by_cases h : p + i < n
    · rw [if_pos h, Int.emod_eq_of_lt (by omega) (by omega)]
    · rw [if_neg h, ← Int.sub_emod_right, Int.emod_eq_of_lt (by omega) (by omega)]
  rw [e]
  by_cases h : p + i < n
  · rw [if_pos h]
    refine ⟨by omega, by omega, by omega, ?_⟩
    rw [turn_of (by omega) (by omega), if_neg (by omega)]
    omega
  · rw [if_neg h]
    refine ⟨by omega, by omega, by omega, ?_⟩
    rw [turn_of (by omega) (by omega), if_pos (by omega)]
    omega
theorem rowN_at {t : List SVtx} {p n : Nat} {far : Int} (hp : p < n) : ∀ {m i : Nat}, 1 ≤ i → i + m ≤ n → ∀ {x : Int}, x ∈ rowN t (p : Int) n far m i → 0 ≤ x ∧ x < n ∧ x ≠ p ∧ farOf t p x = far ∧ (i : Int) ≤ turn n p x ∧ turn n p x < (i + m : Nat)
  | 0, i, _, _, x, h => by cases h
  | m + 1, i, h1, h2, x, h => by
    unfold rowN at h
    have ht := turn_mod hp h1 (by omega : i < n)
    by_cases hf : farOf t (p : Int) (Int.tmod ((p : Int) + (i : Int)) (n : Int)) = far
    · rw [if_pos hf] at h
      rcases List.mem_cons.mp h with rfl | h
      · exact ⟨ht.1, ht.2.1, ht.2.2.1, hf, by omega, by omega⟩
      · have := rowN_at hp (m := m) (i := i + 1) (by omega) (by omega) h
        exact ⟨this.1, this.2.1, this.2.2.1, this.2.2.2.1, by omega, by omega⟩
    · rw [if_neg hf] at h
      have := rowN_at hp (m := m) (i := i + 1) (by omega) (by omega) h
      exact ⟨this.1, this.2.1, this.2.2.1, this.2.2.2.1, by omega, by omega⟩
theorem rowN_sorted {t : List SVtx} {p n : Nat} {far : Int} (hp : p < n) : ∀ {m i : Nat}, 1 ≤ i → i + m ≤ n → (rowN t (p : Int) n far m i).Pairwise (fun x y => turn n p x < turn n p y)
  | 0, i, _, _ => List.Pairwise.nil
  | m + 1, i, h1, h2 => by
    unfold rowN
    have ht := turn_mod hp h1 (by omega : i < n)
    split
    · refine List.Pairwise.cons (fun y hy => ?_) (rowN_sorted hp (by omega) (by omega))
      have := rowN_at hp (m := m) (i := i + 1) (by omega) (by omega) hy
      omega
    · exact rowN_sorted hp (by omega) (by omega)
theorem rowN_has {t : List SVtx} {p n : Nat} {far : Int} (hp : p < n) {x : Int} (hx : 0 ≤ x ∧ x < n) (hf : farOf t p x = far) : ∀ {m i : Nat}, 1 ≤ i → i + m ≤ n → (i : Int) ≤ turn n p x → turn n p x < (i + m : Nat) → x ∈ rowN t (p : Int) n far m i
  | 0, i, _, _, h3, h4 => by omega
  | m + 1, i, h1, h2, h3, h4 => by
    unfold rowN
    by_cases he : turn n p x = i
    · have hxe : x = Int.tmod ((p : Int) + (i : Int)) (n : Int) := by
        rw [turn_of hx (by omega)] at he
        rw [Int.tmod_eq_emod_of_nonneg (by omega)]
        by_cases hlt : x < p
        · rw [if_pos hlt] at he
          rw [← Int.sub_emod_right, Int.emod_eq_of_lt (by omega) (by omega)]; omega
        · rw [if_neg hlt] at he
          rw [Int.emod_eq_of_lt (by omega) (by omega)]; omega
      rw [← hxe, if_pos hf]
      exact List.mem_cons_self
    · have := rowN_has hp hx hf (m := m) (i := i + 1) (by omega) (by omega) (by omega) (by omega)
      split
      · exact List.mem_cons_of_mem _ this
      · exact this
theorem far_self {t : List SVtx} {a : Int} (ha : inP t a) : farOf t a a = 0 := by rw [farOf_of ha ha]; simp [farV]
theorem far_pos {t : List SVtx} {a b : Int} (ha : inP t a) (hb : inP t b) (h : a ≠ b) : 1 ≤ farOf t a b ∧ farOf t a b ≤ 3 := by
  rw [farOf_of ha hb]
  have h1 := farV_le t (vx t a) (vx t b)
  have h2 : ¬ vx t a = vx t b := fun h2 => h (vx_inj ha hb h2)
  have h3 : 1 ≤ farV t (vx t a) (vx t b) := by
    unfold farV
    rw [if_neg h2]
    split
    · omega
    · split <;> omega
  omega
/-- Before whom one stands. -/
def nearLt (t : List SVtx) (p : Int) (x y : Int) : Prop := farOf t p x < farOf t p y ∨ farOf t p x = farOf t p y ∧ turn (procN t) p x < turn (procN t) p y
theorem nearOf_mem {t : List SVtx} {p : Int} (hp : inP t p) {x : Int} : x ∈ nearOf t p ↔ inP t x ∧ x ≠ p := by
  obtain ⟨q, rfl⟩ : ∃ q : Nat, p = (q : Int) := ⟨p.toNat, by have := hp.1; omega⟩
  have hq : q < procN t := by have := hp.2; omega
  rw [nearOf, if_pos hp]
  constructor
  · intro h
    have key : ∀ far, x ∈ rowOf t (q : Int) far → inP t x ∧ x ≠ q := fun far h => by
      have := rowN_at hq (by omega) (by omega) h
      exact ⟨⟨this.1, this.2.1⟩, this.2.2.1⟩
    rcases List.mem_append.mp h with h | h
    · exact key _ h
    · rcases List.mem_append.mp h with h | h
      · exact key _ h
      · exact key _ h
  · rintro ⟨hx, hne⟩
    have hf := far_pos hp hx (Ne.symm hne)
    have hb1 : (1 : Int) ≤ turn (procN t) q x := by
      rw [turn_of hx hp]
      have := hx.1
      split <;> omega
    have hb2 : turn (procN t) q x < (1 + (procN t - 1) : Nat) := by
      rw [turn_of hx hp]
      have := hx.2
      split <;> omega
    have key : ∀ far, farOf t q x = far → x ∈ rowOf t (q : Int) far := fun far hfar => rowN_has hq hx hfar (by omega) (by omega) (by omega) hb2
    rcases (by omega : farOf t q x = 1 ∨ farOf t q x = 2 ∨ farOf t q x = 3) with h | h | h
    · exact List.mem_append_left _ (key 1 h)
    · exact List.mem_append_right _ (List.mem_append_left _ (key 2 h))
    · exact List.mem_append_right _ (List.mem_append_right _ (key 3 h))
theorem nearOf_sorted {t : List SVtx} {p : Int} (hp : inP t p) : (nearOf t p).Pairwise (nearLt t p) := by
  obtain ⟨q, rfl⟩ : ∃ q : Nat, p = (q : Int) := ⟨p.toNat, by have := hp.1; omega⟩
  have hq : q < procN t := by have := hp.2; omega
  rw [nearOf, if_pos hp]
  have hs : ∀ far, (rowOf t (q : Int) far).Pairwise (nearLt t q) := fun far => by
    refine List.Pairwise.imp_of_mem ?_ (rowN_sorted hq (by omega) (by omega))
    intro x y hx hy h
    have h1 := rowN_at hq (by omega) (by omega) hx
    have h2 := rowN_at hq (by omega) (by omega) hy
    exact .inr ⟨h1.2.2.2.1.trans h2.2.2.2.1.symm, h⟩
  have hf : ∀ far x, x ∈ rowOf t (q : Int) far → farOf t q x = far := fun far x hx => (rowN_at hq (by omega) (by omega) hx).2.2.2.1
  refine List.pairwise_append.mpr ⟨hs 1, List.pairwise_append.mpr ⟨hs 2, hs 3, fun x hx y hy => .inl ?_⟩, fun x hx y hy => .inl ?_⟩
  · rw [hf 2 x hx, hf 3 y hy]; omega
  · rcases List.mem_append.mp hy with hy | hy
    · rw [hf 1 x hx, hf 2 y hy]; omega
    · rw [hf 1 x hx, hf 3 y hy]; omega
theorem others_sorted {p : Int} : ∀ {n : Nat}, (others p n).Pairwise (· ≠ ·)
  | 0 => List.Pairwise.nil
  | n + 1 => by
    unfold others
    split
    · refine List.pairwise_append.mpr ⟨others_sorted, List.pairwise_singleton _ _, fun x hx y hy => ?_⟩
      have := others_mem.mp hx
      rw [List.mem_singleton] at hy
      omega
    · exact others_sorted
theorem sorted_near {t : List SVtx} {p : Int} (hp : inP t p) : sorted (procN t) p t = nearOf t p := by
  have hm : ∀ x, x ∈ sorted (procN t) p t ↔ inP t x ∧ x ≠ p := fun x => by
    unfold sorted
    rw [List.mem_mergeSort, others_mem]
    exact ⟨fun h => ⟨⟨h.1, h.2.1⟩, h.2.2⟩, fun h => ⟨h.1.1, h.1.2, h.2⟩⟩
  refine uniq_sorted (lt := nearLt t p) (fun x h => ?_) (fun x y h1 h2 => ?_) ?_ (nearOf_sorted hp) (fun x => by rw [hm, nearOf_mem hp])
  · unfold nearLt at h; omega
  · unfold nearLt at h1 h2; omega
  · have hs : (sorted (procN t) p t).Pairwise (fun x y => (!decide (cf t (procN t) p y x < 0)) = true) := by
      refine List.pairwise_mergeSort (fun a b c h1 h2 => ?_) (fun a b => ?_) _
      · rw [Bool.not_eq_true', decide_eq_false_iff_not, cf_lt] at *
        omega
      · by_cases h : cf t (procN t) p b a < 0
        · have : ¬ cf t (procN t) p a b < 0 := by rw [cf_lt] at *; omega
          simp [this]
        · simp [h]
    have hn : (sorted (procN t) p t).Pairwise (· ≠ ·) := (List.mergeSort_perm _ _).symm.pairwise others_sorted (fun h => Ne.symm h)
    refine List.Pairwise.imp_of_mem ?_ (hs.and hn)
    rintro x y hx hy ⟨h1, h2⟩
    have hx := (hm x).mp hx
    have hy := (hm y).mp hy
    rw [Bool.not_eq_true', decide_eq_false_iff_not, cf_lt] at h1
    unfold nearLt
    have ht : turn (procN t) p x ≠ turn (procN t) p y := by
      rw [turn_of hx.1 hp, turn_of hy.1 hp]
      have := hx.1.1; have := hx.1.2; have := hy.1.1; have := hy.1.2
      split <;> split <;> omega
    omega
end Go.Proofs.Ytjfaafnngloblaa.Ev
