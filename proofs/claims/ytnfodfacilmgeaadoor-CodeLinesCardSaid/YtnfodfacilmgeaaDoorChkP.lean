/- The document's Check is the code's, in plain words. No condition. -/
import Derived.Test.YtnfodfacilmgeaaDoorCod4
import Derived.Test.YtnfodfacilmgeaaDoorPCodeChecksx3
namespace Go.Proofs.YtnfodfacilmgeaaDoor.Code
open Go Go.RowKit Go.Proofs Go.Proofs.YtnfodfacilmgeaaDoorW.PrintWords Go.Proofs.YtnfodfacilmgeaaDoorW.PrintLast Go.Proofs.YtnfodfacilmgeaaDoorW.PrintMore
set_option linter.unusedVariables false
set_option linter.unusedSimpArgs false
open PCodeChecks
def pr (x : S43) : Int × Int := (x.f0, x.f1)
theorem bool_eq {a b : Bool} (h : a = true ↔ b = true) : a = b := by cases a <;> cases b <;> simp_all
theorem may_f (k : Nat) (op a sems boxes np n : Int) : catafalqueref07_May.f (k + 8) op a sems boxes np n = some (!badB sems boxes np n (op, a)) := by
  have fin : ∀ {lo hi : Int} {c : Bool}, (c = true ↔ lo ≤ a ∧ a ≤ hi) → some c = some (!(!true || (decide (a < lo) || decide (a > hi)))) := by
    intro lo hi c h
    congr 1
    apply bool_eq
    rw [h]
    simp
  by_cases h1 : op = 1
  · subst h1
    refine Eq.trans ?_ (fin (lo := -1000) (hi := 1000) (c := decide (-1000 ≤ a) && decide (a ≤ 1000)) (by simp))
    show (if a ≥ -1000 then some (decide (a ≤ 1000)) else some false) = _
    by_cases h : a ≥ -1000 <;> simp [h]
  by_cases h8 : op = 8
  · subst h8
    refine Eq.trans ?_ (fin (lo := 1) (hi := 1000) (c := decide (0 < a) && decide (a ≤ 1000)) (by simp; omega))
    show (if a > 0 then some (decide (a ≤ 1000)) else some false) = _
    by_cases h : a > 0 <;> simp [h]
  by_cases hn : a < 0
  · have hb : badB sems boxes np n (op, a) = true := by
      unfold badB spanF
      simp only [if_neg h1, if_neg h8]
      repeat' split
      all_goals simp
      all_goals omega
    rw [hb]
    unfold catafalqueref07_May.f
    rw [if_neg h1, if_neg h8, if_pos hn]; rfl
  have go : ∀ {hi : Int} {c : Bool}, (c = true ↔ a ≤ hi) → some c = some (!(!true || (decide (a < 0) || decide (a > hi)))) := fun h => fin (by rw [h]; omega)
  have st : ∀ r, (if op = 2 then (catafalqueref07_May.j0 (k + 8) sems boxes np n op (op == 2) op a) else (catafalqueref07_May.j0 (k + 8) sems boxes np n op (op == 10) op a)) = r → catafalqueref07_May.f (k + 8) op a sems boxes np n = r := by
    intro r h
    unfold catafalqueref07_May.f
    rw [if_neg h1, if_neg h8, if_neg hn]; exact h
  apply st
  clear st fin
  by_cases h2 : op = 2
  · subst h2; exact (show some (a == 0) = _ from go (hi := 0) (by simp; omega))
  by_cases h10 : op = 10
  · subst h10; exact (show some (a == 0) = _ from go (hi := 0) (by simp; omega))
  by_cases h3 : op = 3
  · subst h3; exact (show some (decide (a < np)) = _ from go (hi := np - 1) (by simp; omega))
  by_cases h4 : op = 4
  · subst h4; exact (show some (decide (a < sems)) = _ from go (hi := sems - 1) (by simp; omega))
  by_cases h5 : op = 5
  · subst h5; exact (show some (decide (a < sems)) = _ from go (hi := sems - 1) (by simp; omega))
  by_cases h6 : op = 6
  · subst h6; exact (show some (decide (a < boxes)) = _ from go (hi := boxes - 1) (by simp; omega))
  by_cases h7 : op = 7
  · subst h7; exact (show some (decide (a < boxes)) = _ from go (hi := boxes - 1) (by simp; omega))
  by_cases h9 : op = 9
  · subst h9; exact (show some (decide (a < n)) = _ from go (hi := n - 1) (by simp; omega))
  have hb : badB sems boxes np n (op, a) = true := by
    unfold badB spanF
    simp only [if_neg h1, if_neg h8, if_neg h3, if_neg h9]
    rw [if_neg (show ¬ (op = 2 ∨ op = 10) by omega), if_neg (show ¬ (op = 4 ∨ op = 5) by omega), if_neg (show ¬ (op = 6 ∨ op = 7) by omega)]
    rfl
  rw [hb]
  simp [catafalqueref07_May.j0, catafalqueref07_May.j1, catafalqueref07_May.j2, h2, h10, h3, h4, h5, h6, h7, h9]
theorem rd4 (l : List (List S43)) (i : Nat) : rd_L4 l (i : Int) = l.getD i [] := by unfold rd_L4; rw [Int.toNat_natCast]
theorem rdpr (p : List S43) (j : Nat) (h : j < p.length) : (p.map pr)[j]'(by rw [List.length_map]; exact h) = ((rd_T43 p (j : Int)).f0, (rd_T43 p (j : Int)).f1) := by
  unfold rd_T43
  rw [Int.toNat_natCast, List.getD_eq_getElem?_getD, List.getElem?_eq_getElem h, List.getElem_map]; rfl
def at43 (p : List S43) (j : Nat) : Int × Int := ((rd_T43 p (j : Int)).f0, (rd_T43 p (j : Int)).f1)
theorem at43_getD (p : List S43) (j : Nat) (h : j < p.length) : (p.map pr).getD j (0, 0) = at43 p j := by
  rw [List.getD_eq_getElem?_getD, List.getElem?_eq_getElem (by rw [List.length_map]; exact h)]
  exact rdpr p j h
theorem fi_below (q : Int × Int → Bool) (p : List S43) (j : Nat) (hj : j < p.length) (h : j < fiB q (p.map pr)) : q (at43 p j) = false := by
  have h2 := List.not_of_lt_findIdx h
  rw [rdpr p j hj] at h2
  exact h2
theorem fi_at (q : Int × Int → Bool) (p : List S43) (h : fiB q (p.map pr) < p.length) : q (at43 p (fiB q (p.map pr))) = true := by
  have h3 : (p.map pr).findIdx q < (p.map pr).length := by rw [List.length_map]; exact h
  have h4 := List.findIdx_getElem (p := q) (w := h3)
  have h5 := rdpr p (fiB q (p.map pr)) h
  exact (congrArg q h5).symm.trans h4
theorem l1_f (l : List (List S43)) (sems boxes : Int) (i : Nat) (hi : i < l.length) (hl : l.length ≤ 1000) (n : Nat) (hn : (rd_L4 l (i : Int)).length = n) (hn0 : 0 < n) (hn1 : n ≤ 1000) (F : Nat)
    (hF1 : ∀ j, j < n → j < F → badB sems boxes l.length n (at43 (rd_L4 l (i : Int)) j) = false) (hF2 : F < n → badB sems boxes l.length n (at43 (rd_L4 l (i : Int)) F) = true) (R : Int × Int × Int) (M : Nat) (hM : 20 ≤ M)
    (hR : ∀ m, M ≤ m → catafalqueref07_Check.l0 m l sems boxes ((i + 1 : Nat) : Int) = some R) :
    ∀ d j, j + d = n → j ≤ F → ∀ m, d + 1 + M ≤ m → catafalqueref07_Check.l1 m l sems boxes (i : Int) (n : Int) (j : Int) =
      some (if F < n then ((i : Int), (F : Int), (1 : Int)) else if (at43 (rd_L4 l (i : Int)) (n - 1)).1 ≠ 10 then ((i : Int), ((n - 1 : Nat) : Int), (2 : Int)) else R) := by
  have g1 : (0 : Int) ≤ (i : Int) := Int.natCast_nonneg i
  have g2 : (i : Int) < (l.length : Int) := Int.ofNat_lt.mpr hi
  have c2 := eq_true g1
  have c3 := eq_true g2
  have w1 : wrap64 ((n : Int) - 1) = ((n - 1 : Nat) : Int) := by clear hF1 hF2 hR hn; unfold wrap64; omega
  have w2 : wrap64 ((i : Int) + 1) = ((i + 1 : Nat) : Int) := by clear hF1 hF2 hR hn; unfold wrap64; omega
  intro d
  induction d with
  | zero =>
    intro j hj hf m hm
    obtain ⟨k, rfl⟩ : ∃ k, m = k + 1 := ⟨m - 1, by clear hF1 hF2 hR hn; omega⟩
    have hjn : j = n := hj
    subst hjn
    rw [catafalqueref07_Check.l1]
    have c4 := eq_true (Int.natCast_nonneg (j - 1))
    have c5 := eq_true (show ((j - 1 : Nat) : Int) < (j : Int) by clear hF1 hF2 hR hn; omega)
    simp only [Int.lt_irrefl, if_false, hn, c2, c3, c4, c5, if_true, w1, w2]
    rw [if_neg (Nat.not_lt.mpr hf), hR k (by clear hF1 hF2 hR hn; omega)]
    by_cases h : (at43 (rd_L4 l (i : Int)) (j - 1)).1 = 10
    · have h' : (rd_T43 (rd_L4 l (i : Int)) ((j - 1 : Nat) : Int)).f0 = 10 := h
      rw [if_pos h', if_neg (fun h2 : (at43 (rd_L4 l (i : Int)) (j - 1)).1 ≠ 10 => h2 h)]
    · have h' : ¬ (rd_T43 (rd_L4 l (i : Int)) ((j - 1 : Nat) : Int)).f0 = 10 := h
      rw [if_neg h', if_pos (show (at43 (rd_L4 l (i : Int)) (j - 1)).1 ≠ 10 from h)]
  | succ d ih =>
    intro j hj hf m hm
    obtain ⟨k, rfl⟩ : ∃ k, m = k + 1 := ⟨m - 1, by clear hF1 hF2 hR hn ih; omega⟩
    have hjn : j < n := by clear hF1 hF2 hR hn ih; omega
    have w3 : wrap64 ((j : Int) + 1) = ((j + 1 : Nat) : Int) := by clear hF1 hF2 hR hn ih; unfold wrap64; omega
    rw [catafalqueref07_Check.l1]
    have c1 := eq_true (Int.ofNat_lt.mpr hjn)
    have c4 := eq_true (Int.natCast_nonneg j)
    simp only [hn, c1, c2, c3, c4, if_true, w3]
    have hmay : catafalqueref07_May.f k ((rd_T43 (rd_L4 l (i : Int)) (j : Int)).f0) ((rd_T43 (rd_L4 l (i : Int)) (j : Int)).f1) sems boxes (l.length : Int) (n : Int) = some (!badB sems boxes l.length n (at43 (rd_L4 l (i : Int)) j)) := by
      obtain ⟨k8, rfl⟩ : ∃ k8, k = k8 + 8 := ⟨k - 8, by clear hF1 hF2 hR hn ih; omega⟩
      exact may_f k8 _ _ _ _ _ _
    rw [hmay, Option.bind_some]
    rcases Nat.lt_or_eq_of_le hf with h2 | h2
    · rw [hF1 j hjn h2]
      exact ih (j + 1) (by clear hF1 hF2 hR hn ih; omega) h2 k (by clear hF1 hF2 hR hn ih; omega)
    · subst h2
      rw [hF2 hjn, if_pos hjn]; rfl
set_option maxHeartbeats 40000 in
theorem l0_f (l : List (List S43)) (sems boxes : Int) (hl : l.length ≤ 1000) (hll : ∀ p ∈ l, p.length ≤ 1000) :
    ∀ d i, i + d = l.length → ∀ m, d * 50 + 30 ≤ m → catafalqueref07_Check.l0 m l sems boxes (i : Int) = some (checkG sems boxes (l.map (·.map pr)) d) := by
  intro d
  induction d with
  | zero =>
    intro i hi m hm
    obtain ⟨k, rfl⟩ : ∃ k, m = k + 1 := ⟨m - 1, by omega⟩
    rw [catafalqueref07_Check.l0, if_neg (by omega)]; rfl
  | succ d ih =>
    intro i hi m hm
    obtain ⟨k, rfl⟩ : ∃ k, m = k + 2 := ⟨m - 2, by clear ih; omega⟩
    have hil : i < l.length := by clear ih; omega
    have hp : rd_L4 l (i : Int) = l.getD i [] := rd4 l i
    have hpl : (rd_L4 l (i : Int)).length ≤ 1000 := hll _ (by rw [hp, List.getD_eq_getElem?_getD, List.getElem?_eq_getElem hil]; exact List.getElem_mem hil)
    have hget : (l.map (·.map pr)).getD i [] = (rd_L4 l (i : Int)).map pr := by
      rw [hp, List.getD_eq_getElem?_getD, List.getElem?_map, List.getD_eq_getElem?_getD, List.getElem?_eq_getElem hil]; rfl
    rw [checkG, List.length_map, show l.length - (d + 1) = i by clear ih; omega, hget]
    obtain ⟨n, hn⟩ : ∃ n, (rd_L4 l (i : Int)).length = n := ⟨_, rfl⟩
    rw [catafalqueref07_Check.l0]
    have c1 := eq_true (Int.ofNat_lt.mpr hil)
    have c2 := eq_true (Int.natCast_nonneg i)
    simp only [c1, c2, if_true, hn]
    unfold oneF
    rw [List.length_map, hn]
    rw [hn] at hpl
    clear hget hll
    by_cases h0 : (n : Int) = 0
    · rw [if_pos h0, catafalqueref07_Check.j3, if_pos rfl, if_pos (show n < 1 ∨ 32 < n by clear ih; omega)]
    rw [if_neg h0, catafalqueref07_Check.j3]
    by_cases h32 : (n : Int) > 32
    · rw [if_pos (decide_eq_true h32), if_pos (show n < 1 ∨ 32 < n by clear ih; omega)]
    have h3 : ¬ decide ((n : Int) > 32) = true := by simpa using h32
    rw [if_neg h3, if_neg (show ¬ (n < 1 ∨ 32 < n) by clear ih h3; omega)]
    have hF1 : ∀ j, j < n → j < fiB (badB sems boxes l.length n) ((rd_L4 l (i : Int)).map pr) → badB sems boxes l.length n (at43 (rd_L4 l (i : Int)) j) = false := fun j h1 h2 => fi_below _ _ j (by rw [hn]; exact h1) h2
    have hF2 : fiB (badB sems boxes l.length n) ((rd_L4 l (i : Int)).map pr) < n → badB sems boxes l.length n (at43 (rd_L4 l (i : Int)) (fiB (badB sems boxes l.length n) ((rd_L4 l (i : Int)).map pr))) = true := fun h => fi_at _ _ (by rw [hn]; exact h)
    have hg : ((rd_L4 l (i : Int)).map pr).getD (n - 1) (0, 0) = at43 (rd_L4 l (i : Int)) (n - 1) := at43_getD _ _ (by rw [hn]; clear ih hF1 hF2 h3; omega)
    rw [hg]
    generalize fiB (badB sems boxes l.length n) ((rd_L4 l (i : Int)).map pr) = F at hF1 hF2 ⊢
    have := l1_f l sems boxes i hil hl n hn (by clear ih hF1 hF2 h3; omega) hpl F hF1 hF2 (checkG sems boxes (l.map (·.map pr)) d) (d * 50 + 30) (by clear ih hF1 hF2 h3; omega) (ih (i + 1) (by clear ih hF1 hF2 h3; omega)) n 0 (Nat.zero_add n) (Nat.zero_le _) k (by clear ih hF1 hF2; omega)
    refine Eq.trans this ?_
    by_cases f1 : F < n
    · rw [if_pos f1, if_pos f1]
    · rw [if_neg f1, if_neg f1]
      by_cases f2 : (at43 (rd_L4 l (i : Int)) (n - 1)).1 ≠ 10
      · rw [if_pos f2, if_pos f2]
      · rw [if_neg f2, if_neg f2]
set_option maxHeartbeats 40000 in
theorem check_f (l : List (List S43)) (sems boxes : Int) (hl : l.length ≤ 20) (hll : ∀ p ∈ l, p.length ≤ 100) (K : Nat) (hK : 1100 ≤ K) : catafalqueref07_Check.f (K + 2) l sems boxes = some (checkF sems boxes (l.map (·.map pr))) := by
  have hj : ∀ b : Bool, catafalqueref07_Check.j0 (K + 2) l sems boxes b = some (if b = true then (0, 0, 1) else if l.length < 1 ∨ 8 < l.length then (0, 0, 3) else checkG sems boxes (l.map (·.map pr)) l.length) := by
    intro b
    rw [catafalqueref07_Check.j0]
    cases b
    · rw [if_neg (by simp)]
      show (if (l.length : Int) = 0 then catafalqueref07_Check.j1 (K + 1) l sems boxes true else catafalqueref07_Check.j1 (K + 1) l sems boxes (decide ((l.length : Int) > 8))) = some (if l.length < 1 ∨ 8 < l.length then (0, 0, 3) else checkG sems boxes (l.map (·.map pr)) l.length)
      have h1 : ∀ c : Bool, catafalqueref07_Check.j1 (K + 1) l sems boxes c = some (if c = true then (0, 0, 3) else checkG sems boxes (l.map (·.map pr)) l.length) := by
        intro c
        rw [catafalqueref07_Check.j1]
        cases c
        · show catafalqueref07_Check.l0 K l sems boxes 0 = _
          exact l0_f l sems boxes (by omega) (fun p hp => Nat.le_trans (hll p hp) (by decide)) l.length 0 (by omega) K (by omega)
        · rfl
      by_cases h0 : (l.length : Int) = 0
      · rw [if_pos h0, h1, if_pos rfl, if_pos (by omega)]
      · rw [if_neg h0, h1]
        by_cases h8 : (l.length : Int) > 8
        · rw [if_pos (by simpa using h8), if_pos (by omega)]
        · rw [if_neg (by simpa using h8), if_neg (by omega)]
    · rfl
  unfold catafalqueref07_Check.f checkF
  rw [hj, hj, List.length_map]
  by_cases h1 : sems < 0
  · rw [if_pos h1, if_pos (Or.inl h1)]; rfl
  rw [if_neg h1]
  by_cases h2 : sems > 4
  · rw [if_pos h2, if_pos (show sems < 0 ∨ 4 < sems ∨ boxes < 0 ∨ 4 < boxes by omega)]; rfl
  rw [if_neg h2]
  by_cases h3 : boxes < 0
  · rw [if_pos h3, if_pos (show sems < 0 ∨ 4 < sems ∨ boxes < 0 ∨ 4 < boxes by omega)]; rfl
  rw [if_neg h3]
  by_cases h4 : boxes > 4
  · rw [if_pos (show sems < 0 ∨ 4 < sems ∨ boxes < 0 ∨ 4 < boxes by omega)]; simp [h4]
  · rw [if_neg (show ¬ (sems < 0 ∨ 4 < sems ∨ boxes < 0 ∨ 4 < boxes) by omega)]; simp [h4]
end Go.Proofs.YtnfodfacilmgeaaDoor.Code
