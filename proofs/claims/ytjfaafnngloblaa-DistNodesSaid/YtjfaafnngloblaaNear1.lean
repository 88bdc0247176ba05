/- Who is near: how two processors are told apart. No condition. -/
import Derived.Test.YtjfaafnngloblaaDist
namespace Go.Proofs.Ytjfaafnngloblaa.Ev
open Go Go.Proofs
set_option linter.unusedVariables false
set_option linter.unusedSimpArgs false
open Go.RowKit (wrap64)
set_option maxRecDepth 100000
def sgn (a b : Int) : Int := if a < b then -1 else if b < a then 1 else 0
def turn (n p q : Int) : Int := (q - p + n).tmod n
def cf (t : List SVtx) (n p : Int) (a b : Int) : Int :=
  if sgn (farOf t p a) (farOf t p b) ≠ 0 then sgn (farOf t p a) (farOf t p b) else sgn (turn n p a) (turn n p b)
theorem turn_wrap {n p x : Int} (hx : 0 ≤ x ∧ x < n) (hp : 0 ≤ p ∧ p < n) (hn : n ≤ 1000000) : (IntKind.i64.wrap (IntKind.i64.wrap (x - p) + n)).tmod n = turn n p x := by
  rw [wrap64_of (n := x - p) (by omega), wrap64_of (n := x - p + n) (by omega)]
  rfl
section
variable {X : Prims} (hX : Low X)
include hX
theorem isnan_g (a : Int) : Gv P X 38 [I a] (B false) := by
  refine gv_of (hX _ (by decide)) fun38 rfl ?_
  simp +decide only [Try.f38, go_sem, bne_self_eq_false]
  exact ⟨_, rfl, rfl, rfl⟩
theorem compare_g (a b : Int) : Gv P X 32 [I a, I b] (I (sgn a b)) := by
  refine gv_of (hX _ (by decide)) fun32 rfl ?_
  simp +decide only [Try.f32, go_sem]
  refine WO_call rfl rfl rfl rfl rfl (isnan_g hX a) ?_
  simp +decide only [go_sem]
  refine WO_call rfl rfl rfl rfl rfl (isnan_g hX b) ?_
  unfold sgn
  by_cases h1 : a < b
  · simp +decide only [go_sem, h1]
    exact ⟨_, rfl, rfl, rfl⟩
  · by_cases h2 : b < a
    · simp +decide only [go_sem, h1, h2]
      exact ⟨_, rfl, rfl, rfl⟩
    · simp +decide only [go_sem, h1, h2]
      exact ⟨_, rfl, rfl, rfl⟩
theorem or_g (a b : Int) : Gv P X 31 [L [a, b]] (I (if a ≠ 0 then a else b)) := by
  refine gv_of (hX _ (by decide)) fun31 rfl ?_
  simp +decide only [Try.f31, go_sem, L]
  have e1 : IntKind.i64.wrap (0 + 1) = 1 := by decide
  have e2 : IntKind.i64.wrap (1 + 1) = 2 := by decide
  refine W_unroll ?_
  by_cases h1 : a = 0
  · subst h1
    simp +decide only [Int.reduceToNat, go_sem, bne_self_eq_false, e1]
    refine W_unroll ?_
    by_cases h2 : b = 0
    · subst h2
      simp +decide only [Int.reduceToNat, go_sem, bne_self_eq_false, e2]
      refine W_unroll ?_
      simp +decide only [Int.reduceToNat, go_sem]
      exact ⟨_, rfl, rfl, rfl⟩
    · have h2' : (b != 0) = true := by simpa using h2
      simp +decide only [Int.reduceToNat, go_sem, h2']
      exact ⟨_, rfl, rfl, rfl⟩
  · have h1' : (a != 0) = true := by simpa using h1
    simp +decide only [Int.reduceToNat, go_sem, h1', h1]
    exact ⟨_, rfl, rfl, by rw [if_pos h1]⟩
theorem closure_g (t : List SVtx) (p n x y : Int) (ht : t.length ≤ 1000) (hx : 0 ≤ x ∧ x < n) (hy : 0 ≤ y ∧ y < n) (hp : 0 ≤ p ∧ p < n) (hn : n ≤ 1000000) :
    Gv P X 30 [I x, I y, .ea [encT t], .ea [I p], .ea [I n]] (I (cf t n p x y)) := by
  refine gv_of (hX _ (by decide)) fun30 rfl ?_
  have hn0 : ¬ n = 0 := by omega
  simp +decide only [Try.f30, go_sem]
  refine W_draw hmx (by kernel_rfl) ?_
  simp +decide only [go_sem, encT, hn0]
  refine WO_call rfl rfl rfl rfl rfl (far_g hX t p x ht) ?_
  simp +decide only [go_sem, hn0]
  refine WO_call rfl rfl rfl rfl rfl (far_g hX t p y ht) ?_
  simp +decide only [go_sem, hn0]
  refine WO_call rfl rfl rfl rfl rfl (compare_g hX _ _) ?_
  simp +decide only [go_sem, hn0]
  refine WO_call rfl rfl rfl rfl rfl (compare_g hX _ _) ?_
  simp +decide only [go_sem, hn0]
  refine WO_call rfl rfl rfl rfl rfl (or_g hX _ _) ?_
  rw [turn_wrap hx hp hn, turn_wrap hy hp hn]
  simp +decide only [go_sem, hn0]
  exact ⟨_, rfl, rfl, rfl⟩
end
end Go.Proofs.Ytjfaafnngloblaa.Ev
