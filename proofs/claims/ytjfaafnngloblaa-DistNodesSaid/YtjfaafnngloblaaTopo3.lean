/- The tree of processors, third part. No condition. -/
import Derived.Test.YtjfaafnngloblaaTopo2
namespace Go.Proofs.Ytjfaafnngloblaa.Ev
open Go Go.Proofs
set_option linter.unusedVariables false
set_option linter.unusedSimpArgs false
open Go.RowKit (wrap64)
set_option maxRecDepth 100000
section
variable {X : Prims} (hX : Low X)
include hX
theorem up_g (t : List SVtx) (v x : Int) (ht : t.length ≤ 1000) : Gv P X 25 [encT t, I v, I x] (I (up t v x)) := by
  refine gv_of (hX _ (by decide)) fun25 rfl ?_
  simp +decide only [Try.f25, encT, go_sem]
  refine W_ind (fun n s => ∃ u : Int, u < n ∧ up t v x = upN t x (n + 1) u ∧ FrIs 35 [(0, .sl .no (t.map encV)), (1, I u), (2, I x)] s.fr ∧ s.S = [] ∧ s.T = []) ?_ (n := max t.length (v.toNat + 1)) ⟨v, by omega, ?_, ⟨rfl, rfl, rfl, rfl, trivial⟩, rfl, rfl⟩
  · rintro n ⟨L, S, T⟩ ih ⟨u, hu, he, hF, rfl, rfl⟩
    obtain ⟨j, rfl⟩ := hF.ex
    by_cases h1 : 0 ≤ u
    · by_cases h2 : u < (t.length : Int)
      · have hx := vtx_at (show u.toNat < t.length by omega)
        rw [upN, if_pos ⟨h1, h2⟩] at he
        simp +decide only [fr, jl, Nat.reduceAdd, go_sem, h1, h2, hx, encV]
        refine Wif_of (fun h => ?_) (fun h => ?_)
        · rw [if_pos (by simpa using h)] at he
          simp +decide only [go_sem]
          exact ⟨_, rfl, rfl, by rw [he]⟩
        · rw [if_neg (by simpa using h)] at he
          simp +decide only [go_sem, h1, hx, encV]
          refine Wif_of (fun h => ?_) (fun h => ?_)
          · rw [if_pos (by simpa using h)] at he
            simp +decide only [go_sem]
            exact ⟨_, rfl, rfl, by rw [he]⟩
          · have hlt : par t u.toNat < u := by simpa using h
            rw [if_neg (by omega)] at he
            simp +decide only [go_sem, h1, hx, encV]
            refine ih (n - 1) _ (by omega) ⟨par t u.toNat, by omega, ?_, ⟨rfl, rfl, rfl, rfl, trivial⟩, rfl, rfl⟩
            rw [he]; congr 1; omega
      · rw [upN, if_neg (fun h => h2 h.2)] at he
        simp +decide only [fr, jl, Nat.reduceAdd, go_sem, h1, h2]
        exact ⟨_, rfl, rfl, by rw [he]⟩
    · rw [upN, if_neg (fun h => h1 h.1)] at he
      simp +decide only [fr, jl, Nat.reduceAdd, go_sem, h1]
      exact ⟨_, rfl, rfl, by rw [he]⟩
  · by_cases h : v < (t.length : Int)
    · exact upN_more t x _ _ v (by omega) (by omega) (by omega) (by omega)
    · rw [up, upN, upN, if_neg (by omega), if_neg (by omega)]
end
end Go.Proofs.Ytjfaafnngloblaa.Ev
