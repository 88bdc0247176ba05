/- The node of a processor. No condition. -/
import Derived.Test.YtjfaafnngloblaaDist
namespace Go.Proofs.Ytjfaafnngloblaa.Ev
open Go Go.Proofs
set_option linter.unusedVariables false
set_option linter.unusedSimpArgs false
open Go.RowKit (wrap64)
set_option maxRecDepth 100000
section
variable {X : Prims} (hX : Low X)
include hX
theorem node_g (t : List SVtx) (p : Int) (ht : t.length ≤ 1000) : Gv P X 13 [encT t, I p] (I (nodeOf t p)) := by
  refine gv_of (hX _ (by decide)) fun13 rfl ?_
  simp +decide only [Try.f13, encT, go_sem]
  refine WO_call rfl rfl rfl rfl rfl (proc_g hX t p ht) ?_
  unfold nodeOf
  by_cases hp : inP t p
  · obtain ⟨h1, h2, -⟩ := vx_at hp
    have hv := hp.valid
    have h0 : ¬ (vx t p : Int) < 0 := by omega
    have hu : up t (vx t p : Int) 1 = (anc t 2 (vx t p) : Nat) := up_at hv h1 h2 2 (by omega)
    have hl := vsOf_len t 1
    rw [if_pos hp, if_pos hp]
    simp +decide only [go_sem, h0]
    refine WO_call rfl rfl rfl rfl rfl (nodes_g hX t ht) ?_
    simp +decide only [go_sem]
    refine WO_call rfl rfl rfl rfl rfl (up_g hX t _ 1 ht) ?_
    rw [hu]
    simp +decide only [go_sem]
    refine WO_call rfl rfl rfl rfl rfl (index_g hX (vsOf t 1) _ (by omega)) ?_
    simp +decide only [go_sem]
    exact ⟨_, rfl, rfl, rfl⟩
  · rw [if_neg hp, if_neg hp]
    simp +decide only [go_sem]
    exact ⟨_, rfl, rfl, rfl⟩
end
end Go.Proofs.Ytjfaafnngloblaa.Ev
