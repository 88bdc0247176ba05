-- Written by wip/tools/xprint.py over the kit's print; hand-proved contracts inlined.
import Derived.Test.YtomjjiloelmpkaaPCostTellsx3
namespace Go.Proofs.Ytomjjiloelmpkaa.PCostTells
open Go.RowKit Go.Proofs.YtomjjiloelmpkaaW.PrintWords
/-- THE ONE PURE STATEMENT of catafalquelaw14_CostTells. -/
def catafalquelaw14_CostTells.Pure : Prop := ∀ (b0 : S32) (b1 : S32) (b2 : Int), (((Lit.int .i64 b0.f0).wf = true) ∧ ((Lit.int .i64 b0.f1).wf = true)) → (((Lit.int .i64 b1.f0).wf = true) ∧ ((Lit.int .i64 b1.f1).wf = true)) → ((Lit.int .i64 b2).wf = true) → ∃ k, catafalquelaw14_CostTells.f k b0.f0 b0.f1 b1.f0 b1.f1 b2 = some true
end Go.Proofs.Ytomjjiloelmpkaa.PCostTells
