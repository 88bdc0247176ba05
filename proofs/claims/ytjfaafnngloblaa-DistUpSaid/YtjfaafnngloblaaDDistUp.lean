-- Written by wip/tools/xprint.py over the kit's print; hand-proved contracts inlined.
import Derived.Test.YtjfaafnngloblaaPDistUpx5
namespace Go.Proofs.Ytjfaafnngloblaa.PDistUp
open Go.RowKit Go.Proofs.YtjfaafnngloblaaW.PrintWords
/-- THE ONE PURE STATEMENT of catafalquelaw02_DistUp. -/
def catafalquelaw02_DistUp.Pure : Prop := ∀ (b0 : List (S40)) (b1 : Int) (b2 : Int), ((∀ x ∈ b0, ((Lit.int .i64 x.f0).wf = true) ∧ ((Lit.int .i64 x.f1).wf = true)) ∧ b0.length * 16 ≤ 140737488351232 ∧ b0.length ≤ maxLen) → ((Lit.int .i64 b1).wf = true) → ((Lit.int .i64 b2).wf = true) → ∃ k, catafalquelaw02_DistUp.f k b0 b1 b2 = some true
end Go.Proofs.Ytjfaafnngloblaa.PDistUp
