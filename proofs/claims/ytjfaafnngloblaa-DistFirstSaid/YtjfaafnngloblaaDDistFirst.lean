-- Written by wip/tools/xprint.py over the kit's print; hand-proved contracts inlined.
import Derived.Test.YtjfaafnngloblaaPDistFirstx5
namespace Go.Proofs.Ytjfaafnngloblaa.PDistFirst
open Go.RowKit Go.Proofs.YtjfaafnngloblaaW.PrintWords
/-- THE ONE PURE STATEMENT of catafalquelaw02_DistFirst. -/
def catafalquelaw02_DistFirst.Pure : Prop := ∀ (b0 : List (S40)) (b1 : Int), ((∀ x ∈ b0, ((Lit.int .i64 x.f0).wf = true) ∧ ((Lit.int .i64 x.f1).wf = true)) ∧ b0.length * 16 ≤ 140737488351232 ∧ b0.length ≤ maxLen) → ((Lit.int .i64 b1).wf = true) → ∃ k, catafalquelaw02_DistFirst.f k b0 b1 = some true
end Go.Proofs.Ytjfaafnngloblaa.PDistFirst
