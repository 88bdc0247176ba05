/- A law's arguments as values: the tree. No condition. -/
import Derived.Test.YtjfaafnngloblaaEvO
import Derived.Test.YtjfaafnngloblaaTopo
namespace Go.Proofs.Ytjfaafnngloblaa.Ev
open Go Go.Proofs
set_option linter.unusedVariables false
set_option linter.unusedSimpArgs false
theorem opI : OpE P 3 I (fun x => IntKind.i64.min ≤ x ∧ x ≤ IntKind.i64.max) := OpE.int Try.underlying3
theorem opV : OpE P 40 encV (fun x => (IntKind.i64.min ≤ x.f0 ∧ x.f0 ≤ IntKind.i64.max) ∧ (IntKind.i64.min ≤ x.f1 ∧ x.f1 ≤ IntKind.i64.max)) :=
  OpE.struct (fun x : SVtx => (x.f0, x.f1)) (fun a => ⟨a.1, a.2⟩) (fun _ => rfl) Try.underlying40 (fun _ => by kernel_rfl)
    (OpF.cons (en := I) (z := 1) rfl (by kernel_rfl) (fun _ => rfl) opI (OpF.one (en := I) (z := 1) rfl (by kernel_rfl) (fun _ => rfl) opI))
theorem opT : OpE P 22 encT (fun l : List SVtx => (∀ x ∈ l, (IntKind.i64.min ≤ x.f0 ∧ x.f0 ≤ IntKind.i64.max) ∧ (IntKind.i64.min ≤ x.f1 ∧ x.f1 ≤ IntKind.i64.max)) ∧ l.length * P.bytesOf 40 ≤ 140737488351232 ∧ l.length ≤ maxLen) :=
  OpE.slice Try.underlying22 (of_decide_eq_true (by kernel_rfl)) (fun _ => by kernel_rfl) opV
end Go.Proofs.Ytjfaafnngloblaa.Ev
