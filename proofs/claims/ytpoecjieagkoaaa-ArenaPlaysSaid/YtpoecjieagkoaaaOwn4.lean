/- Things in memory: their order plays no part. No condition. -/
import Derived.Test.YtpoecjieagkoaaaOwn3
namespace Go.Proofs.Ytpoecjieagkoaaa.Own
open Go
theorem SepF.perm {w : World} {P : Nat → Prop} {ts ts' : List Thing} (h : ts.Perm ts') : ∀ {F : Nat → Prop}, SepF ts w F P → SepF ts' w F P := by
  induction h with
  | nil => exact fun h => h
  | cons x _ ih => rintro F ⟨F1, F2, h1, h2, h3, h4⟩; exact ⟨F1, F2, h1, h2, h3, ih h4⟩
  | swap x y l => exact fun h => h.swap
  | trans _ _ ih1 ih2 => exact fun h => ih2 (ih1 h)
theorem St.perm {w0 w : World} {F0 P0 : Nat → Prop} {ts ts' : List Thing} (h : St w0 F0 P0 ts w) (hp : ts.Perm ts') : St w0 F0 P0 ts' w := by
  obtain ⟨F, hF, hm⟩ := h
  exact ⟨⟨F, hF.perm hp, hm⟩⟩
/-- What stands ahead goes behind. -/
theorem St.turn {w0 w : World} {F0 P0 : Nat → Prop} {ts1 ts2 ts : List Thing} (h : St w0 F0 P0 (ts1 ++ ts2 ++ ts) w) : St w0 F0 P0 (ts2 ++ ts1 ++ ts) w := h.perm (List.perm_append_comm.append_right ts)
end Go.Proofs.Ytpoecjieagkoaaa.Own
