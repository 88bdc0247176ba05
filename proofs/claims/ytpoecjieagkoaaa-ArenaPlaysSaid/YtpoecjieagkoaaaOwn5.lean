/- Several things in memory told as one. No condition. -/
import Derived.Test.YtpoecjieagkoaaaOwn4
namespace Go.Proofs.Ytpoecjieagkoaaa.Own
open Go Go.RowKit Go.Proofs.YtpoecjieagkoaaaW.PrintWords Go.Proofs.YtpoecjieagkoaaaW.PrintLast Go.Proofs.YtpoecjieagkoaaaW.PrintMore
set_option linter.unusedVariables false
/-- Things that are one thing: for some i of ι, those of f i. -/
def packT {ι : Type} (f : ι → List Thing) : Thing where
  holds w F P := ∃ i, SepF (f i) w F P
  lt := fun ⟨i, h⟩ => h.lt
  mono := fun ⟨i, h⟩ hP => ⟨i, h.mono hP⟩
  kept := fun ⟨i, h⟩ hk hs => ⟨i, h.kept hs hk⟩
section
variable {w0 w w' : World} {F0 P0 : Nat → Prop} {t u : Thing} {ts ts1 ts2 : List Thing} {ι : Type} {f : ι → List Thing}
theorem St.pack (i : ι) (h : St w0 F0 P0 (f i ++ ts) w) : St w0 F0 P0 (packT f :: ts) w := by
  obtain ⟨F, hF, hm⟩ := h
  obtain ⟨F1, F2, h1, h2, h3, h4⟩ := hF.split
  exact ⟨⟨F, ⟨F1, F2, h1, ⟨i, h2⟩, h3, h4⟩, hm⟩⟩
theorem St.unpack (h : St w0 F0 P0 (packT f :: ts) w) : ∃ i, St w0 F0 P0 (f i ++ ts) w := by
  obtain ⟨F, ⟨F1, F2, h1, ⟨i, h2⟩, h3, h4⟩, hm⟩ := h
  refine ⟨i, ⟨⟨F, ?_, hm⟩⟩⟩
  have := SepF.join h2 h4 h3
  have e : F = fun k => F1 k ∨ F2 k := funext fun k => propext (h1 k)
  rw [e]; rw [e] at this; exact this
theorem packT_mono {ι' : Type} {f' : ι' → List Thing} (hi : ∀ i, ∃ i', f' i' = f i) (h : St w0 F0 P0 (packT f :: ts) w) : St w0 F0 P0 (packT f' :: ts) w := by
  obtain ⟨i, h⟩ := h.unpack
  obtain ⟨i', e⟩ := hi i
  exact St.pack i' (by rw [e]; exact h)
/-- The thing behind ts1 comes to the front. -/
theorem St.pick (h : St w0 F0 P0 (ts1 ++ t :: ts2) w) : St w0 F0 P0 (t :: (ts1 ++ ts2)) w := h.perm List.perm_middle
theorem St.unpick (h : St w0 F0 P0 (t :: (ts1 ++ ts2)) w) : St w0 F0 P0 (ts1 ++ t :: ts2) w := h.perm List.perm_middle.symm
/-- A call that needs the first things alone. -/
theorem St.frame {P : Program} {n : Nat} {args : Array Value} {R : Ending → List Thing → World → Prop} (h : St w0 F0 P0 (ts1 ++ ts) w) (hc : ∀ F1 P1, St w F1 P1 ts1 w → Calls P n args w fun e w' => ∃ T, R e T w' ∧ St w F1 P1 T w') : Calls P n args w fun e w' => ∃ T, R e T w' ∧ St w0 F0 P0 (T ++ ts) w' := by
  obtain ⟨F1, P1, h1, hk⟩ := h.part
  refine (hc F1 P1 h1).mono ?_
  rintro e w' ⟨T, hR, hS⟩
  exact ⟨T, hR, hk w' _ hS⟩
end
end Go.Proofs.Ytpoecjieagkoaaa.Own
