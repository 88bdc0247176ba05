/- More fuel tells the same. No condition. -/
import Derived.Test.YtjfaafnngloblaaEvI
namespace Go.Proofs.Ytjfaafnngloblaa.Ev
open Go
set_option linter.unusedVariables false
set_option linter.unusedSimpArgs false
section
variable {P : Program} {cf cf' : CallF}
def LeF (cf cf' : CallF) : Prop := ∀ f a S T r, cf f a S T = some r → cf' f a S T = some r
theorem evCall_mono (h : LeF cf cf') {f : FuncId} {a : List AV} {S : Obs} {T : Toks} {r : AV × Obs × Toks} (he : evCall cf f a S T = some r) : evCall cf' f a S T = some r := by
  unfold evCall at he ⊢
  split at he
  · rename_i ha
    rw [if_pos ha]
    split at he
    · rename_i r' S1 T1 hc
      rw [h _ _ _ _ _ hc]; exact he
    · cases he
  · rename_i ha
    rw [if_neg ha]; exact h _ _ _ _ _ he
theorem exO_mono (h : LeF cf cf') {ops : Array Oper} {o : Oper} {s : St} {r : AV × Obs × Toks} (he : exO P cf ops o s = some r) : exO P cf' ops o s = some r := by
  unfold exO at he ⊢
  split at he
  · rename_i b hw
    cases b with
    | false => simpa using he
    | true =>
      simp only [if_true] at he ⊢
      unfold run1 at he ⊢
      split at he
      · split at he
        · split at he
          · rename_i hc
            simp only [hc, if_true]
            exact evCall_mono h he
          · cases he
        · cases he
      · exact he
  · cases he
theorem evG_mono (h : LeF cf cf') {ops : Array Oper} {o : Oper} {s s' : St} (he : evG P cf ops o s = some s') : evG P cf' ops o s = some s' := by
  obtain ⟨r, hr, rfl⟩ := Option.map_eq_some_iff.1 he
  unfold evG
  rw [exO_mono h hr]; rfl
theorem evOps_mono (h : LeF cf cf') {ops : Array Oper} : ∀ (l : List Oper) {s s' : St}, evOps P cf ops l s = some s' → evOps P cf' ops l s = some s'
  | [], s, s', he => he
  | o :: l, s, s', he => by
    simp only [evOps] at he ⊢
    split at he
    · rename_i s1 h1
      rw [evG_mono h h1]; exact evOps_mono h l he
    · cases he
theorem evD_mono (h : LeF cf cf') {ops : Array Oper} {deps : List (List Nat)} : ∀ (l : List Nat) {s : St} {r : St × List (Nat × Cls)}, evD P cf ops deps l s = some r → evD P cf' ops deps l s = some r
  | [], s, r, he => he
  | i :: l, s, r, he => by
    simp only [evD] at he ⊢
    split at he
    · cases he
    split at he
    · cases he
    rename_i s1 h1
    split at he
    · cases he
    rename_i sf log h2
    rw [evG_mono h h1]
    simp only [evD_mono h l h2]
    exact he
theorem evR_mono (h : LeF cf cf') {ops : Array Oper} {draw : Bool} {s s' : St} (he : evR P cf ops draw s = some s') : evR P cf' ops draw s = some s' := by
  unfold evR at he ⊢
  cases draw with
  | false => exact evOps_mono h _ he
  | true =>
    simp only [if_true] at he ⊢
    split at he
    · rename_i r hr
      rw [evD_mono h _ hr]; exact he
    · cases he
theorem iter_mono {f f' : St → Option (Ex × St)} (h : ∀ s r, f s = some r → f' s = some r) : ∀ (n m : Nat), n ≤ m → ∀ {s : St} {r : Ex × St}, iter f n s = some r → iter f' m s = some r
  | 0, m, _, s, r, he => by cases he
  | n + 1, 0, hm, s, r, he => by omega
  | n + 1, m + 1, hm, s, r, he => by
    simp only [iter] at he ⊢
    split at he
    · rename_i s1 h1
      rw [h _ _ h1]; exact iter_mono h n m (by omega) he
    · rename_i hne
      rw [h _ _ he]
      obtain ⟨x, s1⟩ := r
      cases x with
      | normal => exact absurd he (hne s1)
      | _ => rfl
theorem evC_mono (h : LeF cf cf') {k k' : Nat} (hk : k ≤ k') : ∀ (c : Code) {s : St} {r : Ex × St}, evC P cf k c s = some r → evC P cf' k' c s = some r := by
  intro c
  induction c with
  | region id ops draw =>
    intro s r he
    simp only [evC] at he ⊢
    obtain ⟨s1, h1, rfl⟩ := Option.map_eq_some_iff.1 he
    rw [evR_mono h h1]; rfl
  | seq p q ihp ihq =>
    intro s r he
    simp only [evC] at he ⊢
    split at he
    · rename_i s1 h1
      rw [ihp h1]; exact ihq he
    · rename_i hne
      rw [ihp he]
      obtain ⟨x, s1⟩ := r
      cases x with
      | normal => exact absurd he (hne s1)
      | _ => rfl
  | cond c p q ihp ihq =>
    intro s r he
    simp only [evC] at he ⊢
    split at he
    · split at he
      · rename_i hb; rw [if_pos hb]; exact ihp he
      · rename_i hb; rw [if_neg hb]; exact ihq he
    · cases he
  | block id c ih =>
    intro s r he
    simp only [evC] at he ⊢
    split at he
    · rename_i i s1 h1
      rw [ih h1]; exact he
    · rename_i hne
      rw [ih he]
      obtain ⟨x, s1⟩ := r
      cases x with
      | exit i => exact absurd he (hne i s1)
      | _ => rfl
  | loop c ih =>
    intro s r he
    simp only [evC] at he ⊢
    exact iter_mono (fun s r => ih) k k' hk he
  | scope c ih => intro s r he; simp only [evC] at he ⊢; exact ih he
  | _ => intro s r; simp [evC]
theorem evFn_mono (h : LeF cf cf') {k k' : Nat} (hk : k ≤ k') {fn : Func} {a : List AV} {S : Obs} {T : Toks} {r : AV × Obs × Toks} (he : evFn P cf k fn a S T = some r) : evFn P cf' k' fn a S T = some r := by
  unfold evFn at he ⊢
  split at he
  · cases he
  rename_i c hc
  split at he
  · rename_i x s1 h1
    rw [evC_mono h hk c h1]; exact he
  · cases he
theorem evF_succ {X : Prims} : ∀ k, LeF (evF P X k) (evF P X (k + 1))
  | 0, f, a, S, T, r, he => by cases he
  | k + 1, f, a, S, T, r, he => by
    rw [evF] at he ⊢
    split at he
    · exact he
    · split at he
      · exact evFn_mono (evF_succ k) (Nat.le_succ k) he
      · cases he
theorem evF_mono {X : Prims} {k k' : Nat} (hk : k ≤ k') : LeF (evF P X k) (evF P X k') := by
  induction hk with
  | refl => exact fun _ _ _ _ _ h => h
  | step _ ih => exact fun f a S T r h => evF_succ _ _ _ _ _ _ (ih f a S T r h)
end
end Go.Proofs.Ytjfaafnngloblaa.Ev
