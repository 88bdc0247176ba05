/- Code, functions: what the evaluator tells is so. No condition. -/
import Derived.Test.YtjfaafnngloblaaEvH
namespace Go.Proofs.Ytjfaafnngloblaa.Ev
open Go
set_option linter.unusedVariables false
set_option linter.unusedSimpArgs false
def Ex.to : Ex → Exit
  | .normal => .normal
  | .exit id => .exit id
  | .ret => .ret
section
variable {P : Program} {cf : CallF} {w0 : World} {Z0 : Zs} {M0 : Nat → Prop} {Z : Zs} {β : List Nat} {γ : List Value} {w : World}
abbrev Pst (P : Program) (w0 : World) (Z0 : Zs) (M0 : Nat → Prop) (Z : Zs) (β : List Nat) (γ : List Value) (T : Toks) (w : World) (x : Ex) (s' : St) : Exit → Act → World → Prop :=
  fun e a' w' => e = x.to ∧ After P w0 Z0 M0 Z β γ T w s' a' w'
theorem noGoto_of {x : Ex} {Q : Act → World → Prop} {e : Exit} {a : Act} {w : World} (h : e = x.to ∧ Q a w) : Exit.noGoto (fun e a w => e = x.to ∧ Q a w) e a w := by
  obtain ⟨rfl, h⟩ := h
  cases x <;> exact ⟨rfl, h⟩
theorem evC_sound (hcf : OKF P cf) (k : Nat) : ∀ (c : Code) {s s' : St} {x : Ex} {a : Act} {Z : Zs} {β : List Nat} {γ : List Value} {w : World}, EN P w0 Z0 M0 Z β γ s.S s.T w → FR P Z β γ s.T w s.fr a → evC P cf k c s = some (x, s') →
    c.wp P (Pst P w0 Z0 M0 Z β γ s.T w x s') a w := by
  intro c
  induction c with
  | skip =>
    intro s s' x a Z β γ w E F h
    simp only [evC, Option.some.injEq, Prod.mk.injEq] at h
    obtain ⟨rfl, rfl⟩ := h
    exact wp_skip ⟨rfl, Z, β, γ, E, F, .refl _ _ _ _ _⟩
  | label l =>
    intro s s' x a Z β γ w E F h
    simp only [evC, Option.some.injEq, Prod.mk.injEq] at h
    obtain ⟨rfl, rfl⟩ := h
    exact wp_label ⟨rfl, Z, β, γ, E, F, .refl _ _ _ _ _⟩
  | region id ops draw =>
    intro s s' x a Z β γ w E F h
    simp only [evC] at h
    obtain ⟨s1, h1, h⟩ := Option.map_eq_some_iff.1 h
    simp only [Prod.mk.injEq] at h
    obtain ⟨rfl, rfl⟩ := h
    exact evR_sound hcf E F h1 fun a' w' hA => ⟨rfl, hA⟩
  | seq p q ihp ihq =>
    intro s s' x a Z β γ w E F h
    simp only [evC] at h
    split at h
    · rename_i s1 h1
      refine wp_seq (wp_mono (ihp E F h1) ?_)
      rintro e a1 w1 ⟨rfl, Z1, β1, γ1, E1, F1, X1⟩
      refine wp_mono (ihq E1 F1 h) ?_
      rintro e2 a2 w2 ⟨he, hA⟩
      exact ⟨he, hA.trans X1⟩
    · rename_i hne
      refine wp_seq (wp_mono (ihp E F h) ?_)
      rintro e a1 w1 ⟨rfl, hA⟩
      cases x with
      | normal => exact absurd h (hne s')
      | exit id => exact ⟨rfl, hA⟩
      | ret => exact ⟨rfl, hA⟩
  | cond c p q ihp ihq =>
    intro s s' x a Z β γ w E F h
    simp only [evC] at h
    have hc := opd_r F c
    split at h
    · rename_i b hb
      rw [hb] at hc
      cases b with
      | true => exact wp_cond_true hc.v_inv.1 (ihp E F (by simpa using h))
      | false => exact wp_cond_false hc.v_inv.1 (ihq E F (by simpa using h))
    · cases h
  | block id c ih =>
    intro s s' x a Z β γ w E F h
    simp only [evC] at h
    split at h
    · rename_i i s1 h1
      refine wp_block (wp_mono (ih E F h1) ?_)
      rintro e a1 w1 ⟨rfl, hA⟩
      by_cases hi : i = id
      · rw [if_pos hi] at h
        simp only [Option.some.injEq, Prod.mk.injEq] at h
        obtain ⟨rfl, rfl⟩ := h
        simp only [Ex.to, Exit.inBlock, if_pos hi]
        exact ⟨rfl, hA⟩
      · rw [if_neg hi] at h
        simp only [Option.some.injEq, Prod.mk.injEq] at h
        obtain ⟨rfl, rfl⟩ := h
        simp only [Ex.to, Exit.inBlock, if_neg hi]
        exact ⟨rfl, hA⟩
    · rename_i hne
      refine wp_block (wp_mono (ih E F h) ?_)
      rintro e a1 w1 ⟨rfl, hA⟩
      cases x with
      | normal => exact ⟨rfl, hA⟩
      | exit i => exact absurd h (hne i s')
      | ret => exact ⟨rfl, hA⟩
  | loop c ih =>
    intro s s' x a Z β γ w E F h
    simp only [evC] at h
    have key : ∀ (n : Nat) {s : St} {a : Act} {Z : Zs} {β : List Nat} {γ : List Value} {w : World}, EN P w0 Z0 M0 Z β γ s.S s.T w → FR P Z β γ s.T w s.fr a → iter (evC P cf k c) n s = some (x, s') →
        Code.rounds P c (Pst P w0 Z0 M0 Z β γ s.T w x s') n a w := by
      intro n
      induction n with
      | zero => intro s a Z β γ w E F h; cases h
      | succ n ihn =>
        intro s a Z β γ w E F h
        simp only [iter] at h
        rw [rounds_succ]
        split at h
        · rename_i s1 h1
          refine wp_mono (ih E F h1) ?_
          rintro e a1 w1 ⟨rfl, Z1, β1, γ1, E1, F1, X1⟩
          have hr := ihn E1 F1 h
          have hmono : ∀ (n : Nat) {Q Q' : Exit → Act → World → Prop} (hq : ∀ e a w, Q e a w → Q' e a w) {a : Act} {w : World}, Code.rounds P c Q n a w → Code.rounds P c Q' n a w := by
            intro n
            induction n with
            | zero => intro Q Q' _ a w h; exact h
            | succ n ih2 =>
              intro Q Q' hq a w h
              rw [rounds_succ] at h ⊢
              refine wp_mono h fun e a w h' => ?_
              cases e <;> first | exact hq _ _ _ h' | exact ih2 hq h'
          exact hmono n (fun e a2 w2 hh => ⟨hh.1, hh.2.trans X1⟩) hr
        · rename_i hne
          refine wp_mono (ih E F h) ?_
          rintro e a1 w1 ⟨rfl, hA⟩
          cases x with
          | normal => exact absurd h (hne s')
          | exit id => exact ⟨rfl, hA⟩
          | ret => exact ⟨rfl, hA⟩
    exact wp_loop_rounds k (key k E F h)
  | scope c ih =>
    intro s s' x a Z β γ w E F h
    simp only [evC] at h
    exact wp_scope_straight (wp_mono (ih E F h) fun e a w h => noGoto_of h)
  | exit id =>
    intro s s' x a Z β γ w E F h
    simp only [evC, Option.some.injEq, Prod.mk.injEq] at h
    obtain ⟨rfl, rfl⟩ := h
    exact wp_exit ⟨rfl, Z, β, γ, E, F, .refl _ _ _ _ _⟩
  | ret =>
    intro s s' x a Z β γ w E F h
    simp only [evC, Option.some.injEq, Prod.mk.injEq] at h
    obtain ⟨rfl, rfl⟩ := h
    exact wp_ret ⟨rfl, Z, β, γ, E, F, .refl _ _ _ _ _⟩
  | _ => intro s s' x a Z β γ w E F h; simp [evC] at h
theorem fun_ok {f : FuncId} {fn : Func} (h : fun? P f = some fn) : P.funcs[f]? = some fn ∧ fn.name ≠ "runtime.NumGoroutine" := by
  unfold fun? at h
  split at h
  · rename_i fn' hf
    split at h
    · cases h
    · rename_i hne
      simp only [Option.some.injEq] at h
      subst h
      exact ⟨hf, hne⟩
  · cases h
theorem evFn_sound (hcf : OKF P cf) (k : Nat) {f : FuncId} {fn : Func} (hf : fun? P f = some fn) {args : List AV} {S S' : Obs} {T T' : Toks} {r : AV} (h : evFn P cf k fn args S T = some (r, S', T')) : Fun P f ∧ FC P f args S T r S' T' := by
  obtain ⟨hf1, hf2⟩ := fun_ok hf
  unfold evFn at h
  split at h
  · cases h
  rename_i c hc
  refine ⟨⟨fn, hf1, hf2, by rw [hc]; rfl⟩, ?_⟩
  split at h
  case h_2 => cases h
  rename_i x s1 hev
  split at h
  case isFalse => cases h
  rename_i hx
  have hfin : ∃ l, resL P s1 fn.results.toList = some l ∧ fin S (rt l) s1.S s1.T = (r, S', T') := by
    split at h
    · rename_i q hq; exact ⟨_, hq, by simpa [rt] using h⟩
    · rename_i l hne hq
      refine ⟨l, hq, ?_⟩
      have e : rt l = .tup l := by
        match l, hne with
        | [], _ => rfl
        | [q], hne => exact absurd rfl (hne q)
        | _ :: _ :: _, _ => rfl
      rw [e]; simpa using h
    · cases h
  obtain ⟨l, hl, hfin⟩ := hfin
  intro w0 Z0 M0 Z β γ w vs E hlen hR
  refine calls_of_wp hf1 hc ?_
  have F : FR P Z β γ T w (args ++ List.replicate (fn.ntmps - args.length) (AV.tup [])) { tmps := vs ++ Array.replicate (fn.ntmps - vs.size) undef, defers := [] } := by
    refine ⟨by simp [hlen], rfl, fun t ht => ?_⟩
    by_cases h1 : t < args.length
    · have e1 : (args ++ List.replicate (fn.ntmps - args.length) (AV.tup [])).getD t .dead = args.getD t .dead := by
        simp [List.getD_eq_getElem?_getD, List.getElem?_append_left h1]
      have e2 : (vs ++ Array.replicate (fn.ntmps - vs.size) undef).getD t undef = vs.getD t undef := by
        simp [Array.getD_eq_getD_getElem?, Array.getElem?_append_left (show t < vs.size by omega)]
      simp only [e1, e2]
      exact hR t h1
    · have ht' : t - args.length < fn.ntmps - args.length := by simp at ht; omega
      have e1 : (args ++ List.replicate (fn.ntmps - args.length) (AV.tup [])).getD t .dead = .tup [] := by
        simp [List.getD_eq_getElem?_getD, List.getElem?_append_right (Nat.le_of_not_lt h1), ht']
      have e2 : (vs ++ Array.replicate (fn.ntmps - vs.size) undef).getD t undef = undef := by
        have h3 : t - vs.size < fn.ntmps - vs.size := by omega
        simp [Array.getD_eq_getD_getElem?, Array.getElem?_append_right (show vs.size ≤ t by omega), h3]
      simp only [e1, e2]
      exact .undef
  have hw := evC_sound (w0 := w0) (Z0 := Z0) (M0 := M0) hcf k c (s := ⟨args ++ List.replicate (fn.ntmps - args.length) (AV.tup []), S, T⟩) E F hev
  refine wp_mono hw ?_
  rintro e a' w' ⟨rfl, Z', β', γ', E', F', X'⟩
  obtain ⟨fr', S1, T1⟩ := s1
  obtain ⟨v, hv, hRv⟩ := results_run E' F' (fn := fn) hl
  obtain ⟨β'', E'', X'', hR''⟩ := fin_sound hfin E.bl E' X' hRv
  have hpost : a'.defers = [] ∧ ∃ v, (results fn a'.tmps).run P w' = .ok v w' ∧ (fun e w' => ∃ v Z' β' γ', e = Ending.returned v ∧ EN P w0 Z0 M0 Z' β' γ' S' T' w' ∧ VX Z Z' β β' γ γ' T T' w w' ∧ R3 Z' β' γ' T' w' P r v) (.returned v) w' :=
    ⟨F'.df, v, hv, v, Z', β'', γ', rfl, E'', X'', hR''⟩
  rcases hx with rfl | rfl
  · exact hpost
  · exact hpost
/-- The contracts of what is known otherwise. -/
def OKX (P : Program) (X : Prims) : Prop := ∀ f g args r, X f = some g → g args = some r → Fun P f ∧ PC P f args r
/-- WHAT THE EVALUATOR TELLS IS SO. -/
theorem evF_sound {X : Prims} (hX : OKX P X) : ∀ k, OKF P (evF P X k)
  | 0 => fun f args S T r S' T' h => by cases h
  | k + 1 => fun f args S T r S' T' h => by
    simp only [evF] at h
    split at h
    · rename_i g hg
      split at h
      case isFalse => cases h
      rename_i ha
      obtain ⟨q, hq, h⟩ := Option.map_eq_some_iff.1 h
      simp only [Prod.mk.injEq] at h
      obtain ⟨rfl, rfl, rfl⟩ := h
      obtain ⟨h1, h2⟩ := hX f g _ q hg hq
      exact ⟨h1, PC.fc h2 ha S T⟩
    · split at h
      · rename_i fn hf
        exact evFn_sound (evF_sound hX k) k hf h
      · cases h
end
end Go.Proofs.Ytjfaafnngloblaa.Ev
