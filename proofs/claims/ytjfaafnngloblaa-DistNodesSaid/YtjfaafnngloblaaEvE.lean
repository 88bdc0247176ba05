/- An operation, and a row of operations. No condition. -/
import Derived.Test.YtjfaafnngloblaaEvD
import Derived.LoopN
import Derived.Scope
namespace Go.Proofs.Ytjfaafnngloblaa.Ev
open Go
set_option linter.unusedVariables false
set_option linter.unusedSimpArgs false
/-- A function that can be called. -/
def Fun (P : Program) (f : FuncId) : Prop := ∃ fn, P.funcs[f]? = some fn ∧ fn.name ≠ "runtime.NumGoroutine" ∧ fn.body.isSome = true
/-- What a call does, wherever it is made. -/
def FC (P : Program) (f : FuncId) (args : List AV) (S0 : Obs) (T0 : Toks) (r : AV) (S1 : Obs) (T1 : Toks) : Prop :=
  ∀ (w0 : World) (Z0 : Zs) (M0 : Nat → Prop) (Z : Zs) (β : List Nat) (γ : List Value) (w : World) (vs : Array Value), EN P w0 Z0 M0 Z β γ S0 T0 w → args.length = vs.size → (∀ i, i < args.length → R3 Z β γ T0 w P (args.getD i .dead) (vs.getD i undef)) →
    Calls P f vs w fun e w' => ∃ v Z' β' γ', e = .returned v ∧ EN P w0 Z0 M0 Z' β' γ' S1 T1 w' ∧ VX Z Z' β β' γ γ' T0 T1 w w' ∧ R3 Z' β' γ' T1 w' P r v
/-- What a call that has to do with values alone does. -/
def PC (P : Program) (f : FuncId) (args : List AV) (r : AV) : Prop :=
  ∀ (Z : Zs) (w : World) (vs : Array Value), (∀ b o, Z b o → b < w.heap.size) → args.length = vs.size → (∀ i, i < args.length → DR Z w (args.getD i .dead) (vs.getD i undef)) →
    Calls P f vs w fun e w' => ∃ v Z', e = .returned v ∧ Grow w w' ∧ ZExt Z Z' w w' ∧ (∀ b o, Z' b o → Z b o ∨ w.heap.size ≤ b) ∧ (∀ b o, Z' b o → b < w'.heap.size) ∧ DR Z' w' r v
/-- The calls' contracts. -/
def OKF (P : Program) (cf : CallF) : Prop := ∀ f args S T r S' T', cf f args S T = some (r, S', T') → Fun P f ∧ FC P f args S T r S' T'
section
variable {P : Program} {w0 : World} {Z0 : Zs} {M0 : Nat → Prop} {Z Z' : Zs} {β : List Nat} {γ : List Value} {S : Obs} {T : Toks} {w w' : World}
theorem d2_nt {a : AV} (h : d2 a = true) : ∀ l, s2 a ≠ .tup l := by
  intro l
  cases a with
  | tup l' => simp [d2, d1, d0] at h
  | _ => simp [s2, s1, s0]
theorem d2_s2 {a : AV} (h : d2 a = true) : d2 (s2 a) = true := by
  cases a with
  | agg cs =>
    simp only [d2, s2, List.all_map, List.all_eq_true] at h ⊢
    intro x hx
    have := h x hx
    cases x with
    | fn f c =>
      simp only [d1, Function.comp, s1, List.all_map, List.all_eq_true] at this ⊢
      intro y hy
      exact d0_s0 (this y hy)
    | _ => revert this; simp [d1, s1, s0, d0]
  | fn f c =>
    simp only [d2, d1, s2, s1, List.all_map, List.all_eq_true] at h ⊢
    intro y hy
    exact d0_s0 (h y hy)
  | _ => revert h; simp [d2, d1, d0, s2, s1, s0]
theorem DR.r3' {a : AV} {v : Value} (h : DR Z w a v) (hd : d2 a = true) : R3 Z β γ T w P (Ev.s2 a) v := (DR.r2 h).r3 (d2_nt hd)
/-- A call on values alone, from what the callee does on its own. -/
theorem FC.pure {f : FuncId} {args : List AV} {r : AV} {S1 : Obs} {T1 : Toks} (h : FC P f args [] [] r S1 T1) (ha : args.all d2 = true) (hs : ∀ i, i < args.length → s2 (args.getD i .dead) = args.getD i .dead) (hd : d3 r = true) : PC P f args r := by
  intro Z w vs hz hl hR
  have E : EN P w Z (fun _ => False) Z [] [] [] [] w := ⟨.refl _ _, .refl _ _, fun b o h _ => .inl h, hz, rfl, rfl, fun id o h => by simp at h, fun i j g h => by simp at h, fun τ e h => by simp at h, fun τ σ e f u v g h => by simp at h⟩
  refine (h w Z _ Z [] [] w vs E hl (fun i hi => ?_)).mono ?_
  · have h1 := (hR i hi).r3' (P := P) (β := []) (γ := []) (T := []) (all_getD ha hi)
    rw [hs i hi] at h1; exact h1
  · rintro e w' ⟨v, Z', β', γ', rfl, E', X', hR'⟩
    refine ⟨v, Z', rfl, E'.kp, X'.z, fun b o hz' => ?_, E'.zs, hR'.dr hd⟩
    by_cases hb : b < w.heap.size
    · rcases E'.zn b o hz' hb with h | h
      · exact .inl h
      · exact h.elim
    · exact .inr (by omega)
theorem s0_idem (a : AV) : s0 (s0 a) = s0 a := by cases a <;> rfl
theorem s1_idem (a : AV) : s1 (s1 a) = s1 a := by
  cases a with
  | fn f c => simp [s1, s0_idem]
  | _ => rfl
theorem s2_idem (a : AV) : s2 (s2 a) = s2 a := by
  cases a with
  | agg c => simp [s2, s1_idem]
  | fn f c => simp [s2, s1, s0_idem]
  | _ => rfl
/-- .. made from anywhere. -/
theorem PC.fc {f : FuncId} {args : List AV} {r : AV} (h : PC P f (args.map s2) r) (ha : args.all d2 = true) (S : Obs) (T : Toks) : FC P f args S T (s3 r) S T := by
  intro w0 Z0 M0 Z β γ w vs E hl hR
  refine (h Z w vs E.zs (by simpa using hl) (fun i hi => ?_)).mono ?_
  · have hi' : i < args.length := by simpa using hi
    rw [getD_map_lt hi']
    have hd := all_getD ha hi'
    have h1 := hR i hi'
    have h2 : DR Z w (args.getD i .dead) (vs.getD i undef) := by
      refine R3.dr h1 ?_
      generalize args.getD i .dead = q at hd ⊢
      cases q with
      | tup l => simp [d2, d1, d0] at hd
      | _ => exact hd
    exact h2.s2
  · rintro e w' ⟨v, Z', rfl, G, X, h1, h2, hD⟩
    obtain ⟨E', X'⟩ := E.grow G X.sub h1 h2
    exact ⟨v, Z', β, γ, rfl, E', X', hD.r3⟩
theorem evCall_sound {cf : CallF} (hcf : OKF P cf) {f : FuncId} {args : List AV} {r : AV} {S S' : Obs} {T T' : Toks} (h : evCall cf f args S T = some (r, S', T')) : Fun P f ∧ FC P f args S T r S' T' := by
  unfold evCall at h
  split at h
  · rename_i ha
    split at h
    · rename_i r' S1 T1 hc
      split at h
      · rename_i hd
        simp only [Option.some.injEq, Prod.mk.injEq] at h
        obtain ⟨rfl, rfl, rfl⟩ := h
        obtain ⟨h1, h2⟩ := hcf _ _ _ _ _ _ _ hc
        refine ⟨h1, PC.fc (h2.pure ?_ ?_ hd) ha _ _⟩
        · simp only [List.all_map, List.all_eq_true]
          exact fun x hx => d2_s2 (List.all_eq_true.mp ha x hx)
        · intro i hi
          have hi' : i < args.length := by simpa using hi
          rw [getD_map_lt hi', s2_idem]
      · cases h
    · cases h
  · exact hcf _ _ _ _ _ _ _ h
theorem callFunc_run {f : FuncId} (hf : Fun P f) (args : Array Value) : (callFunc f args).run P w = .ok (.enter f args) w := by
  obtain ⟨fn, h1, h2, h3⟩ := hf
  obtain ⟨c, h4⟩ := Option.isSome_iff_exists.1 h3
  simp [callFunc, h1, h2, h4]
/-- What is known behind a step. -/
def After (P : Program) (w0 : World) (Z0 : Zs) (M0 : Nat → Prop) (Z : Zs) (β : List Nat) (γ : List Value) (T : Toks) (w : World) (s' : St) (a' : Act) (w' : World) : Prop :=
  ∃ Z' β' γ', EN P w0 Z0 M0 Z' β' γ' s'.S s'.T w' ∧ FR P Z' β' γ' s'.T w' s'.fr a' ∧ VX Z Z' β β' γ γ' T s'.T w w'
theorem After.trans {Z' : Zs} {β' : List Nat} {γ' : List Value} {T' : Toks} {w1 w' : World} {s' : St} {a' : Act} (X : VX Z Z' β β' γ γ' T T' w w1) (h : After P w0 Z0 M0 Z' β' γ' T' w1 s' a' w') : After P w0 Z0 M0 Z β γ T w s' a' w' := by
  obtain ⟨Z2, β2, γ2, h1, h2, h3⟩ := h
  exact ⟨Z2, β2, γ2, h1, h2, X.trans h3⟩
theorem evOp_sound {cf : CallF} (hcf : OKF P cf) {o : Oper} {s : St} {a : Act} {Q : Exit → Act → World → Prop} (E : EN P w0 Z0 M0 Z β γ s.S s.T w) (F : FR P Z β γ s.T w s.fr a) {r : AV × Obs × Toks} (h : run1 P cf o s = some r) :
    o.wp P a w (fun a' w' => After P w0 Z0 M0 Z β γ s.T w ⟨put s.fr o.dst r.1, r.2.1, r.2.2⟩ a' w') Q := by
  unfold run1 at h
  split at h
  · rename_i f args hic
    split at h
    case h_2 => cases h
    rename_i g cap hf
    split at h
    case isFalse => cases h
    rename_i hcap
    obtain ⟨r, S1, T1⟩ := r
    obtain ⟨h1, h2⟩ := evCall_sound hcf h
    obtain ⟨dst, op, ty, pos, after, guard⟩ := o
    simp only [isCall] at hic
    split at hic
    case h_2 => cases hic
    rename_i f' args' tys
    simp only [Option.some.injEq, Prod.mk.injEq] at hic
    obtain ⟨rfl, rfl⟩ := hic
    have hF := opd_r F f'
    rw [hf] at hF
    obtain ⟨xs, hv, hl, hR⟩ := hF
    have e : (execOp a.eval ⟨dst, .call ⟨.value f', args', tys⟩, ty, pos, after, guard⟩).run P w = .ok (.enter g (args'.map a.eval ++ xs)) w := by
      simp [execOp, resolve, hv, Deferred.ofValue, invoke, callFunc_run h1]
    unfold Oper.wp
    rw [e, Oper.upon_enter]
    refine (h2 w0 Z0 M0 Z β γ w _ E (by simp [hl]) (fun i hi => ?_)).mono ?_
    · by_cases hlt : i < args'.size
      · have e1 : (args'.toList.map (opd s.fr) ++ cap).getD i .dead = opd s.fr args'[i] := by
          simp [List.getD_eq_getElem?_getD, List.getElem?_append_left, hlt]
        have e2 : (args'.map a.eval ++ xs).getD i undef = a.eval args'[i] := by
          simp [Array.getD_eq_getD_getElem?, Array.getElem?_append_left, hlt]
        rw [e1, e2]; exact opd_r F _
      · have hi' : i - args'.size < cap.length := by simp at hi; omega
        have e1 : (args'.toList.map (opd s.fr) ++ cap).getD i .dead = cap.getD (i - args'.size) .dead := by
          simp [List.getD_eq_getElem?_getD, List.getElem?_append_right, Nat.le_of_not_lt hlt]
        have e2 : (args'.map a.eval ++ xs).getD i undef = xs.getD (i - args'.size) undef := by
          simp [Array.getD_eq_getD_getElem?, Array.getElem?_append_right, Nat.le_of_not_lt hlt]
        rw [e1, e2]
        have := hR _ hi'
        have hok := all_getD hcap hi'
        generalize cap.getD (i - args'.size) .dead = q at this hok ⊢
        cases q with
        | fn f c => cases hok
        | agg c => cases hok
        | tup c => cases hok
        | _ => exact this
    · rintro e w' ⟨v, Z', β', γ', rfl, E', X', hR'⟩
      exact ⟨Z', β', γ', E', (F.ext X').put dst hR', X'⟩
  · rename_i hic
    obtain ⟨x, S1, T1⟩ := r
    obtain ⟨n, v, w', Z', β', γ', hrun, hn, E', X', hR⟩ := core_sound E F o h
    unfold Oper.wp
    rw [hrun]
    rcases hn with rfl | ⟨rfl, rfl⟩
    · exact ⟨Z', β', γ', E', (F.ext X').put o.dst hR, X'⟩
    · exact ⟨Z', β', γ', E', (F.ext X').put o.dst hR, X'⟩
end
end Go.Proofs.Ytjfaafnngloblaa.Ev
