/- Rows of operations in the order of the text; what is left behind a call. No condition. -/
import Derived.Test.YtjfaafnngloblaaEvE
namespace Go.Proofs.Ytjfaafnngloblaa.Ev
open Go
set_option linter.unusedVariables false
set_option linter.unusedSimpArgs false
section
variable {P : Program} {w0 : World} {Z0 : Zs} {M0 : Nat → Prop} {Z Z' : Zs} {β : List Nat} {γ : List Value} {S : Obs} {T : Toks} {w w' : World}
theorem wantA_ok {ops : Array Oper} {o : Oper} {fr : List AV} {a : Act} (F : FR P Z β γ T w fr a) {b : Bool} (h : wantA ops o fr = some b) : Region.wanted o (yielded ops a.tmps) = b := by
  unfold wantA at h
  split at h
  · rename_i hg
    simp only [Option.some.injEq] at h
    subst h
    simp [Region.wanted, hg]
  · rename_i j want hg
    split at h
    case h_2 => cases h
    rename_i g hj
    split at h
    case h_2 => cases h
    rename_i t ht
    have hlt : ∀ x, fr.getD t .dead = x → x ≠ .dead → t < fr.length := by
      intro x hx hne
      by_cases hh : t < fr.length
      · exact hh
      · exfalso; apply hne; rw [← hx]; simp [List.getD_eq_getElem?_getD, List.getElem?_eq_none (Nat.le_of_not_lt hh)]
    split at h
    · rename_i c hc
      have ht' := hlt _ hc (by simp)
      have hv := F.tv t ht'
      rw [hc] at hv
      obtain ⟨hv, _⟩ := hv.v_inv
      have ht2 : t < a.tmps.size := by rw [← F.tl]; exact ht'
      have e : a.tmps[t]? = some (.bool c) := by
        rw [Array.getElem?_eq_getElem ht2]
        simpa [Array.getD, ht2] using hv
      simp only [Option.some.injEq] at h
      subst h
      simp only [Region.wanted, hg, yielded, hj, Option.bind_some, ht, e]
      cases c <;> cases want <;> rfl
    · rename_i hc
      have ht' := hlt _ hc (by simp)
      have hv := F.tv t ht'
      rw [hc] at hv
      obtain ⟨xs, hv, hl, _⟩ := hv
      have hx : xs = #[] := Array.eq_empty_of_size_eq_zero (by simpa using hl.symm)
      subst hx
      have ht2 : t < a.tmps.size := by rw [← F.tl]; exact ht'
      have e : a.tmps[t]? = some (.tuple #[]) := by
        rw [Array.getElem?_eq_getElem ht2]
        simpa [Array.getD, ht2] using hv
      simp only [Option.some.injEq] at h
      subst h
      simp only [Region.wanted, hg, yielded, hj, Option.bind_some, ht, e]
      cases want <;> rfl
    · cases h
theorem R3.undef : R3 Z β γ T w P (.tup []) undef := ⟨#[], rfl, rfl, fun i hi => absurd hi (by simp)⟩
/-- One operation of a region. -/
theorem evG_sound {cf : CallF} (hcf : OKF P cf) {ops : Array Oper} {o : Oper} {s s' : St} {a : Act} {Q : Exit → Act → World → Prop} (E : EN P w0 Z0 M0 Z β γ s.S s.T w) (F : FR P Z β γ s.T w s.fr a) (h : evG P cf ops o s = some s')
    (K : Act → World → Prop) (hK : ∀ a' w', After P w0 Z0 M0 Z β γ s.T w s' a' w' → K a' w') : if Region.wanted o (yielded ops a.tmps) = true then o.wp P a w K Q else K (a.put o.dst undef) w := by
  obtain ⟨r, hr, rfl⟩ := Option.map_eq_some_iff.1 h
  clear h
  unfold exO at hr
  split at hr
  rename_i b hw
  cases b with
  | true =>
    simp only [if_true] at hr
    rw [wantA_ok F hw, if_pos rfl]
    exact Oper.wp_mono hK (evOp_sound hcf E F hr)
  | false =>
    simp only [Bool.false_eq_true, if_false, Option.some.injEq] at hr
    subst hr
    rw [wantA_ok F hw, if_neg (by simp)]
    exact hK _ _ ⟨Z, β, γ, E, F.put o.dst .undef, .refl _ _ _ _ _⟩
  · cases hr
theorem evOps_sound {cf : CallF} (hcf : OKF P cf) {ops : Array Oper} {Q : Exit → Act → World → Prop} {s' : St} : ∀ (l : List Oper) {s : St} {a : Act} {Z : Zs} {β : List Nat} {γ : List Value} {w : World}, EN P w0 Z0 M0 Z β γ s.S s.T w → FR P Z β γ s.T w s.fr a → evOps P cf ops l s = some s' →
    (∀ a' w', After P w0 Z0 M0 Z β γ s.T w s' a' w' → Q .normal a' w') → wpList P ops Q l a w
  | [], s, a, Z, β, γ, w, E, F, h, hQ => by
    simp only [evOps, Option.some.injEq] at h
    subst h
    exact wpList_nil (hQ _ _ ⟨Z, β, γ, E, F, .refl _ _ _ _ _⟩)
  | o :: l, s, a, Z, β, γ, w, E, F, h, hQ => by
    simp only [evOps] at h
    split at h
    · rename_i s1 h1
      refine wpList_step fun K hK => ?_
      refine evG_sound hcf E F h1 K fun a1 w1 hA => hK _ _ ?_
      obtain ⟨Z1, β1, γ1, E1, F1, X1⟩ := hA
      exact evOps_sound hcf l E1 F1 h fun a' w' hA => hQ _ _ (hA.trans X1)
    · cases h
/-! ### Objects left behind -/
theorem R0.cut {n : Nat} {a : AV} {v : Value} (h : R0 Z β γ T w P a v) (hp : p0 n a = true) : R0 Z (β.take n) γ T w P a v := by
  cases a with
  | ptr id off =>
    obtain ⟨g, h1, h2⟩ := h
    have hid : id < n := by simpa [p0] using hp
    exact ⟨g, by rw [List.getElem?_take, if_pos hid]; exact h1, h2⟩
  | _ => exact h
theorem R1.cut {n : Nat} {a : AV} {v : Value} (h : R1 Z β γ T w P a v) (hp : p1 n a = true) : R1 Z (β.take n) γ T w P a v := by
  cases a with
  | fn f c => obtain ⟨xs, h1, h2, h3⟩ := h; exact ⟨xs, h1, h2, fun i hi => (h3 i hi).cut (all_getD (l := c) hp hi)⟩
  | _ => simp only [R1] at h ⊢; exact h.cut hp
theorem R2.cut {n : Nat} {a : AV} {v : Value} (h : R2 Z β γ T w P a v) (hp : p2 n a = true) : R2 Z (β.take n) γ T w P a v := by
  cases a with
  | agg c => obtain ⟨xs, h1, h2, h3⟩ := h; exact ⟨xs, h1, h2, fun i hi => (h3 i hi).cut (all_getD (l := c) hp hi)⟩
  | _ => simp only [R2] at h ⊢; exact R1.cut h hp
theorem R3.cut {n : Nat} {a : AV} {v : Value} (h : R3 Z β γ T w P a v) (hp : p3 n a = true) : R3 Z (β.take n) γ T w P a v := by
  cases a with
  | tup c => obtain ⟨xs, h1, h2, h3⟩ := h; exact ⟨xs, h1, h2, fun i hi => (h3 i hi).cut (all_getD (l := c) hp hi)⟩
  | _ => simp only [R3] at h ⊢; exact R2.cut h hp
theorem d1_p1 {n : Nat} {a : AV} (h : d1 a = true) : p1 n a = true := by
  cases a with
  | fn f c =>
    simp only [d1, p1, List.all_eq_true] at h ⊢
    intro x hx
    have := h x hx
    cases x <;> first | rfl | exact absurd this (by simp [d0])
  | ptr id off => exact absurd h (by simp [d1, d0])
  | _ => rfl
theorem EN.cut (E : EN P w0 Z0 M0 Z β γ S T w) {n : Nat} (hS : (S.take n).all (okOb n) = true) : EN P w0 Z0 M0 Z (β.take n) γ (S.take n) T w := by
  refine ⟨E.kp, E.zc, E.zn, E.zs, by simp [E.bl], E.gl, ?_, ?_, ?_, E.ti⟩
  · intro id o ho
    have hok : okOb n o = true := List.all_eq_true.mp hS o (List.mem_of_getElem? ho)
    rw [List.getElem?_take] at ho
    split at ho
    · rename_i hid
      obtain ⟨g, cur, e, a1, a2, a3, a4, a5, a6, a7⟩ := E.ob id o ho
      refine ⟨g, cur, e, by rw [List.getElem?_take, if_pos hid]; exact a1, a2, a3, a4, fun j hj => (a5 j hj).cut ?_, a6, a7⟩
      simp only [okOb, Bool.or_eq_true] at hok
      rcases hok with h | h
      · exact d1_p1 (all_getD (a7 h) hj)
      · exact all_getD h hj
    · cases ho
  · intro i j g hi hj
    rw [List.getElem?_take] at hi hj
    split at hi
    · split at hj
      · exact E.bi i j g hi hj
      · cases hj
    · cases hi
  · intro τ e he
    obtain ⟨v, hv, a, m, c, rfl, h⟩ := E.tk τ e he
    refine ⟨_, hv, a, m, c, rfl, ?_⟩
    rcases h with h | ⟨g, cur, k, b1, b2, b3, b4, b5, b6, b7, b8, b9⟩
    · exact .inl h
    · exact .inr ⟨g, cur, k, b1, b2, b3, b4, b5, b6, b7, b8, fun hm => b9 (List.mem_of_mem_take hm)⟩
/-- What comes out of a function. -/
theorem fin_sound {Z' : Zs} {β' : List Nat} {γ' : List Value} {T' : Toks} {S0 S1 S' : Obs} {T1 : Toks} {r x : AV} {v : Value} (h : fin S0 r S1 T1 = (x, S', T')) (hb : β.length = S0.length) (E : EN P w0 Z0 M0 Z' β' γ' S1 T1 w') (X : VX Z Z' β β' γ γ' T T1 w w') (hr : R3 Z' β' γ' T1 w' P r v) :
    ∃ β'', EN P w0 Z0 M0 Z' β'' γ' S' T' w' ∧ VX Z Z' β β'' γ γ' T T' w w' ∧ R3 Z' β'' γ' T' w' P x v := by
  unfold fin at h
  split at h
  · rename_i hc
    simp only [Bool.and_eq_true] at hc
    simp only [Prod.mk.injEq] at h
    obtain ⟨rfl, rfl, rfl⟩ := h
    refine ⟨β'.take S0.length, E.cut hc.2, ⟨X.z, fun id g hg => ?_, X.l, X.t⟩, hr.cut hc.1⟩
    have hid : id < S0.length := by rw [← hb]; exact (List.getElem?_eq_some_iff.1 hg).1
    rw [List.getElem?_take, if_pos hid]
    exact X.b id g hg
  · simp only [Prod.mk.injEq] at h
    obtain ⟨rfl, rfl, rfl⟩ := h
    exact ⟨β', E, X, hr⟩
/-! ### Results -/
def rvS (tmps : Array Value) : ResultVar → Sem Value
  | .tmp t => pure (tmps.getD t undef)
  | .cell a t => do loadVar t (← asAddr (tmps.getD a undef))
theorem results_eq (fn : Func) (tmps : Array Value) : results fn tmps = (do let vs ← fn.results.mapM (rvS tmps); pure (if h : vs.size = 1 then vs[0] else .tuple vs)) := by
  have e : (fun r : ResultVar => (match r with | .tmp t => pure (tmps.getD t undef) | .cell a t => do loadVar t (← asAddr (tmps.getD a undef)) : Sem Value)) = rvS tmps := by
    funext r
    cases r <;> rfl
  rw [← e]
  rfl
def rt : List AV → AV
  | [x] => x
  | l => .tup l
theorem resA_run (E : EN P w0 Z0 M0 Z β γ S T w) {fr : List AV} {a : Act} (F : FR P Z β γ T w fr a) {x : AV} {r : ResultVar} (h : resA P ⟨fr, S, T⟩ r = some x) :
    ∃ v, (rvS a.tmps r).run P w = .ok v w ∧ R3 Z β γ T w P x v := by
  cases r with
  | tmp t =>
    simp only [resA, Option.some.injEq] at h
    subst h
    exact ⟨_, rfl, opd_r F (.tmp t)⟩
  | cell d t =>
    simp only [resA] at h
    split at h
    case h_2 => cases h
    rename_i ag n hag hn
    split at h
    case isFalse => cases h
    rename_i hc
    split at h
    case h_2 => cases h
    rename_i cs hcs
    have hd : R3 Z β γ T w P (fr.getD d .dead) (a.tmps.getD d undef) := opd_r F (.tmp d)
    obtain ⟨b, o, hv, _⟩ := rdc_r E hd hcs
    obtain ⟨u, _, hr, hR⟩ := load_run E hd hag hn hc hcs h
    refine ⟨u, ?_, hR⟩
    show (do loadVar t (← asAddr (a.tmps.getD d undef)) : Sem Value).run P w = .ok u w
    rw [hv] at hr ⊢
    simp only [Instr.loadAt, Instr.sureAddr, Sem.run_bind, Sem.run_pure, Result.andThen_ok] at hr
    simp [asAddr, hr]
theorem nt_ne {x : AV} (h : nt x = true) : ∀ l, x ≠ .tup l := by
  intro l e; subst e; cases h
theorem resL_run (E : EN P w0 Z0 M0 Z β γ S T w) {fr : List AV} {a : Act} (F : FR P Z β γ T w fr a) : ∀ (l : List ResultVar) {xs : List AV}, resL P ⟨fr, S, T⟩ l = some xs →
    ∃ vs, (l.mapM (rvS a.tmps)).run P w = .ok vs w ∧ xs.length = vs.length ∧ (∀ i, i < xs.length → R2 Z β γ T w P (xs.getD i .dead) (vs.getD i undef)) ∧ ∀ x ∈ xs, nt x = true
  | [], xs, h => by
    simp only [resL, Option.some.injEq] at h
    subst h
    exact ⟨[], by simp, rfl, fun i hi => absurd hi (by simp), fun x hx => absurd hx (by simp)⟩
  | r :: l, xs, h => by
    simp only [resL] at h
    split at h
    case h_2 => cases h
    rename_i x xs' h1 h2
    split at h
    case isFalse => cases h
    rename_i hnt
    simp only [Option.some.injEq] at h
    subst h
    obtain ⟨v, hv, hR⟩ := resA_run E F h1
    obtain ⟨vs, hvs, hl, hRs, hns⟩ := resL_run E F l h2
    refine ⟨v :: vs, ?_, by simp [hl], fun i hi => ?_, fun y hy => ?_⟩
    · rw [List.mapM_cons]
      simp [hv, hvs]
    · cases i with
      | zero => exact R3.r2 hR ⟨nt_ne hnt [], nt_ne hnt⟩
      | succ i => exact hRs i (by simpa using hi)
    · rcases List.mem_cons.1 hy with rfl | hy
      · exact hnt
      · exact hns y hy
theorem results_run (E : EN P w0 Z0 M0 Z β γ S T w) {fr : List AV} {a : Act} (F : FR P Z β γ T w fr a) {fn : Func} {xs : List AV} (h : resL P ⟨fr, S, T⟩ fn.results.toList = some xs) :
    ∃ v, (results fn a.tmps).run P w = .ok v w ∧ R3 Z β γ T w P (rt xs) v := by
  obtain ⟨vs, hvs, hl, hR, hns⟩ := resL_run E F fn.results.toList h
  rw [← Array.toList_mapM] at hvs
  simp only [Sem.run_map] at hvs
  obtain ⟨q, hq, hqv⟩ : ∃ q : Array Value, (fn.results.mapM (rvS a.tmps)).run P w = .ok q w ∧ q.toList = vs := by
    generalize (fn.results.mapM (rvS a.tmps)).run P w = z at hvs
    cases z with
    | ok q w1 =>
      simp only [Result.andThen_ok, Result.ok.injEq] at hvs
      obtain ⟨h1, rfl⟩ := hvs
      exact ⟨q, rfl, h1⟩
    | halt => cases hvs
  have hres : (results fn a.tmps).run P w = .ok (if h : q.size = 1 then q[0] else .tuple q) w := by
    rw [results_eq]
    simp only [Sem.run_bind, hq, Result.andThen_ok, Sem.run_pure]
  have hqs : q.size = vs.length := by rw [← hqv]; simp
  rw [hres]
  refine ⟨_, rfl, ?_⟩
  match xs, hl, hR, hns with
  | [x], hl, hR, hns =>
    have h1 : q.size = 1 := by rw [hqs, ← hl]; rfl
    rw [dif_pos h1]
    have h0 := hR 0 (by simp)
    have e : vs.getD 0 undef = q[0] := by
      subst hqv; simp [List.getD_eq_getElem?_getD, h1]
    rw [e] at h0
    exact R2.r3 h0 (nt_ne (hns x (by simp)))
  | [], hl, hR, hns =>
    have h1 : ¬ q.size = 1 := by rw [hqs, ← hl]; simp
    rw [dif_neg h1]
    exact ⟨q, rfl, by rw [hqs, ← hl], fun i hi => absurd hi (by simp)⟩
  | x :: y :: l, hl, hR, hns =>
    have h1 : ¬ q.size = 1 := by rw [hqs, ← hl]; simp
    rw [dif_neg h1]
    refine ⟨q, rfl, by rw [hqs, ← hl], fun i hi => ?_⟩
    have := hR i hi
    rw [← hqv] at this
    simpa [List.getD_eq_getElem?_getD, Array.getD_eq_getD_getElem?] using this
end
end Go.Proofs.Ytjfaafnngloblaa.Ev
