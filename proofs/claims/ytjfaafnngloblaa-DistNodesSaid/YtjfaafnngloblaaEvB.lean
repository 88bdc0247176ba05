/- Append, whole. No condition. -/
import Derived.Test.YtjfaafnngloblaaEvA
namespace Go.Proofs.Ytjfaafnngloblaa.Ev
open Go
set_option linter.unusedVariables false
set_option linter.unusedSimpArgs false
section
variable {P : Program} {w0 : World} {Z0 : Zs} {M0 : Nat → Prop} {Z Z' : Zs} {β : List Nat} {γ : List Value} {S : Obs} {T : Toks} {w w' : World}
/-- A slice to which nothing is appended. -/
theorem EN.same (E : EN P w0 Z0 M0 Z β γ S T w) {o : Tok} {e : TypeId} {v : Value} (hO : OwnS P Z β M0 w0.heap.size w e v) (ho : (∃ k, o = .own k ∧ T[k]? = some (some e) ∧ γ[k]? = some v) ∨ spare v = none) :
    EN P w0 Z0 M0 Z β (γ ++ [v]) S (killT T o e) w ∧ VX Z Z β β γ (γ ++ [v]) T (killT T o e) w w := by
  have X : VX Z Z β β γ (γ ++ [v]) T (killT T o e) w w := by
    refine ⟨.refl _ _, fun _ _ h => h, by rw [killT_len]; omega, fun τ f' hτ hk => ?_⟩
    obtain ⟨hT, _⟩ := killT_lt hτ hk
    exact ⟨hT, List.getElem?_append_left (by rw [E.gl]; exact hτ)⟩
  have hoth : ∀ τ f' u g, τ < T.length → (killT T o e)[τ]? = some (some f') → γ[τ]? = some u → spare v = some g → spare u ≠ some g := by
    intro τ f' u g hτ hk hu hs hsu
    obtain ⟨hT, hne⟩ := killT_lt hτ hk
    rcases ho with ⟨k, rfl, q1, q2⟩ | ho
    · have := E.ti τ k f' e u v g hT q1 hu q2 hsu hs
      subst this; exact hne rfl
    · rw [ho] at hs; cases hs
  refine ⟨⟨E.kp, E.zc, E.zn, E.zs, E.bl, by rw [killT_len, List.length_append, E.gl]; rfl, ?_, E.bi, ?_, ?_⟩, X⟩
  · intro id ob hob
    obtain ⟨g1, cur1, e1, b1, b2, b3, b4, b5, b6, b7⟩ := E.ob id ob hob
    exact ⟨g1, cur1, e1, b1, b2, b3, b4, fun j hj => (b5 j hj).ext X, b6, b7⟩
  · intro τ f' hk
    by_cases hτ : τ < T.length
    · obtain ⟨hT, _⟩ := killT_lt hτ hk
      obtain ⟨u, hu, h⟩ := E.tk τ f' hT
      exact ⟨u, by rw [List.getElem?_append_left (by rw [E.gl]; exact hτ)]; exact hu, h⟩
    · obtain ⟨rfl, rfl⟩ := killT_ge hτ hk
      exact ⟨v, by rw [← E.gl, List.getElem?_append_right (Nat.le_refl _)]; simp, hO⟩
  · intro τ σ e1 f1 u u' g1 hτ hσ hu hv hsu hsv
    have hnew : ∀ {τ : Nat} {e1 : TypeId} {u : Value}, ¬ τ < T.length → (killT T o e)[τ]? = some (some e1) → (γ ++ [v])[τ]? = some u → τ = T.length ∧ u = v := by
      intro τ e1 u h1 h2 h3
      obtain ⟨rfl, _⟩ := killT_ge h1 h2
      rw [← E.gl, List.getElem?_append_right (Nat.le_refl _)] at h3
      simp only [Nat.sub_self, List.getElem?_cons_zero, Option.some.injEq] at h3
      exact ⟨rfl, h3.symm⟩
    by_cases q1 : τ < T.length
    · rw [List.getElem?_append_left (by rw [E.gl]; exact q1)] at hu
      by_cases q2 : σ < T.length
      · rw [List.getElem?_append_left (by rw [E.gl]; exact q2)] at hv
        exact E.ti τ σ e1 f1 u u' g1 (killT_lt q1 hτ).1 (killT_lt q2 hσ).1 hu hv hsu hsv
      · obtain ⟨_, rfl⟩ := hnew q2 hσ hv
        exact absurd hsu (hoth τ e1 u g1 q1 hτ hu hsv)
    · obtain ⟨rfl, rfl⟩ := hnew q1 hτ hu
      by_cases q2 : σ < T.length
      · rw [List.getElem?_append_left (by rw [E.gl]; exact q2)] at hv
        exact absurd hsv (hoth σ f1 u' g1 q2 hσ hv hsu)
      · exact (hnew q2 hσ hv).1.symm
theorem DR.one {a : AV} {v : Value} (h : DR Z w a v) (hd : d1 a = true) : v.oneCell' = true := by
  cases h with
  | v x h => cases v <;> first | rfl | exact absurd h (by simp [plainV])
  | agg => simp [d1, d0] at hd
  | tup => simp [d1, d0] at hd
  | dead => simp [d1, d0] at hd
  | _ => rfl
theorem d2_cells {a : AV} (h : d2 a = true) : ∀ j, j < a.cells.length → d1 (a.cells.getD j .dead) = true := by
  intro j hj
  cases a with
  | agg cs => exact all_getD (l := cs) h hj
  | _ =>
    have : j = 0 := by simpa [AV.cells] using hj
    subst this
    exact h
theorem uni_append {n : Nat} {l m : List AV} : uni n (l ++ m) = (uni n l && uni n m) := by simp [uni]
theorem app_run (E : EN P w0 Z0 M0 Z β γ S T w) {t ty : TypeId} {s x y : AV} {v u : Value} {T' : Toks} (hs : R3 Z β γ T w P s v) (hx : R3 Z β γ T w P x u) (h : appA P t s x T = some (y, T')) :
    ∃ r w' Z' γ', (Builtin.append_ #[t, t] ty #[v, u]).run P w = .ok r w' ∧ EN P w0 Z0 M0 Z' β γ' S T' w' ∧ VX Z Z' β β γ γ' T T' w w' ∧ R3 Z' β γ' T' w' P y r := by
  unfold appA at h
  split at h
  case h_2 => cases h
  rename_i o l o2 m
  split at h
  case h_2 => cases h
  rename_i e he
  split at h
  case h_2 => cases h
  rename_i n b z hn hb hz
  split at h
  case isFalse => cases h
  rename_i hc
  obtain ⟨c1, c2, c3, c4, c5, c6⟩ := hc
  have ht := tel_inv he
  have hdv : DR Z w (.sl o l) v := hs.1
  have hdu : DR Z w (.sl o2 m) u := hx.1
  -- what each right means
  have key : (y = .sl (.own T.length) (l ++ m) ∧ T' = killT T o e) ∧ uni n l = true ∧ OwnS P Z β M0 w0.heap.size w e v ∧ ((∃ k, o = .own k ∧ T[k]? = some (some e) ∧ γ[k]? = some v) ∨ spare v = none) := by
    cases o with
    | no => simp at h
    | nil =>
      simp only at h
      split at h
      case isFalse => cases h
      rename_i hl
      have hl' : l = [] := List.eq_nil_of_length_eq_zero hl
      subst hl'
      simp only [Option.some.injEq, Prod.mk.injEq] at h
      obtain ⟨rfl, rfl⟩ := h
      have hv : v = .slice none 0 0 := hs.2
      subst hv
      exact ⟨⟨by simp, rfl⟩, rfl, ⟨none, 0, 0, rfl, .inl ⟨rfl, fun _ => rfl⟩⟩, .inr rfl⟩
    | full =>
      simp only at h
      split at h
      case isFalse => cases h
      rename_i hl
      simp only [Option.some.injEq, Prod.mk.injEq] at h
      obtain ⟨rfl, rfl⟩ := h
      obtain ⟨a, rfl⟩ := hs.2
      refine ⟨⟨rfl, rfl⟩, hl, ⟨a, l.length, l.length, rfl, .inl ⟨rfl, fun ha => ?_⟩⟩, .inr (by cases a <;> simp [spare])⟩
      subst ha
      rcases hdv.sl_inv with ⟨rfl, _⟩ | ⟨_, _, _, _, _, h1, _⟩
      · rfl
      · cases h1
    | own k =>
      simp only at h
      split at h
      case isFalse => cases h
      rename_i hk
      simp only [Option.some.injEq, Prod.mk.injEq] at h
      obtain ⟨rfl, rfl⟩ := h
      obtain ⟨h1, h2⟩ := hs.2
      obtain ⟨h3, h4⟩ := h2 e hk
      obtain ⟨v', hv', hO⟩ := E.tk k e hk
      rw [h3] at hv'
      obtain rfl := Option.some.inj hv'
      rw [hn] at h4
      exact ⟨⟨rfl, rfl⟩, h4, hO, .inl ⟨k, rfl, hk, h3⟩⟩
  obtain ⟨⟨rfl, rfl⟩, hul, hO, hoo⟩ := key
  clear h
  have hres : ∀ {Z' : Zs} {γ' : List Value} {w' : World} {r : Value}, γ'[T.length]? = some r → DR Z' w' (.sl (.own T.length) (l ++ m)) r → R3 Z' β γ' (killT T o e) w' P (.sl (.own T.length) (l ++ m)) r := by
    intro Z' γ' w' r h1 h2
    refine ⟨h2, by rw [killT_len]; omega, fun e' he' => ⟨h1, ?_⟩⟩
    rw [killT_new] at he'
    simp only [Option.some.injEq] at he'
    subst he'
    rw [hn]
    show uni n (l ++ m) = true
    rw [uni_append, hul, c3]; rfl
  have hlast : ∀ r : Value, (γ ++ [r])[T.length]? = some r := fun r => by rw [← E.gl, List.getElem?_append_right (Nat.le_refl _)]; simp
  obtain ⟨A, len, cc, rfl, hlen, hcc⟩ : ∃ A len c, v = .slice A len c ∧ len = l.length ∧ l.length ≤ c := by
    rcases hdv.sl_inv with ⟨rfl, _, _, rfl, _⟩ | ⟨b', p', c', k', xs, rfl, h1, _⟩
    · exact ⟨_, _, _, rfl, rfl, Nat.zero_le _⟩
    · exact ⟨_, _, _, rfl, rfl, h1⟩
  subst hlen
  by_cases hm : m = []
  · subst hm
    obtain ⟨B, c', rfl⟩ : ∃ B c, u = .slice B 0 c := by
      rcases hdu.sl_inv with ⟨_, _, _, rfl, _⟩ | ⟨b', p', c', k', xs, rfl, _⟩
      · exact ⟨_, _, rfl⟩
      · exact ⟨_, _, rfl⟩
    obtain ⟨E', X'⟩ := E.same hO hoo
    refine ⟨_, w, Z, γ ++ [.slice A l.length cc], append_none ht hn hcc (.inr trivial), E', X', hres (hlast _) ?_⟩
    have := (DR.ext X'.z hdv).tok (o' := .own T.length)
    simpa using this
  · rcases hdu.sl_inv with ⟨rfl, _⟩ | ⟨q, p, c', ku, fn, rfl, d1', d2', d3', d4'⟩
    · exact absurd rfl hm
    have hmp : 0 < m.length := by cases m <;> simp_all
    have hku : ku = n := by rw [← d2' 0 hmp, uni_at c3 hmp]
    subst hku
    obtain ⟨fo, hv1, hv2⟩ : ∃ fo : Nat → Nat → Value, ((Value.slice A l.length cc = .slice none 0 0 ∧ l.length = 0) ∨ ∃ ad c, Value.slice A l.length cc = .slice (some ad) l.length c ∧ (∀ i j, i < l.length → j < ku → w.cell? (ad.add (i * ku + j)) = some (fo i j))) ∧
        ∀ i j, i < l.length → j < ku → DR Z w ((l.getD i .dead).cells.getD j .dead) (fo i j) := by
      rcases hdv.sl_inv with ⟨rfl, a0, c0, h1, h2⟩ | ⟨b', p', c'', k', xs, h1, e1, e2, e3, e4⟩
      · refine ⟨fun _ _ => undef, ?_, fun i j hi => absurd hi (by simp)⟩
        cases a0 with
        | none => rw [h2 rfl] at h1; exact .inl ⟨h1, rfl⟩
        | some ad => exact .inr ⟨ad, c0, h1, fun i j hi => absurd hi (by simp)⟩
      · have hk' : ∀ i, i < l.length → k' = ku := fun i hi => by rw [← e2 i hi, uni_at hul hi]
        refine ⟨xs, .inr ⟨⟨b', p', none⟩, c'', h1, fun i j hi hj => ?_⟩, fun i j hi hj => ?_⟩
        · obtain rfl := hk' i hi; rw [Addr.add_lit]; exact (e3 i j hi hj).2
        · obtain rfl := hk' i hi; exact e4 i j hi hj
    have hone : ∀ i j, i < m.length → j < ku → (fn i j).oneCell' = true := fun i j hi hj =>
      (d4' i j hi hj).one (d2_cells (all_getD c4 hi) j (by rw [d2' i hi]; exact hj))
    obtain ⟨r, w', hrun, hG⟩ := append_some (P := P) (ty := ty) ht hn hb hz c2 c1 hv1 hO hmp (fun i j hi hj => (d3' i j hi hj).2) hone c5 c6
    obtain ⟨Z', hz', E', X', g, cg, hr, hcg⟩ := E.chain (o := o) hn hG hoo (fun a n' c'' h => by cases h; omega)
    refine ⟨r, w', Z', γ ++ [r], hrun, E', X', hres (hlast r) ?_⟩
    subst hr
    have hll : l.length + m.length = (l ++ m).length := by simp
    rw [hll]
    have hget1 : ∀ i, i < l.length → (l ++ m).getD i .dead = l.getD i .dead := fun i hi => by simp [List.getD_eq_getElem?_getD, List.getElem?_append_left hi]
    have hget2 : ∀ i, ¬ i < l.length → (l ++ m).getD i .dead = m.getD (i - l.length) .dead := fun i hi => by simp [List.getD_eq_getElem?_getD, List.getElem?_append_right (Nat.le_of_not_lt hi)]
    refine .sl _ (l ++ m) g 0 cg ku (fun i j => if i < l.length then fo i j else fn (i - l.length) j) (by simpa using hcg) (fun i hi => ?_) (fun i j hi hj => ?_) (fun i j hi hj => ?_)
    · by_cases h : i < l.length
      · rw [hget1 i h]; exact uni_at hul h
      · rw [hget2 i h]; exact d2' _ (by simp at hi; omega)
    · exact hz' g 0 cg rfl i j (by simpa using hi) hj
    · by_cases h : i < l.length
      · rw [hget1 i h]
        simp only [if_pos h]
        exact (hv2 i j h hj).ext X'.z
      · rw [hget2 i h]
        simp only [if_neg h]
        exact (d4' _ j (by simp at hi; omega) hj).ext X'.z
end
end Go.Proofs.Ytjfaafnngloblaa.Ev
