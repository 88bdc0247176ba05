/- Append, and new rows. No condition. -/
import Derived.Test.YtjfaafnngloblaaEv9
namespace Go.Proofs.Ytjfaafnngloblaa.Ev
open Go
set_option linter.unusedVariables false
set_option linter.unusedSimpArgs false
section
variable {P : Program} {w0 : World} {Z0 : Zs} {M0 : Nat → Prop} {Z Z' : Zs} {β : List Nat} {γ : List Value} {S : Obs} {T : Toks} {w w' : World}
/-- The chains behind an append: that one is dead, a new one lives. -/
def killT (T : Toks) (o : Tok) (e : TypeId) : Toks := match o with
  | .own k => T.set k none ++ [some e]
  | _ => T ++ [some e]
theorem killT_len (T : Toks) (o : Tok) (e : TypeId) : (killT T o e).length = T.length + 1 := by cases o <;> simp [killT]
theorem killT_lt {T : Toks} {o : Tok} {e : TypeId} {τ : Nat} {f : TypeId} (hτ : τ < T.length) (h : (killT T o e)[τ]? = some (some f)) : T[τ]? = some (some f) ∧ o ≠ .own τ := by
  cases o with
  | own k =>
    simp only [killT] at h
    rw [List.getElem?_append_left (by simpa using hτ)] at h
    by_cases hk : k = τ
    · subst hk
      rw [List.getElem?_set_self hτ] at h
      cases h
    · rw [List.getElem?_set_ne hk] at h
      exact ⟨h, fun e => hk (by injection e)⟩
  | _ =>
    simp only [killT] at h
    rw [List.getElem?_append_left hτ] at h
    exact ⟨h, by simp⟩
theorem killT_new {T : Toks} {o : Tok} {e : TypeId} : (killT T o e)[T.length]? = some (some e) := by
  cases o <;> simp [killT]
theorem killT_ge {T : Toks} {o : Tok} {e f : TypeId} {τ : Nat} (hτ : ¬ τ < T.length) (h : (killT T o e)[τ]? = some (some f)) : τ = T.length ∧ f = e := by
  have hl : τ < (killT T o e).length := (List.getElem?_eq_some_iff.1 h).1
  rw [killT_len] at hl
  have : τ = T.length := by omega
  subst this
  rw [killT_new] at h
  simp only [Option.some.injEq] at h
  exact ⟨rfl, h.symm⟩
/-- A chain that has grown. -/
theorem EN.chain (E : EN P w0 Z0 M0 Z β γ S T w) {o : Tok} {e : TypeId} {n len : Nat} {old r : Value} {f : Nat → Nat → Value} (hn : tsz P e = some n) (hG : Grown P Z β M0 w0.heap.size w w' e n old r len f)
    (ho : (∃ k, o = .own k ∧ T[k]? = some (some e) ∧ γ[k]? = some old) ∨ spare old = none) (hlen : ∀ a n' c', old = .slice a n' c' → n' ≤ len) :
    ∃ Z', (∀ b p c, r = .slice (some ⟨b, p, none⟩) len c → ∀ i j, i < len → j < n → Z' b (p + (i * n + j)) ∧ w'.cell? ⟨b, p + (i * n + j), none⟩ = some (f i j)) ∧
      EN P w0 Z0 M0 Z' β (γ ++ [r]) S (killT T o e) w' ∧ VX Z Z' β β γ (γ ++ [r]) T (killT T o e) w w' ∧ ∃ g c, r = .slice (some ⟨g, 0, none⟩) len c ∧ len ≤ c := by
  obtain ⟨g, cap, cur, rfl, h1, h2, h3, h4, h5, h6⟩ := hG.out
  have hglt : g < w'.heap.size := lt_of_heap h1
  -- the old blocks
  have hkp : Keep (fun k => k = g ∧ k < w.heap.size ∧ spare old = some g ∧ (M0 g ∨ w0.heap.size ≤ g) ∧ g ∉ β) w w' := by
    rcases h6 with ⟨rfl, G⟩ | ⟨a1, a2, a3, a4, a5⟩
    · exact G.weak fun _ _ h => h.elim
    · exact a4.weak fun k hk e => ⟨e, hk, a1, a2, a3⟩
  have hcell : ∀ b p, Z b p → w'.cell? ⟨b, p, none⟩ = w.cell? ⟨b, p, none⟩ := by
    rcases h6 with ⟨rfl, G⟩ | ⟨a1, a2, a3, a4, a5⟩
    · exact fun b p hz => G.cell (E.zs b p hz)
    · exact a5
  have hgβ : g ∉ β := by
    rcases h6 with ⟨rfl, G⟩ | ⟨a1, a2, a3, a4, a5⟩
    · intro hm
      obtain ⟨i, hi⟩ := List.getElem?_of_mem hm
      have hil : i < S.length := by rw [← E.bl]; exact (List.getElem?_eq_some_iff.1 hi).1
      obtain ⟨g', cur', e', c1, _, c3, _⟩ := E.ob i S[i] (List.getElem?_eq_getElem hil)
      rw [hi] at c1
      have := lt_of_heap (c3)
      obtain rfl := Option.some.inj c1
      omega
    · exact a3
  have hgM : M0 g ∨ w0.heap.size ≤ g := by
    rcases h6 with ⟨rfl, G⟩ | ⟨a1, a2, a3, a4, a5⟩
    · exact .inr E.kp.size
    · exact a2
  -- other chains have other blocks
  have hoth : ∀ τ f' v, τ < T.length → (killT T o e)[τ]? = some (some f') → γ[τ]? = some v → spare v ≠ some g := by
    intro τ f' v hτ hk hv hs
    obtain ⟨hT, hne⟩ := killT_lt hτ hk
    rcases h6 with ⟨rfl, G⟩ | ⟨a1, a2, a3, a4, a5⟩
    · obtain ⟨v', hv', a, n', c', rfl, hd⟩ := E.tk τ f' hT
      rw [hv] at hv'
      obtain rfl := Option.some.inj hv'
      rcases hd with ⟨rfl, _⟩ | ⟨g', cur', k', d1, _, d3, _⟩
      · cases a <;> simp [spare] at hs
      · subst d1
        simp only [spare] at hs
        split at hs
        · cases hs
        · simp only [Option.some.injEq] at hs
          have := lt_of_heap d3; omega
    · rcases ho with ⟨k, rfl, hk1, hk2⟩ | ho
      · have := E.ti τ k f' e v old g hT hk1 hv hk2 hs a1
        subst this; exact hne rfl
      · rw [ho] at a1; cases a1
  let Z' : Zs := fun b p => Z b p ∨ (b = g ∧ p < len * n)
  have X : VX Z Z' β β γ (γ ++ [.slice (some ⟨g, 0, none⟩) len cap]) T (killT T o e) w w' := by
    refine ⟨⟨fun b p h => .inl h, hcell⟩, fun _ _ h => h, by rw [killT_len]; omega, fun τ f' hτ hk => ?_⟩
    obtain ⟨hT, _⟩ := killT_lt hτ hk
    exact ⟨hT, List.getElem?_append_left (by rw [E.gl]; exact hτ)⟩
  refine ⟨Z', ?_, ⟨?_, E.zc.trans X.z, ?_, ?_, E.bl, by rw [killT_len, List.length_append, E.gl]; rfl, ?_, E.bi, ?_, ?_⟩, X, g, cap, rfl, h2⟩
  · intro b p c hr i j hi hj
    cases hr
    rw [Nat.zero_add]
    exact ⟨.inr ⟨rfl, idx_lt hi hj⟩, h5 i j hi hj⟩
  · refine ⟨hkp.os.trans E.kp.os, hkp.tape.trans E.kp.tape, hkp.output.trans E.kp.output, Nat.le_trans E.kp.size hkp.size, fun k hk hm => ?_⟩
    rw [hkp.block k (Nat.lt_of_lt_of_le hk E.kp.size) (fun h => by
      obtain ⟨rfl, _, _, h8, _⟩ := h
      rcases h8 with h | h
      · exact hm h
      · omega)]
    exact E.kp.block k hk hm
  · intro b p hz hb
    rcases hz with hz | ⟨rfl, hp⟩
    · exact E.zn b p hz hb
    · rcases hgM with h | h
      · exact .inr h
      · omega
  · intro b p hz
    rcases hz with hz | ⟨rfl, hp⟩
    · have := E.zs b p hz; have := hkp.size; omega
    · exact hglt
  · intro id ob hob
    obtain ⟨g1, cur1, e1, b1, b2, b3, b4, b5, b6, b7⟩ := E.ob id ob hob
    have hne : g1 ≠ g := by rintro rfl; exact hgβ (List.mem_of_getElem? b1)
    refine ⟨g1, cur1, e1, b1, b2, (hkp.block g1 (lt_of_heap b3) (fun h => hne h.1)).trans b3, b4, fun j hj => (b5 j hj).ext X, fun p hz => ?_, b7⟩
    rcases hz with hz | ⟨rfl, _⟩
    · exact b6 p hz
    · exact hne rfl
  · intro τ f' hk
    by_cases hτ : τ < T.length
    · obtain ⟨hT, _⟩ := killT_lt hτ hk
      obtain ⟨v, hv, a, n', c', rfl, hd⟩ := E.tk τ f' hT
      refine ⟨_, by rw [List.getElem?_append_left (by rw [E.gl]; exact hτ)]; exact hv, a, n', c', rfl, ?_⟩
      by_cases hnc : n' = c'
      · by_cases ha : a = none
        · rcases hd with hd | ⟨g1, cur1, k1, rfl, _⟩
          · exact .inl hd
          · cases ha
        · exact .inl ⟨hnc, fun h => absurd h ha⟩
      rcases hd with hd | ⟨g1, cur1, k1, rfl, d2, d3, d4, d5, d6, d7, d8, d9⟩
      · exact .inl hd
      · have hne : g1 ≠ g := by
          have := hoth τ f' _ hτ hk hv
          rw [spare_some hnc] at this
          exact fun h => this (by rw [h])
        refine .inr ⟨g1, cur1, k1, rfl, d2, (hkp.block g1 (lt_of_heap d3) (fun h => hne h.1)).trans d3, d4, d5, d6, d7, fun p hz => ?_, d9⟩
        rcases hz with hz | ⟨rfl, _⟩
        · exact d8 p hz
        · exact absurd rfl hne
    · obtain ⟨rfl, rfl⟩ := killT_ge hτ hk
      refine ⟨_, by rw [← E.gl, List.getElem?_append_right (Nat.le_refl _)]; simp, some ⟨g, 0, none⟩, len, cap, rfl, .inr ⟨g, cur, n, rfl, hgM, h1, h2, h3, hn, h4, fun p hz => ?_, hgβ⟩⟩
      rcases hz with hz | ⟨_, hp⟩
      · rcases h6 with ⟨rfl, G⟩ | ⟨a1, a2, a3, a4, a5⟩
        · have := E.zs _ _ hz; omega
        · rcases ho with ⟨k, rfl, hk1, hk2⟩ | ho
          · obtain ⟨v, hv, a, n', c', rfl, hd⟩ := E.tk k _ hk1
            rw [hk2] at hv
            obtain rfl := Option.some.inj hv
            have hnc : n' ≠ c' := by
              intro h
              subst h
              cases a <;> simp [spare] at a1
            rcases hd with ⟨rfl, _⟩ | ⟨g1, cur1, k1, rfl, d2, d3, d4, d5, d6, d7, d8, d9⟩
            · exact absurd rfl hnc
            · rw [spare_some hnc] at a1
              obtain rfl := Option.some.inj a1
              rw [hn] at d6
              cases d6
              have := d8 p hz
              exact Nat.lt_of_lt_of_le this (Nat.mul_le_mul_right _ (hlen _ _ _ rfl))
          · rw [ho] at a1; cases a1
      · exact hp
  · intro τ σ e1 f1 u v g1 hτ hσ hu hv hsu hsv
    have hnew : ∀ {τ : Nat} {e1 : TypeId} {u : Value}, ¬ τ < T.length → (killT T o e)[τ]? = some (some e1) → (γ ++ [.slice (some ⟨g, 0, none⟩) len cap])[τ]? = some u → spare u = some g1 → τ = T.length ∧ g1 = g := by
      intro τ e1 u h1 h2 h3 h4
      obtain ⟨rfl, _⟩ := killT_ge h1 h2
      rw [← E.gl, List.getElem?_append_right (Nat.le_refl _)] at h3
      simp only [Nat.sub_self, List.getElem?_cons_zero, Option.some.injEq] at h3
      subst h3
      simp only [spare] at h4
      split at h4
      · cases h4
      · simp only [Option.some.injEq] at h4
        exact ⟨rfl, h4.symm⟩
    by_cases q1 : τ < T.length
    · rw [List.getElem?_append_left (by rw [E.gl]; exact q1)] at hu
      by_cases q2 : σ < T.length
      · rw [List.getElem?_append_left (by rw [E.gl]; exact q2)] at hv
        exact E.ti τ σ e1 f1 u v g1 (killT_lt q1 hτ).1 (killT_lt q2 hσ).1 hu hv hsu hsv
      · obtain ⟨_, rfl⟩ := hnew q2 hσ hv hsv
        exact absurd hsu (hoth τ e1 u q1 hτ hu)
    · obtain ⟨rfl, rfl⟩ := hnew q1 hτ hu hsu
      by_cases q2 : σ < T.length
      · rw [List.getElem?_append_left (by rw [E.gl]; exact q2)] at hv
        exact absurd hsv (hoth σ f1 v q2 hσ hv)
      · exact (hnew q2 hσ hv hsv).1.symm
end
end Go.Proofs.Ytjfaafnngloblaa.Ev
