/- The operations that read. No condition. -/
import Derived.Test.YtjfaafnngloblaaEv3
namespace Go.Proofs.Ytjfaafnngloblaa.Ev
open Go
set_option linter.unusedVariables false
set_option linter.unusedSimpArgs false
section
variable {P : Program} {w0 : World} {Z0 : Zs} {M0 : Nat → Prop} {Z : Zs} {β : List Nat} {γ : List Value} {S : Obs} {T : Toks} {w : World}
theorem run_sz {t : TypeId} {n : Nat} (h : tsz P t = some n) : (sizeOf t).run P w = .ok n w := by
  unfold tsz at h
  obtain ⟨i, hi, rfl⟩ := Option.map_eq_some_iff.1 h
  simp [sizeOf, typeInfo, hi]
theorem run_ag {t : TypeId} {b : Bool} (h : tagg P t = some b) : (isAgg t).run P w = .ok b w := by
  unfold tagg at h
  cases hu : P.underlying t with
  | none => rw [hu] at h; cases h
  | some d => cases d <;> rw [hu] at h <;> cases h <;> simp [isAgg, run_underlying hu]
theorem run_zero {t : TypeId} {cs : List AV} (h : tzero P t = some cs) : ∃ z, (zeroValue t).run P w = .ok z w ∧ cs = z.cells.toList.map toAV0 := by
  unfold tzero at h
  obtain ⟨i, hi, h⟩ := Option.bind_eq_some_iff.1 h
  obtain ⟨z, hz, rfl⟩ := Option.map_eq_some_iff.1 h
  exact ⟨z, by simp [zeroValue, typeInfo, hi, hz], rfl⟩
theorem getD_take_drop {α : Type} {l : List α} {off n j : Nat} {d : α} (hj : j < n) : ((l.drop off).take n).getD j d = l.getD (off + j) d := by
  simp [List.getD_eq_getElem?_getD, List.getElem?_take, hj, List.getElem?_drop]
/-- What the cells at an address hold. -/
theorem rdc_r (E : EN P w0 Z0 M0 Z β γ S T w) {x : AV} {v : Value} {n : Nat} {cs : List AV} (hx : R3 Z β γ T w P x v) (h : rdc S x n = some cs) :
    ∃ b o, v = .pointer (some ⟨b, o, none⟩) ∧ ∃ xs : List Value, xs.length = n ∧ cs.length = n ∧ (∀ j u, xs[j]? = some u → w.cell? ⟨b, o + j, none⟩ = some u) ∧ ∀ j, j < n → R1 Z β γ T w P (cs.getD j .dead) (xs.getD j undef) := by
  cases x with
  | ea cs0 =>
    simp only [rdc] at h
    have hx' : DR Z w (.ea cs0) v := hx
    split at h
    · rename_i hn
      simp only [Option.some.injEq] at h
      subst h
      obtain ⟨b, p, xs, rfl, hz, hd⟩ := hx'.ea_inv
      refine ⟨b, p, rfl, (List.range n).map xs, by simp, by simp [Nat.min_eq_left hn], ?_, ?_⟩
      · intro j u hu
        rw [List.getElem?_map] at hu
        obtain ⟨i, hi, rfl⟩ := Option.map_eq_some_iff.1 hu
        obtain ⟨hi1, rfl⟩ := List.getElem?_eq_some_iff.1 hi
        simp only [List.length_range] at hi1
        simp only [List.getElem_range]
        exact (hz j (by omega)).2
      · intro j hj
        have h1 : ((cs0.take n).map s1).getD j .dead = s1 (cs0.getD j .dead) := by
          rw [getD_map_lt (by simp; omega)]
          simp [List.getD_eq_getElem?_getD, List.getElem?_take, hj]
        have h2 : ((List.range n).map xs).getD j undef = xs j := by simp [List.getD_eq_getElem?_getD, hj]
        rw [h1, h2]
        exact (hd j (by omega)).r1
    · cases h
  | ptr id off =>
    simp only [rdc] at h
    obtain ⟨g, hg, rfl⟩ := hx
    split at h
    · rename_i ob hob
      split at h
      · rename_i hn
        simp only [Option.some.injEq] at h
        subst h
        obtain ⟨g', cur, e, hb, _, hh, hl, hc, _⟩ := E.ob _ _ hob
        obtain rfl : g = g' := by rw [hg] at hb; exact Option.some.inj hb
        refine ⟨g, off, rfl, (cur.toList.drop off).take n, by simp; omega, by simp; omega, ?_, ?_⟩
        · intro j u hu
          rw [List.getElem?_take] at hu
          split at hu
          · rw [List.getElem?_drop] at hu
            rw [cell_of_row w g (off + j) cur e (0, 0) hh]
            simpa using hu
          · cases hu
        · intro j hj
          rw [getD_take_drop hj, getD_take_drop hj]
          have := hc (off + j) (by omega)
          simpa [List.getD_eq_getElem?_getD, Array.getD_eq_getD_getElem?] using this
      · cases h
    · cases h
  | _ => simp [rdc] at h
theorem R1.one3 {x : AV} {v : Value} (h : R1 Z β γ T w P x v) (ho : one x = true) : R3 Z β γ T w P x v := by
  cases x <;> first | exact h | exact absurd ho (by simp [one])
theorem ofC_r {ag : Bool} {cs : List AV} {x : AV} {xs : List Value} (h : ofC ag cs = some x) (hl : cs.length = xs.length) (hr : ∀ j, j < cs.length → R1 Z β γ T w P (cs.getD j .dead) (xs.getD j undef)) :
    (ag = true → R3 Z β γ T w P x (.agg xs.toArray)) ∧ (ag = false → ∃ u, xs = [u] ∧ cs = [x] ∧ R3 Z β γ T w P x u) := by
  constructor
  · rintro rfl
    simp only [ofC, Option.some.injEq] at h
    subst h
    exact ⟨xs.toArray, rfl, by simpa using hl, fun i hi => by
      have := hr i hi
      simpa [List.getD_eq_getElem?_getD, Array.getD_eq_getD_getElem?] using this⟩
  · rintro rfl
    match cs, xs, hl with
    | [y], [u], _ =>
      simp only [ofC] at h
      split at h
      · rename_i ho
        simp only [Option.some.injEq] at h
        subst h
        exact ⟨u, rfl, rfl, R1.one3 (hr 0 (by simp)) ho⟩
      · cases h
    | [], [], _ => simp [ofC] at h
    | _ :: _ :: _, _ :: _ :: _, _ => simp [ofC] at h
theorem R2.r3 {x : AV} {v : Value} (h : R2 Z β γ T w P x v) (hx : ∀ l, x ≠ .tup l) : R3 Z β γ T w P x v := by
  cases x <;> first | exact absurd rfl (hx _) | exact h
end
end Go.Proofs.Ytjfaafnngloblaa.Ev
