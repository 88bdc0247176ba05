/- The operations that read, continued. No condition. -/
import Derived.Test.YtjfaafnngloblaaEv4
namespace Go.Proofs.Ytjfaafnngloblaa.Ev
open Go
set_option linter.unusedVariables false
set_option linter.unusedSimpArgs false
section
variable {P : Program} {w0 : World} {Z0 : Zs} {M0 : Nat → Prop} {Z : Zs} {β : List Nat} {γ : List Value} {S : Obs} {T : Toks} {w : World}
theorem load_run (E : EN P w0 Z0 M0 Z β γ S T w) {t : TypeId} {x y : AV} {v : Value} {ag : Bool} {n : Nat} {cs : List AV} (hx : R3 Z β γ T w P x v) (h1 : tagg P t = some ag) (h2 : tsz P t = some n)
    (hc : (ag || n == 1) = true) (hr : rdc S x n = some cs) (ho : ofC ag cs = some y) : ∃ u, (loadVar t <$> Instr.sureAddr v).run P w = .ok (loadVar t (match v with | .pointer (some a) => a | _ => ⟨0, 0, none⟩)) w ∧ (Instr.loadAt t v).run P w = .ok u w ∧ R3 Z β γ T w P y u := by
  obtain ⟨b, o, rfl, xs, hl, hcl, hcell, hR⟩ := rdc_r E hx hr
  have hk := ofC_r ho (by omega) (fun j hj => hR j (by omega))
  have hld : (loadCells ⟨b, o, none⟩ n).run P w = .ok xs.toArray w := by
    have := run_loadCells_list (P := P) w ⟨b, o, none⟩ xs (fun j u hu => by rw [Addr.add_lit]; exact hcell j u hu)
    rw [hl] at this; exact this
  cases ag with
  | true =>
    refine ⟨.agg xs.toArray, rfl, ?_, hk.1 rfl⟩
    simp [Instr.loadAt, Instr.sureAddr, loadVar, run_ag h1, run_sz h2, hld]
  | false =>
    obtain ⟨u, rfl, _, hu⟩ := hk.2 rfl
    refine ⟨u, rfl, ?_, hu⟩
    have h0 := hcell 0 u rfl
    simp only [Nat.add_zero] at h0
    simp [Instr.loadAt, Instr.sureAddr, loadVar, run_ag h1, h0]
theorem fld_inv {t : TypeId} {i o n : Nat} {ag : Bool} (h : fld P t i = some (o, n, ag)) : ∃ fs f, P.underlying t = some (.struct fs) ∧ fs[i]? = some f ∧ f.offset = o ∧ tsz P f.type = some n ∧ tagg P f.type = some ag := by
  unfold fld at h
  split at h
  · rename_i fs hu
    split at h
    · rename_i f hf
      split at h
      · rename_i n' a' h1 h2
        simp only [Option.some.injEq, Prod.mk.injEq] at h
        obtain ⟨rfl, rfl, rfl⟩ := h
        exact ⟨fs, f, hu, hf, rfl, h1, h2⟩
      · cases h
    · cases h
  · cases h
theorem arr_inv {t : TypeId} {n k : Nat} {ag : Bool} (h : arr P t = some (n, k, ag)) : ∃ e, P.underlying t = some (.array n e) ∧ tsz P e = some k ∧ tagg P e = some ag := by
  unfold arr at h
  split at h
  · rename_i n' e hu
    split at h
    · rename_i k' a' h1 h2
      simp only [Option.some.injEq, Prod.mk.injEq] at h
      obtain ⟨rfl, rfl, rfl⟩ := h
      exact ⟨e, hu, h1, h2⟩
    · cases h
  · cases h
theorem tel_inv {t e : TypeId} (h : tel P t = some e) : P.underlying t = some (.slice e) := by
  unfold tel at h
  split at h
  · rename_i e' hu; simp only [Option.some.injEq] at h; subst h; exact hu
  · cases h
theorem ea_drop {cs : List AV} {v : Value} {o : Nat} (h : DR Z w (.ea cs) v) (ho : o ≤ cs.length) : ∃ b p, v = .pointer (some ⟨b, p, none⟩) ∧ DR Z w (.ea (cs.drop o)) (.pointer (some ⟨b, p + o, none⟩)) := by
  obtain ⟨b, p, xs, rfl, hz, hd⟩ := h.ea_inv
  refine ⟨b, p, rfl, .ea _ b (p + o) (fun j => xs (o + j)) ?_ ?_⟩
  · intro j hj
    simp only [List.length_drop] at hj
    rw [Nat.add_assoc]
    exact hz (o + j) (by omega)
  · intro j hj
    simp only [List.length_drop] at hj
    have := hd (o + j) (by omega)
    simpa [List.getD_eq_getElem?_getD, List.getElem?_drop] using this
theorem fieldAddr_run {t : TypeId} {i o n : Nat} {ag : Bool} {x y : AV} {v : Value} (hx : R3 Z β γ T w P x v) (h : fld P t i = some (o, n, ag)) (hn : 0 < n)
    (hy : fdA o n x = some y) :
    ∃ u, (Instr.fieldAt t v i).run P w = .ok u w ∧ R3 Z β γ T w P y u := by
  obtain ⟨fs, f, hu, hf, rfl, h1, h2⟩ := fld_inv h
  have key : ∀ b p, v = .pointer (some ⟨b, p, none⟩) → (Instr.fieldAt t v i).run P w = .ok (.pointer (some ⟨b, p + f.offset, none⟩)) w := by
    rintro b p rfl
    simp [Instr.fieldAt, run_underlying hu, hf, Instr.sureAddr, fieldPlace, run_sz h1, show n ≠ 0 by omega, Addr.add_lit]
  cases x with
  | ptr id off =>
    simp only [fdA, Option.some.injEq] at hy
    subst hy
    obtain ⟨g, hg, rfl⟩ := hx
    exact ⟨_, key _ _ rfl, g, hg, rfl⟩
  | ea cs =>
    simp only [fdA] at hy
    split at hy
    · rename_i hle
      simp only [Option.some.injEq] at hy
      subst hy
      obtain ⟨b, p, rfl, hd⟩ := ea_drop (o := f.offset) (show DR Z w (.ea cs) v from hx) (by omega)
      exact ⟨_, key _ _ rfl, hd⟩
    · cases hy
  | _ => simp [fdA] at hy
theorem part_run {t : TypeId} {n o : Nat} {ag : Bool} {cs : List AV} {xs : Array Value} {y : AV} (h1 : tsz P t = some n) (h2 : tagg P t = some ag) (hl : cs.length = xs.size) (hle : o + n ≤ cs.length) (hc : (ag || n == 1) = true)
    (hR : ∀ j, j < cs.length → R1 Z β γ T w P (cs.getD j .dead) (xs.getD j undef)) (hy : ofC ag ((cs.drop o).take n) = some y) : ∃ u, (part t xs o).run P w = .ok u w ∧ R3 Z β γ T w P y u := by
  have hk := ofC_r (xs := (xs.toList.drop o).take n) hy (by simp; omega) (fun j hj => by
    have hj' : j < n := by simp at hj; omega
    rw [getD_take_drop hj', getD_take_drop hj']
    have := hR (o + j) (by omega)
    simpa [List.getD_eq_getElem?_getD, Array.getD_eq_getD_getElem?] using this)
  cases ag with
  | true =>
    refine ⟨_, ?_, hk.1 rfl⟩
    simp only [part, Sem.run_bind, run_ag h2, Result.andThen_ok, if_true, run_sz h1, Sem.run_pure]
    congr 2
    apply Array.ext'
    simp [Array.toList_extract, List.extract_eq_take_drop]
  | false =>
    obtain ⟨u, hu, _, hr⟩ := hk.2 rfl
    refine ⟨u, ?_, hr⟩
    have hn : n = 1 := by simpa using hc
    subst hn
    have h0 : xs[o]? = some u := by
      have := congrArg (fun l => l[0]?) hu
      simpa [List.getElem?_take, List.getElem?_drop] using this
    simp [part, run_ag h2, h0]
theorem field_run {t : TypeId} {i o n : Nat} {ag : Bool} {cs : List AV} {y : AV} {v : Value} (hx : R3 Z β γ T w P (.agg cs) v) (h : fld P t i = some (o, n, ag)) (hle : o + n ≤ cs.length) (hc : (ag || n == 1) = true)
    (hy : ofC ag ((cs.drop o).take n) = some y) : ∃ u, (Instr.field t v i).run P w = .ok u w ∧ R3 Z β γ T w P y u := by
  obtain ⟨fs, f, hu, hf, rfl, h1, h2⟩ := fld_inv h
  obtain ⟨xs, rfl, hl, hR⟩ := hx
  obtain ⟨u, hr, hR'⟩ := part_run h1 h2 hl hle hc hR hy
  exact ⟨u, by simp [Instr.field, run_underlying hu, hf, asAgg, hr], hR'⟩
theorem idxV_inv {x : AV} {i : Int} {v : Value} (h : idxV x = some i) (hx : R3 Z β γ T w P x v) : ∃ k, v = .int k i := by
  unfold idxV at h
  split at h
  · rename_i k j
    simp only [Option.some.injEq] at h
    subst h
    exact ⟨k, hx.v_inv.1⟩
  · cases h
theorem elA_run {t : TypeId} {x i y : AV} {v u : Value} (h : elA P t x i = some y) (hx : R3 Z β γ T w P x v) (hi : R3 Z β γ T w P i u) : ∃ r, (Instr.indexAt t v u).run P w = .ok r w ∧ R3 Z β γ T w P y r := by
  unfold elA at h
  split at h
  · cases h
  rename_i m hm
  obtain ⟨k, rfl⟩ := idxV_inv hm hi
  split at h
  case isFalse => cases h
  rename_i h0
  cases x with
  | sl o l =>
    simp only at h
    split at h
    case h_2 => cases h
    rename_i e he
    split at h
    case h_2 => cases h
    rename_i n z hn hz
    split at h
    case isFalse => cases h
    rename_i hcl
    simp only [Option.some.injEq] at h
    subst h
    have hd : DR Z w (.sl o l) v := hx.1
    obtain ⟨hlt, hz'⟩ := List.getElem?_eq_some_iff.1 hz
    rcases hd.sl_inv with ⟨rfl, _⟩ | ⟨b, p, c, k', xs, rfl, hc, hk, hzz, hdd⟩
    · simp at hlt
    have hg : l.getD m.toNat .dead = z := by simp [List.getD_eq_getElem?_getD, hz]
    have hkn : k' = n := by rw [← hk _ hlt, hg, hcl]
    subst hkn
    refine ⟨.pointer (some ⟨b, p + m.toNat * k', none⟩), ?_, ?_⟩
    · have hb : 0 ≤ m ∧ m < (l.length : Int) := ⟨h0, by omega⟩
      simp [Instr.indexAt, asIntOf, run_underlying (tel_inv he), run_sz hn, Addr.add_lit, hb]
    · refine DR.ea _ b _ (fun j => xs m.toNat j) (fun j hj => ?_) (fun j hj => ?_)
      · rw [Nat.add_assoc]; exact hzz m.toNat j hlt (by omega)
      · have := hdd m.toNat j hlt (by omega)
        rw [hg] at this; exact this
  | ptr id off =>
    simp only at h
    split at h
    case h_2 => cases h
    rename_i n kk ag ha
    split at h
    case isFalse => cases h
    rename_i hlt
    simp only [Option.some.injEq] at h
    subst h
    obtain ⟨e, hu, hs, _⟩ := arr_inv ha
    obtain ⟨g, hg, rfl⟩ := hx
    refine ⟨.pointer (some ⟨g, off + m.toNat * kk, none⟩), ?_, g, hg, rfl⟩
    have hb : 0 ≤ m ∧ m < (n : Int) := ⟨h0, hlt⟩
    simp [Instr.indexAt, asIntOf, run_underlying hu, Instr.sureAddr, run_sz hs, Addr.add_lit, hb]
  | _ => simp at h
theorem ixA_run {t : TypeId} {x i y : AV} {v u : Value} (h : ixA P t x i = some y) (hx : R3 Z β γ T w P x v) (hi : R3 Z β γ T w P i u) : ∃ r, (Instr.index t v u).run P w = .ok r w ∧ R3 Z β γ T w P y r := by
  unfold ixA at h
  split at h
  · cases h
  rename_i m hm
  obtain ⟨k, rfl⟩ := idxV_inv hm hi
  split at h
  case isFalse => cases h
  rename_i h0
  split at h
  · rename_i cs
    split at h
    case h_2 => cases h
    rename_i n kk ag ha
    split at h
    case isFalse => cases h
    rename_i hc
    obtain ⟨hlt, hle, hag⟩ := hc
    obtain ⟨e, hu, hs, h2⟩ := arr_inv ha
    obtain ⟨xs, rfl, hl, hR⟩ := hx
    obtain ⟨r, hr, hR'⟩ := part_run hs h2 hl hle hag hR h
    have hb : 0 ≤ m ∧ m < (n : Int) := ⟨h0, hlt⟩
    exact ⟨r, by simp [Instr.index, asIntOf, run_underlying hu, run_sz hs, hb, hr], hR'⟩
  · rename_i s
    split at h
    case h_2 => cases h
    rename_i b hb
    split at h
    case isFalse => cases h
    rename_i hs
    simp only [Option.some.injEq] at h
    subst h
    obtain ⟨rfl, _⟩ := hx.v_inv
    have hu : P.underlying t = some .string := by
      unfold isStr at hs
      split at hs
      · assumption
      · cases hs
    refine ⟨_, ?_, .of_v rfl⟩
    simp [Instr.index, asIntOf, run_underlying hu, h0, hb]
  · cases h
end
end Go.Proofs.Ytjfaafnngloblaa.Ev
