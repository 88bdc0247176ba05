/- Rows that a text lists. No condition. -/
import Derived.Test.YtjfaafnngloblaaEvB
namespace Go.Proofs.Ytjfaafnngloblaa.Ev
open Go
set_option linter.unusedVariables false
set_option linter.unusedSimpArgs false
section
variable {P : Program} {w0 : World} {Z0 : Zs} {M0 : Nat → Prop} {Z Z' : Zs} {β : List Nat} {γ : List Value} {S : Obs} {T : Toks} {w w' : World}
/-- A list of elements, and their cells in a row. -/
structure EL (Z : Zs) (w : World) (n k : Nat) (L : List AV) (ys : List Value) : Prop where
  ll : L.length = n
  yl : ys.length = n * k
  ec : ∀ i, i < n → (L.getD i .dead).cells.length = k
  dr : ∀ i j, i < n → j < k → DR Z w ((L.getD i .dead).cells.getD j .dead) (ys.getD (i * k + j) undef)
theorem s2_cells (x : AV) : (s2 x).cells = x.cells.map s1 := by
  cases x <;> rfl
theorem EL.set {n k : Nat} {L : List AV} {ys vs : List Value} (h : EL Z w n k L ys) {i : Nat} {x : AV} (hi : i < n) (hx : x.cells.length = k) (hv : vs.length = k) (hd : ∀ j, j < k → DR Z w (x.cells.getD j .dead) (vs.getD j undef)) :
    EL Z w n k (L.set i (s2 x)) (ys.take (i * k) ++ (vs ++ ys.drop (i * k + vs.length))) := by
  have hik : i * k + k ≤ n * k := by have := Nat.mul_le_mul_right k hi; rw [Nat.succ_mul] at this; exact this
  have hL : i < L.length := by rw [h.ll]; exact hi
  have htl : (ys.take (i * k)).length = i * k := by rw [List.length_take, h.yl, Nat.min_eq_left (by omega)]
  refine ⟨by simp [h.ll], by rw [List.length_append, List.length_append, List.length_drop, htl, h.yl, hv]; omega, fun a ha => ?_, fun a j ha hj => ?_⟩
  · by_cases e : a = i
    · subst e
      have : (L.set a (s2 x)).getD a .dead = s2 x := by simp [List.getD_eq_getElem?_getD, hL]
      rw [this, s2_cells]; simpa using hx
    · have : (L.set i (s2 x)).getD a .dead = L.getD a .dead := by simp [List.getD_eq_getElem?_getD, List.getElem?_set_ne (Ne.symm e)]
      rw [this]; exact h.ec a ha
  · by_cases e : a = i
    · subst e
      have e1 : (L.set a (s2 x)).getD a .dead = s2 x := by simp [List.getD_eq_getElem?_getD, hL]
      have e2 : (ys.take (a * k) ++ (vs ++ ys.drop (a * k + vs.length))).getD (a * k + j) undef = vs.getD j undef := by
        rw [List.getD_eq_getElem?_getD, List.getElem?_append_right (by rw [htl]; omega), htl, List.getElem?_append_left (by omega), List.getD_eq_getElem?_getD]
        congr 2; omega
      rw [e1, e2, s2_cells, getD_map_lt (by omega)]
      exact (hd j hj).s1
    · have e1 : (L.set i (s2 x)).getD a .dead = L.getD a .dead := by simp [List.getD_eq_getElem?_getD, List.getElem?_set_ne (Ne.symm e)]
      have e2 : (ys.take (i * k) ++ (vs ++ ys.drop (i * k + vs.length))).getD (a * k + j) undef = ys.getD (a * k + j) undef := by
        by_cases hlt : a < i
        · have := idx_lt hlt hj
          rw [List.getD_eq_getElem?_getD, List.getElem?_append_left (by omega), List.getElem?_take, if_pos this, List.getD_eq_getElem?_getD]
        · have hai : (i + 1) * k ≤ a * k := Nat.mul_le_mul_right k (by omega)
          rw [Nat.succ_mul] at hai
          rw [List.getD_eq_getElem?_getD, List.getElem?_append_right (by omega), List.getElem?_append_right (by omega), List.getElem?_drop, List.getD_eq_getElem?_getD]
          congr 2; omega
      rw [e1, e2]; exact h.dr a j ha hj
theorem rows_r {fr : List AV} {a : Act} (F : FR P Z β γ T w fr a) {n k : Nat} : ∀ (ps : List (Nat × Operand)) (L : List AV) (ys : Array Value),
    (ps.all fun p => decide (p.1 < n) && ((opd fr p.2).cells.length == k && ((opd fr p.2).cells.all one && d2 (opd fr p.2)))) = true → EL Z w n k L ys.toList →
    ∃ ys', Instr.fill (fun i => some (i * k, k)) ys (ps.map fun p => (p.1, a.eval p.2)) = some ys' ∧ EL Z w n k (ps.foldl (fun l p => l.set p.1 (s2 (opd fr p.2))) L) ys'.toList
  | [], L, ys, _, h => ⟨ys, rfl, h⟩
  | (i, x) :: ps, L, ys, hc, h => by
    simp only [List.all_cons, Bool.and_eq_true, decide_eq_true_eq, beq_iff_eq] at hc
    obtain ⟨⟨h1, h2, h3, h4⟩, hrest⟩ := hc
    have hx := (opd_r F x).rl h3
    have hsz : (a.eval x).cells.size = k := by have := hx.1; simp at this; omega
    have hik : i * k + k ≤ n * k := by have := Nat.mul_le_mul_right k h1; rw [Nat.succ_mul] at this; exact this
    have hys : ys.size = n * k := by rw [← Array.length_toList]; exact h.yl
    have hput := put_run ys (a.eval x).cells (i * k) (by omega)
    have hset := h.set (vs := (a.eval x).cells.toList) h1 h2 (by simpa using hsz) (fun j hj => (hx.2 j (by omega)).dr (d2_cells h4 j (by omega)))
    obtain ⟨ys', h5, h6⟩ := rows_r F (n := n) (k := k) ps (L.set i (s2 (opd fr x))) ((a.eval x).cells.zipIdx.foldl (fun cs (p : Value × Nat) => cs.setIfInBounds (i * k + p.2) p.1) ys)
      (by simpa [List.all_eq_true] using hrest) (by rw [hput]; simpa using hset)
    refine ⟨ys', ?_, h6⟩
    simp only [List.map_cons, Instr.fill, hsz, ne_eq, not_true_eq_false, decide_false, Bool.false_or]
    rw [if_neg (by simp; omega)]
    exact h5
theorem rows_run (E : EN P w0 Z0 M0 Z β γ S T w) {fr : List AV} {a : Act} (F : FR P Z β γ T w fr a) {t el : TypeId} {n k : Nat} {ag : Bool} {z : List AV} {ps : Array (Nat × Operand)} (he : tel P t = some el) (hk : tsz P el = some k) (hz : tzero P el = some z)
    (h1 : n * k ≤ 16777216) (h2 : (ps.toList.all fun p => decide (p.1 < n) && ((opd fr p.2).cells.length == k && ((opd fr p.2).cells.all one && d2 (opd fr p.2)))) = true) (h3 : (ag || k == 1) = true) (h4 : 0 < k) (h5 : z.length = k) (h6 : (z.all d1 && z.all one) = true) :
    ∃ r w' Z', (Instr.buildSlice t n (ps.map fun (i, x) => (i, a.eval x))).run P w = .ok r w' ∧ EN P w0 Z0 M0 Z' β γ S T w' ∧ VX Z Z' β β γ γ T T w w' ∧
      R3 Z' β γ T w' P (.sl .full (ps.toList.foldl (fun l p => l.set p.1 (s2 (opd fr p.2))) (List.replicate n (if ag = true then .agg z else z.getD 0 .dead)))) r := by
  obtain ⟨z0, hz0, hzz⟩ := run_zero (w := w) hz
  have hzs : z0.cells.size = k := by rw [← h5, hzz]; simp
  simp only [Bool.and_eq_true] at h6
  have hzc : (if ag = true then AV.agg z else z.getD 0 .dead).cells = z := by
    cases ag with
    | true => rfl
    | false =>
      have hk1 : k = 1 := by simpa using h3
      match z, h5.trans hk1, h6 with
      | [x], _, h6 =>
        have hx : one x = true := by simpa using h6.2
        cases x <;> first | rfl | exact absurd hx (by simp [one])
  have hbase : EL Z w n k (List.replicate n (if ag = true then .agg z else z.getD 0 .dead)) ((Array.range (n * k)).map (z0.cells[· % z0.cells.size]!)).toList := by
    have hg : ∀ i, i < n → (List.replicate n (if ag = true then AV.agg z else z.getD 0 .dead)).getD i .dead = (if ag = true then .agg z else z.getD 0 .dead) := fun i hi => by simp [List.getD_eq_getElem?_getD, hi]
    refine ⟨by simp, by simp, fun i hi => by rw [hg i hi, hzc, h5], fun i j hi hj => ?_⟩
    rw [hg i hi, hzc]
    have hidx := idx_lt hi hj
    have e1 : (((Array.range (n * k)).map (z0.cells[· % z0.cells.size]!)).toList).getD (i * k + j) undef = z0.cells.getD j undef := by
      have hmod : (i * k + j) % k = j := by rw [Nat.mul_comm, Nat.mul_add_mod]; exact Nat.mod_eq_of_lt hj
      have hj' : j < z0.cells.size := by omega
      have hbang : z0.cells[j]! = z0.cells.getD j undef := by rw [getElem!_pos z0.cells j hj']; simp [Array.getD, hj']
      rw [← hbang]
      simp [List.getD_eq_getElem?_getD, hidx, hzs, hmod]
    rw [e1]
    have e2 : z.getD j .dead = toAV0 (z0.cells.getD j undef) := by
      rw [hzz]
      have hj' : j < z0.cells.size := by omega
      simp [List.getD_eq_getElem?_getD, Array.getD, hj']
    rw [e2]
    have hd : d1 (toAV0 (z0.cells.getD j undef)) = true := by rw [← e2]; exact all_getD h6.1 (by omega)
    exact (toAV0_r1 (P := P) (β := β) (γ := γ) (T := T)).dr hd
  obtain ⟨ys, hf, hEL⟩ := rows_r F ps.toList _ _ h2 hbase
  have hmap : (ps.map fun (p : Nat × Operand) => (p.1, a.eval p.2)).toList = ps.toList.map fun p => (p.1, a.eval p.2) := by simp
  let Z' : Zs := fun b o => Z b o ∨ (b = w.heap.size ∧ o < n * k)
  obtain ⟨E', X'⟩ := E.grow (Z' := Z') (grow_alloc w (.cells ys el)) (fun _ _ h => .inl h) (fun b o h => by rcases h with h | ⟨rfl, _⟩ <;> simp [*]) (fun b o h => by
    rcases h with h | ⟨rfl, _⟩
    · have := E.zs b o h; simp; omega
    · simp)
  refine ⟨.slice (some ⟨w.heap.size, 0, none⟩) n n, w.alloc (.cells ys el), Z', ?_, E', X', ?_⟩
  · have hnk : ¬ (16777216 < n * k) := by omega
    by_cases h0 : n * k = 0
    · have hn0 : n = 0 := by
        rcases Nat.mul_eq_zero.mp h0 with h | h
        · exact h
        · omega
      subst hn0
      have hps : ps.toList = [] := by
        cases hq : ps.toList with
        | nil => rfl
        | cons p l => rw [hq] at h2; simp at h2
      have hy0 : ys = #[] := by
        apply Array.ext'
        exact List.eq_nil_of_length_eq_zero (by rw [hEL.yl, Nat.zero_mul])
      have hpe : ps = #[] := by apply Array.ext'; simpa using hps
      subst hpe; subst hy0
      simp [Instr.buildSlice, run_underlying (tel_inv he), run_sz hk, Instr.fill, newRow, show Array.range 0 = #[] from rfl]
    · simp only [Instr.buildSlice, Sem.run_bind, run_underlying (tel_inv he), Result.andThen_ok, run_sz hk]
      rw [if_neg (by omega), if_neg h0]
      simp only [Sem.run_bind, hz0, Result.andThen_ok, Sem.run_pure]
      rw [hmap, hf]
      simp [newRow]
  · have hl : (ps.toList.foldl (fun l p => l.set p.1 (s2 (opd fr p.2))) (List.replicate n (if ag = true then .agg z else z.getD 0 .dead))).length = n := hEL.ll
    refine ⟨?_, ⟨some ⟨w.heap.size, 0, none⟩, by rw [hl]⟩⟩
    have hh := heap_alloc_new w (.cells ys el)
    have := DR.sl (Z := Z') (w := w.alloc (.cells ys el)) .full _ w.heap.size 0 n k (fun i j => ys.toList.getD (i * k + j) undef) (by rw [hl]; exact Nat.le_refl _) (fun i hi => hEL.ec i (by rw [hl] at hi; exact hi)) (fun i j hi hj => by
      rw [hl] at hi
      have hidx := idx_lt hi hj
      have hyl := hEL.yl
      refine ⟨.inr ⟨rfl, by omega⟩, ?_⟩
      rw [cell_of_row _ w.heap.size _ ys el (0, 0) hh, Nat.zero_add]
      rw [List.getD_eq_getElem?_getD, ← Array.getElem?_toList, List.getElem?_eq_getElem (by omega)]
      rfl) (fun i j hi hj => (hEL.dr i j (by rw [hl] at hi; exact hi) hj).ext X'.z)
    rw [hl] at this
    exact this
end
end Go.Proofs.Ytjfaafnngloblaa.Ev
