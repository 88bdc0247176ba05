/- Structs put together. No condition. -/
import Derived.Test.YtjfaafnngloblaaEv6
namespace Go.Proofs.Ytjfaafnngloblaa.Ev
open Go
set_option linter.unusedVariables false
set_option linter.unusedSimpArgs false
theorem set_run {α : Type} : ∀ (vs l : List α) (o k : Nat), o + k + vs.length ≤ l.length → (vs.zipIdx k).foldl (fun l p => l.set (o + p.2) p.1) l = l.take (o + k) ++ (vs ++ l.drop (o + k + vs.length))
  | [], l, o, k, h => by simp
  | v :: vs, l, o, k, h => by
    simp only [List.length_cons] at h
    rw [List.zipIdx_cons, List.foldl_cons, set_run vs _ o (k + 1) (by simp; omega)]
    have e1 : (l.set (o + k) v).take (o + (k + 1)) = l.take (o + k) ++ [v] := by
      rw [show o + (k + 1) = o + k + 1 from by omega, List.take_add_one, List.getElem?_set_self (by omega), List.take_set_of_le (Nat.le_refl _)]
      rfl
    have e2 : (l.set (o + k) v).drop (o + (k + 1) + vs.length) = l.drop (o + k + (vs.length + 1)) := by
      rw [List.drop_set_of_lt (by omega)]; congr 1; omega
    rw [e1, e2]
    simp
theorem put_run (cells vs : Array Value) (o : Nat) (h : o + vs.size ≤ cells.size) : (vs.zipIdx.foldl (fun cs (p : Value × Nat) => cs.setIfInBounds (o + p.2) p.1) cells).toList = cells.toList.take o ++ (vs.toList ++ cells.toList.drop (o + vs.size)) := by
  have h1 : ∀ (l : List (Value × Nat)) (cs : Array Value), (l.foldl (fun cs (p : Value × Nat) => cs.setIfInBounds (o + p.2) p.1) cs).toList = l.foldl (fun l p => l.set (o + p.2) p.1) cs.toList := by
    intro l
    induction l with
    | nil => intro cs; rfl
    | cons p l ih => intro cs; rw [List.foldl_cons, List.foldl_cons, ih]; simp
  rw [← Array.foldl_toList, Array.toList_zipIdx, h1, set_run vs.toList cells.toList o 0 (by simpa using h)]
  simp
section
variable {P : Program} {Z : Zs} {β : List Nat} {γ : List Value} {S : Obs} {T : Toks} {w : World}
/-- Cells, one by one. -/
def RL (P : Program) (Z : Zs) (β : List Nat) (γ : List Value) (T : Toks) (w : World) (cs : List AV) (ys : List Value) : Prop := cs.length = ys.length ∧ ∀ j, j < cs.length → R1 Z β γ T w P (cs.getD j .dead) (ys.getD j undef)
theorem RL.splice {cs ds : List AV} {ys vs : List Value} (h : RL P Z β γ T w cs ys) (k : RL P Z β γ T w ds vs) {o : Nat} (ho : o + ds.length ≤ cs.length) : RL P Z β γ T w (splice cs o ds) (ys.take o ++ (vs ++ ys.drop (o + vs.length))) := by
  have hl := h.1; have hk := k.1
  refine ⟨by simp [Ev.splice]; omega, fun j hj => ?_⟩
  have hj' : j < cs.length := by simp [Ev.splice] at hj; omega
  unfold Ev.splice
  by_cases h1 : j < o
  · have e1 : (cs.take o ++ (ds ++ cs.drop (o + ds.length))).getD j .dead = cs.getD j .dead := by
      rw [List.getD_eq_getElem?_getD, List.getElem?_append_left (by simp; omega), List.getElem?_take, if_pos h1, List.getD_eq_getElem?_getD]
    have e2 : (ys.take o ++ (vs ++ ys.drop (o + vs.length))).getD j undef = ys.getD j undef := by
      rw [List.getD_eq_getElem?_getD, List.getElem?_append_left (by simp; omega), List.getElem?_take, if_pos h1, List.getD_eq_getElem?_getD]
    rw [e1, e2]; exact h.2 j hj'
  · by_cases h2 : j < o + ds.length
    · have e1 : (cs.take o ++ (ds ++ cs.drop (o + ds.length))).getD j .dead = ds.getD (j - o) .dead := by
        rw [List.getD_eq_getElem?_getD, List.getElem?_append_right (by simp; omega), List.getElem?_append_left (by simp; omega), List.getD_eq_getElem?_getD]
        simp; congr 2; omega
      have e2 : (ys.take o ++ (vs ++ ys.drop (o + vs.length))).getD j undef = vs.getD (j - o) undef := by
        rw [List.getD_eq_getElem?_getD, List.getElem?_append_right (by simp; omega), List.getElem?_append_left (by simp; omega), List.getD_eq_getElem?_getD]
        simp; congr 2; omega
      rw [e1, e2]; exact k.2 _ (by omega)
    · have e1 : (cs.take o ++ (ds ++ cs.drop (o + ds.length))).getD j .dead = cs.getD j .dead := by
        rw [List.getD_eq_getElem?_getD, List.getElem?_append_right (by simp; omega), List.getElem?_append_right (by simp; omega), List.getElem?_drop, List.getD_eq_getElem?_getD]
        congr 2; simp; omega
      have e2 : (ys.take o ++ (vs ++ ys.drop (o + vs.length))).getD j undef = ys.getD j undef := by
        rw [List.getD_eq_getElem?_getD, List.getElem?_append_right (by simp; omega), List.getElem?_append_right (by simp; omega), List.getElem?_drop, List.getD_eq_getElem?_getD]
        congr 2; simp; omega
      rw [e1, e2]; exact h.2 j hj'
theorem R3.not_tup {a : AV} {v : Value} (h : R3 Z β γ T w P a v) (ho : a.cells.all one = true) : R2 Z β γ T w P a v := by
  cases a <;> first | exact h | (simp [AV.cells, one] at ho)
theorem R3.rl {a : AV} {v : Value} (h : R3 Z β γ T w P a v) (ho : a.cells.all one = true) : RL P Z β γ T w a.cells v.cells.toList := by
  obtain ⟨h1, h2⟩ := (h.not_tup ho).cells ho
  exact ⟨by simpa using h1, fun j hj => by
    have := h2 j hj
    simpa [List.getD_eq_getElem?_getD, Array.getD_eq_getD_getElem?] using this⟩
theorem fill_r {fr : List AV} {a : Act} (F : FR P Z β γ T w fr a) (pl pl' : Nat → Option (Nat × Nat)) (hp : ∀ i r, pl i = some r → pl' i = some r) : ∀ (ps : List (Nat × Operand)) (cs cs' : List AV) (ys : Array Value),
    fillA pl cs (ps.map fun p => (p.1, opd fr p.2)) = some cs' → RL P Z β γ T w cs ys.toList → ∃ ys', Instr.fill pl' ys (ps.map fun p => (p.1, a.eval p.2)) = some ys' ∧ RL P Z β γ T w cs' ys'.toList
  | [], cs, cs', ys, h, k => by
    simp only [List.map_nil, fillA, Option.some.injEq] at h
    subst h
    exact ⟨ys, rfl, k⟩
  | (i, x) :: ps, cs, cs', ys, h, k => by
    simp only [List.map_cons, fillA] at h
    split at h
    · cases h
    rename_i off n hpl
    split at h
    case isFalse => cases h
    rename_i hc
    obtain ⟨h1, h2, h3⟩ := hc
    have hx := (opd_r F x).rl h3
    have hsz : (a.eval x).cells.size = n := by have := hx.1; simp at this; omega
    have hys : ys.size = cs.length := by have := k.1; simp at this; omega
    have hput := put_run ys (a.eval x).cells off (by omega)
    obtain ⟨ys', h4, h5⟩ := fill_r F pl pl' hp ps _ cs' ((a.eval x).cells.zipIdx.foldl (fun cs (p : Value × Nat) => cs.setIfInBounds (off + p.2) p.1) ys) h (by
      rw [hput, ← Array.length_toList]
      exact k.splice hx (by omega))
    refine ⟨ys', ?_, h5⟩
    simp only [List.map_cons, Instr.fill, hp _ _ hpl, hsz, ne_eq, not_true_eq_false, decide_false, Bool.false_or]
    rw [if_neg (by simp; omega)]
    exact h4
theorem mapM_run {α β' : Type} (f : α → Sem β') (g : α → β') : ∀ (l : List α), (∀ x ∈ l, ∀ w, (f x).run P w = .ok (g x) w) → ∀ w, (l.mapM f).run P w = .ok (l.map g) w
  | [], _, w => by simp
  | x :: l, h, w => by
    rw [List.mapM_cons]
    simp [h x (by simp) w, mapM_run f g l (fun y hy => h y (by simp [hy])) w]
theorem amapM_run {α β' : Type} (f : α → Sem β') (g : α → β') (l : Array α) (h : ∀ x ∈ l.toList, ∀ w, (f x).run P w = .ok (g x) w) (w : World) : (l.mapM f).run P w = .ok (l.map g) w := by
  have h1 := mapM_run (P := P) f g l.toList h w
  rw [← Array.toList_mapM] at h1
  simp only [Sem.run_map] at h1
  cases hr : (l.mapM f).run P w with
  | ok r w' =>
    rw [hr] at h1
    simp only [Result.andThen_ok, Result.ok.injEq] at h1
    obtain ⟨h2, rfl⟩ := h1
    congr 1
    apply Array.ext'
    simpa using h2
  | halt x w' => rw [hr] at h1; cases h1
theorem build_run {t : TypeId} {ps : Array (Nat × Operand)} {z cs : List AV} {fr : List AV} {a : Act} (F : FR P Z β γ T w fr a) (hz : tzero P t = some z) (hb : bok P t = true)
    (h : fillA (places P t) z (ps.toList.map fun p => (p.1, opd fr p.2)) = some cs) : ∃ r, (Instr.build t (ps.map fun (i, x) => (i, a.eval x))).run P w = .ok r w ∧ R3 Z β γ T w P (.agg cs) r := by
  obtain ⟨z0, hz0, rfl⟩ := run_zero (w := w) hz
  have hzl : RL P Z β γ T w (z0.cells.toList.map toAV0) z0.cells.toList := ⟨by simp, fun j hj => by
    have hj' : j < z0.cells.size := by simpa using hj
    have e1 : (z0.cells.toList.map toAV0).getD j .dead = toAV0 z0.cells[j] := by simp [List.getD_eq_getElem?_getD, hj']
    have e2 : z0.cells.toList.getD j undef = z0.cells[j] := by simp [List.getD_eq_getElem?_getD, hj']
    rw [e1, e2]; exact toAV0_r1⟩
  have fin : ∀ ys' : Array Value, RL P Z β γ T w cs ys'.toList → R3 Z β γ T w P (.agg cs) (.agg ys') := fun ys' k => ⟨ys', rfl, by simpa using k.1, fun i hi => by
    have := k.2 i hi
    simpa [List.getD_eq_getElem?_getD, Array.getD_eq_getD_getElem?] using this⟩
  have hmap : (ps.map fun (p : Nat × Operand) => (p.1, a.eval p.2)).toList = ps.toList.map fun p => (p.1, a.eval p.2) := by simp
  unfold bok at hb
  cases hu : P.underlying t with
  | none => rw [hu] at hb; cases hb
  | some d =>
    rw [hu] at hb
    cases d with
    | struct fs =>
      simp only at hb
      have hm : ∀ w', (fs.mapM fun f => do pure (f.offset, ← sizeOf f.type) : Sem (Array (Nat × Nat))).run P w' = .ok (fs.map fun f => (f.offset, (tsz P f.type).getD 0)) w' := fun w' => amapM_run _ _ fs (fun f hf w'' => by
        have := List.all_eq_true.mp hb f hf
        simp only [Bool.and_eq_true] at this
        obtain ⟨n, hn⟩ := Option.isSome_iff_exists.1 this.1
        simp [run_sz hn, hn]) w'
      obtain ⟨ys', h4, h5⟩ := fill_r F (places P t) ((fs.map fun f => (f.offset, (tsz P f.type).getD 0))[·]?) (fun i r hr => by
        unfold places at hr
        cases hfl : fld P t i with
        | none =>
          rw [hfl] at hr
          simp only [arr, hu] at hr
          cases hr
        | some q =>
          obtain ⟨o, n, ag⟩ := q
          rw [hfl] at hr
          simp only [Option.some.injEq] at hr
          subst hr
          obtain ⟨fs', f, hu', hf, rfl, hn, _⟩ := fld_inv hfl
          rw [hu] at hu'
          obtain rfl : fs = fs' := by injection hu' with e; injection e
          simp [hf, hn]) ps.toList _ cs z0.cells h hzl
      refine ⟨.agg ys', ?_, fin ys' h5⟩
      simp only [Instr.build, Sem.run_bind, hz0, Result.andThen_ok, run_underlying hu, hm]
      rw [hmap, h4]; rfl
    | array n e =>
      simp only [Bool.and_eq_true] at hb
      obtain ⟨k, hk⟩ := Option.isSome_iff_exists.1 hb.1
      obtain ⟨ys', h4, h5⟩ := fill_r F (places P t) (fun i => some (i * k, k)) (fun i r hr => by
        unfold places at hr
        cases hfl : fld P t i with
        | some q =>
          obtain ⟨o, n, ag⟩ := q
          obtain ⟨fs', f, hu', _⟩ := fld_inv hfl
          rw [hu] at hu'; cases hu'
        | none =>
          rw [hfl] at hr
          simp only at hr
          split at hr
          · rename_i n' k' ag ha
            simp only [Option.some.injEq] at hr
            subst hr
            obtain ⟨e', hu', hs, _⟩ := arr_inv ha
            rw [hu] at hu'
            injection hu' with e1
            injection e1 with e2 e3
            subst e3
            rw [hk] at hs
            simp only [Option.some.injEq] at hs
            subst hs
            rfl
          · cases hr) ps.toList _ cs z0.cells h hzl
      refine ⟨.agg ys', ?_, fin ys' h5⟩
      simp only [Instr.build, Sem.run_bind, hz0, Result.andThen_ok, run_underlying hu, run_sz hk]
      rw [hmap, h4]; rfl
    | _ => simp at hb
end
end Go.Proofs.Ytjfaafnngloblaa.Ev
