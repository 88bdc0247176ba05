/- Each operation that is no call of a function. No condition. -/
import Derived.Test.YtjfaafnngloblaaEvC
namespace Go.Proofs.Ytjfaafnngloblaa.Ev
open Go
set_option linter.unusedVariables false
set_option linter.unusedSimpArgs false
section
variable {P : Program} {w0 : World} {Z0 : Zs} {M0 : Nat → Prop} {Z Z' : Zs} {β : List Nat} {γ : List Value} {S : Obs} {T : Toks} {w w' : World}
/-- What an operation has done. -/
def Did (P : Program) (w0 : World) (Z0 : Zs) (M0 : Nat → Prop) (Z : Zs) (β : List Nat) (γ : List Value) (T : Toks) (w : World) (r : Result Next) (x : AV) (S' : Obs) (T' : Toks) : Prop :=
  ∃ n v w' Z' β' γ', r = .ok n w' ∧ (n = .value v ∨ (n = .skip ∧ v = undef)) ∧ EN P w0 Z0 M0 Z' β' γ' S' T' w' ∧ VX Z Z' β β' γ γ' T T' w w' ∧ R3 Z' β' γ' T' w' P x v
theorem Did.quiet (E : EN P w0 Z0 M0 Z β γ S T w) {x : AV} {v : Value} (h : R3 Z β γ T w P x v) : Did P w0 Z0 M0 Z β γ T w (.ok (.value v) w) x S T :=
  ⟨_, v, w, Z, β, γ, rfl, .inl rfl, E, .refl _ _ _ _ _, h⟩
theorem vrun {s : Sem Value} {v : Value} (h : s.run P w = .ok v w') : (do pure (.value (← s)) : Sem Next).run P w = .ok (.value v) w' := by
  simp [h]
theorem min_run {b : Bool} {x y r : AV} {u v : Value} (hx : R3 Z β γ T w P x u) (hy : R3 Z β γ T w P y v) (h : mmA b [x, y] = some r) (ts : Array TypeId) (t : TypeId) :
    ∃ q, (if b = true then Builtin.max_ ts t #[u, v] else Builtin.min_ ts t #[u, v]).run P w = .ok q w ∧ R3 Z β γ T w P r q := by
  unfold mmA at h
  split at h
  · rename_i k a k' c heq
    simp only [List.cons.injEq, and_true] at heq
    obtain ⟨rfl, rfl⟩ := heq
    split at h
    · rename_i e
      subst e
      simp only [Option.some.injEq] at h
      subst h
      obtain ⟨rfl, _⟩ := hx.v_inv
      obtain ⟨rfl, _⟩ := hy.v_inv
      cases b with
      | true => exact ⟨_, by simp [Builtin.max_, Builtin.max2], .of_v rfl⟩
      | false => exact ⟨_, by simp [Builtin.min_, Builtin.min2], .of_v rfl⟩
    · cases h
  · cases h
set_option maxHeartbeats 1000000 in
theorem coreQ_sound (E : EN P w0 Z0 M0 Z β γ S T w) {fr : List AV} {a : Act} (F : FR P Z β γ T w fr a) (o : Oper) {x : AV} (h : coreQ P o (opd fr) = some x) :
    Did P w0 Z0 M0 Z β γ T w ((execOp a.eval o).run P w) x S T := by
  obtain ⟨dst, op, ty, pos, after, guard⟩ := o
  cases op with
  | move y =>
    simp only [coreQ, Option.some.injEq] at h
    subst h
    exact .quiet E (opd_r F y)
  | assign y =>
    simp only [coreQ, Option.some.injEq] at h
    subst h
    exact .quiet E (opd_r F y)
  | pick c p q =>
    simp only [coreQ] at h
    split at h
    case h_2 => cases h
    rename_i b hb
    simp only [Option.some.injEq] at h
    subst h
    have hc := opd_r F c
    rw [hb] at hc
    obtain ⟨hc, _⟩ := hc.v_inv
    have e : (execOp a.eval ⟨dst, .pick c p q, ty, pos, after, guard⟩).run P w = .ok (.value (if b = true then a.eval p else a.eval q)) w := by
      simp [execOp, hc, asBool]
    rw [e]
    refine .quiet E ?_
    cases b
    · exact opd_r F q
    · exact opd_r F p
  | build t ps =>
    simp only [coreQ] at h
    split at h
    case h_2 => cases h
    rename_i z hz
    split at h
    case isFalse => cases h
    rename_i hb
    obtain ⟨cs, hcs, rfl⟩ := Option.map_eq_some_iff.1 h
    obtain ⟨r, hr, hR⟩ := build_run F hz hb hcs
    have e : (execOp a.eval ⟨dst, .build t ps, ty, pos, after, guard⟩).run P w = .ok (.value r) w := vrun hr
    rw [e]
    exact .quiet E hR
  | buildSlice t n ps =>
    simp only [coreQ] at h
    split at h
    case h_2 => cases h
    rename_i el he
    split at h
    case h_2 => cases h
    rename_i k ag z hk hag hz
    split at h
    case isFalse => cases h
    rename_i hc
    obtain ⟨c1, c2, c3, c4, c5, c6⟩ := hc
    simp only [Option.some.injEq] at h
    subst h
    obtain ⟨r, w', Z', hr, E', X', hR⟩ := rows_run E F he hk hz c1 c2 c3 c4 c5 c6
    exact ⟨_, r, w', Z', β, γ, vrun hr, .inl rfl, E', X', hR⟩
  | nilCheck y =>
    have hy := opd_r F y
    simp only [coreQ] at h
    split at h
    · rename_i id off he
      simp only [Option.some.injEq] at h
      subst h
      rw [he] at hy
      have hy' := hy
      obtain ⟨g, _, hv⟩ := hy'
      have e : (execOp a.eval ⟨dst, .nilCheck y, ty, pos, after, guard⟩).run P w = .ok (.value (a.eval y)) w := by simp [execOp, hv]
      rw [e]; exact .quiet E hy
    · rename_i cs he
      simp only [Option.some.injEq] at h
      subst h
      rw [he] at hy
      obtain ⟨b, p, xs, hv, _⟩ := DR.ea_inv (show DR Z w (.ea cs) (a.eval y) from hy)
      have e : (execOp a.eval ⟨dst, .nilCheck y, ty, pos, after, guard⟩).run P w = .ok (.value (a.eval y)) w := by simp [execOp, hv]
      rw [e]; exact .quiet E hy
    · rename_i f c he
      simp only [Option.some.injEq] at h
      subst h
      rw [he] at hy
      have hy' := hy
      obtain ⟨xs, hv, _⟩ := hy'
      have e : (execOp a.eval ⟨dst, .nilCheck y, ty, pos, after, guard⟩).run P w = .ok (.value (a.eval y)) w := by simp [execOp, hv]
      rw [e]; exact .quiet E hy
    · cases h
  | binOp op t y z t' =>
    simp only [coreQ] at h
    have hr := h
    obtain ⟨v, hv, hR⟩ := binA_run hr (opd_r F y) (opd_r F z) y z
    have e : (execOp a.eval ⟨dst, .binOp op t y z t', ty, pos, after, guard⟩).run P w = .ok (.value v) w := vrun hv
    rw [e]; exact .quiet E hR
  | unOp op t y =>
    simp only [coreQ] at h
    have hr := h
    obtain ⟨v, hv, hR⟩ := unA_run hr (opd_r F y)
    have e : (execOp a.eval ⟨dst, .unOp op t y, ty, pos, after, guard⟩).run P w = .ok (.value v) w := vrun hv
    rw [e]; exact .quiet E hR
  | convert s d y =>
    simp only [coreQ] at h
    split at h
    case isFalse => cases h
    rename_i hs
    have hr := h
    obtain ⟨v, hv, hR⟩ := convA_run hr hs (opd_r F y)
    have e : (execOp a.eval ⟨dst, .convert s d y, ty, pos, after, guard⟩).run P w = .ok (.value v) w := vrun hv
    rw [e]; exact .quiet E hR
  | fieldAddr t y i =>
    simp only [coreQ] at h
    split at h
    case h_2 => cases h
    rename_i off n ag hf
    split at h
    case isFalse => cases h
    rename_i hn
    have hr := h
    obtain ⟨u, hu, hR⟩ := fieldAddr_run (opd_r F y) hf hn hr
    have e : (execOp a.eval ⟨dst, .fieldAddr t y i, ty, pos, after, guard⟩).run P w = .ok (.value u) w := vrun hu
    rw [e]; exact .quiet E hR
  | field t y i =>
    simp only [coreQ] at h
    split at h
    case h_2 => cases h
    rename_i off n ag hf
    split at h
    case h_2 => cases h
    rename_i cs he
    split at h
    case isFalse => cases h
    rename_i hc
    have hr := h
    have hy := opd_r F y
    rw [he] at hy
    obtain ⟨u, hu, hR⟩ := field_run hy hf hc.1 hc.2 hr
    have e : (execOp a.eval ⟨dst, .field t y i, ty, pos, after, guard⟩).run P w = .ok (.value u) w := vrun hu
    rw [e]; exact .quiet E hR
  | indexAddr t y i =>
    simp only [coreQ] at h
    have hr := h
    obtain ⟨v, hv, hR⟩ := elA_run hr (opd_r F y) (opd_r F i)
    have e : (execOp a.eval ⟨dst, .indexAddr t y i, ty, pos, after, guard⟩).run P w = .ok (.value v) w := vrun hv
    rw [e]; exact .quiet E hR
  | index t y i =>
    simp only [coreQ] at h
    have hr := h
    obtain ⟨v, hv, hR⟩ := ixA_run hr (opd_r F y) (opd_r F i)
    have e : (execOp a.eval ⟨dst, .index t y i, ty, pos, after, guard⟩).run P w = .ok (.value v) w := vrun hv
    rw [e]; exact .quiet E hR
  | slice t y lo hi mx =>
    simp only [coreQ] at h
    have hr := h
    obtain ⟨v, hv, hR⟩ := slA_run F (opd_r F y) hr
    have e : (execOp a.eval ⟨dst, .slice t y lo hi mx, ty, pos, after, guard⟩).run P w = .ok (.value v) w := vrun hv
    rw [e]; exact .quiet E hR
  | makeFunc fn first cap =>
    cases fn with
    | func f =>
      simp only [coreQ] at h
      split at h
      case isFalse => cases h
      rename_i hc
      obtain ⟨hc1, hc2⟩ := hc
      simp only [Option.some.injEq] at h
      subst h
      have hf : first = #[] := Array.eq_empty_of_size_eq_zero hc1
      subst hf
      have e : (execOp a.eval ⟨dst, .makeFunc (.func f) #[] cap, ty, pos, after, guard⟩).run P w = .ok (.value (.func (.func f) #[] (cap.map a.eval))) w := by
        simp [execOp, Instr.makeFunc]
      rw [e]
      refine .quiet E ⟨cap.map a.eval, rfl, by simp, fun i hi => ?_⟩
      have hi' : i < cap.size := by simpa using hi
      have e1 : (cap.toList.map (opd fr)).getD i .dead = opd fr cap[i] := by simp [List.getD_eq_getElem?_getD, hi']
      have e2 : (cap.map a.eval).getD i undef = a.eval cap[i] := by simp [Array.getD, hi']
      rw [e1, e2]
      have h1 := opd_r F cap[i]
      have h2 := List.all_eq_true.mp hc2 cap[i] (by simp)
      generalize opd fr cap[i] = q at *
      cases q with
      | fn f c => cases h2
      | agg cs => cases h2
      | tup l => cases h2
      | _ => exact h1
    | _ => simp [coreQ] at h
  | extract y i =>
    simp only [coreQ] at h
    split at h
    case h_2 => cases h
    rename_i l he
    split at h
    case h_2 => cases h
    rename_i z hz
    split at h
    case isFalse => cases h
    rename_i hnt
    simp only [Option.some.injEq] at h
    subst h
    have hy := opd_r F y
    rw [he] at hy
    obtain ⟨xs, hv, hl, hR⟩ := hy
    obtain ⟨hi, hzi⟩ := List.getElem?_eq_some_iff.1 hz
    have h1 := hR i hi
    have e1 : l.getD i .dead = z := by simp [List.getD_eq_getElem?_getD, hz]
    have hi' : i < xs.size := by omega
    have e2 : xs.getD i undef = xs[i] := by simp [Array.getD, hi']
    rw [e1, e2] at h1
    have e : (execOp a.eval ⟨dst, .extract y i, ty, pos, after, guard⟩).run P w = .ok (.value xs[i]) w := by
      simp [execOp, Instr.extract, hv, hi']
    rw [e]
    exact .quiet E (h1.r3 (by intro l' e'; subst e'; cases hnt))
  | call c =>
    obtain ⟨callee, args, tys⟩ := c
    have hargs : ∀ l, args.toList = l → args = l.toArray := fun l e => by apply Array.ext'; simpa using e
    have htys : ∀ l, tys.toList = l → tys = l.toArray := fun l e => by apply Array.ext'; simpa using e
    simp only [coreQ] at h
    split at h
    · rename_i y ha
      split at h
      case h_2 => cases h
      rename_i t ht
      obtain rfl := hargs _ ha
      obtain rfl := htys _ ht
      have hy := opd_r F y
      split at h
      · rename_i b hu he
        simp only [Option.some.injEq] at h
        subst h
        rw [he] at hy
        obtain ⟨hv, _⟩ := hy.v_inv
        have e : (execOp a.eval ⟨dst, .call ⟨.builtin .len, #[y], #[t]⟩, ty, pos, after, guard⟩).run P w = .ok (.value (.int .i64 b.size)) w := by
          simp [execOp, resolve, invoke, builtin, Builtin.len_, run_underlying hu, hv, goInt]
        rw [e]; exact .quiet E (.of_v rfl)
      · rename_i el o l hu he
        simp only [Option.some.injEq] at h
        subst h
        rw [he] at hy
        obtain ⟨A, c, hv⟩ : ∃ A c, a.eval y = .slice A l.length c := by
          rcases (DR.sl_inv hy.1) with ⟨rfl, _, _, h1, _⟩ | ⟨b', p', c', k', xs, h1, _⟩
          · exact ⟨_, _, h1⟩
          · exact ⟨_, _, h1⟩
        have e : (execOp a.eval ⟨dst, .call ⟨.builtin .len, #[y], #[t]⟩, ty, pos, after, guard⟩).run P w = .ok (.value (.int .i64 l.length)) w := by
          simp [execOp, resolve, invoke, builtin, Builtin.len_, run_underlying hu, hv, goInt]
        rw [e]; exact .quiet E (.of_v rfl)
      · cases h
    · rename_i y z ha
      obtain rfl := hargs _ ha
      obtain ⟨q, hq, hR⟩ := min_run (opd_r F y) (opd_r F z) h tys ty
      have e : (execOp a.eval ⟨dst, .call ⟨.builtin .min, #[y, z], tys⟩, ty, pos, after, guard⟩).run P w = .ok (.value q) w := by
        simp only [Bool.false_eq_true, if_false] at hq
        simp [execOp, resolve, invoke, builtin, hq]
      rw [e]; exact .quiet E hR
    · rename_i y z ha
      obtain rfl := hargs _ ha
      obtain ⟨q, hq, hR⟩ := min_run (opd_r F y) (opd_r F z) h tys ty
      have e : (execOp a.eval ⟨dst, .call ⟨.builtin .max, #[y, z], tys⟩, ty, pos, after, guard⟩).run P w = .ok (.value q) w := by
        simp only [if_true] at hq
        simp [execOp, resolve, invoke, builtin, hq]
      rw [e]; exact .quiet E hR
    · cases h
  | _ => simp [coreQ] at h
theorem isApp_inv {o : Oper} {s x : Operand} {t : TypeId} (h : isApp o = some (s, x, t)) : o.op = .call ⟨.builtin .append, #[s, x], #[t, t]⟩ := by
  unfold isApp at h
  split at h
  case h_2 => cases h
  rename_i args tys ho
  split at h
  case h_2 => cases h
  rename_i s' x' t1 t2 ha ht
  split at h
  case isFalse => cases h
  rename_i e
  subst e
  simp only [Option.some.injEq, Prod.mk.injEq] at h
  obtain ⟨rfl, rfl, rfl⟩ := h
  have h1 : args = #[s', x'] := by apply Array.ext'; simpa using ha
  have h2 : tys = #[t1, t1] := by apply Array.ext'; simpa using ht
  rw [ho, h1, h2]
theorem core_rest {o : Oper} {e : Operand → AV} (h1 : ∀ t, o.op ≠ .alloc t) (h2 : ∀ t y, o.op ≠ .box t y) (h3 : ∀ t y, o.op ≠ .load t y) (h4 : ∀ t y z, o.op ≠ .store t y z) : core P o e S T = (match isApp o with
    | some (s, x, t) => (appA P t (e s) (e x) T).map fun r => (r.1, S, r.2)
    | none => (coreQ P o e).map fun r => (r, S, T)) := by
  obtain ⟨dst, op, ty, pos, after, guard⟩ := o
  cases op with
  | alloc t => exact absurd rfl (h1 t)
  | box t y => exact absurd rfl (h2 t y)
  | load t y => exact absurd rfl (h3 t y)
  | store t y z => exact absurd rfl (h4 t y z)
  | _ => rfl
theorem core_sound (E : EN P w0 Z0 M0 Z β γ S T w) {fr : List AV} {a : Act} (F : FR P Z β γ T w fr a) (o : Oper) {x : AV} {S' : Obs} {T' : Toks} (h : core P o (opd fr) S T = some (x, S', T')) :
    Did P w0 Z0 M0 Z β γ T w ((execOp a.eval o).run P w) x S' T' := by
  have rest : (match isApp o with
      | some (s, x, t) => (appA P t (opd fr s) (opd fr x) T).map fun r => (r.1, S, r.2)
      | none => (coreQ P o (opd fr)).map fun r => (r, S, T)) = some (x, S', T') → Did P w0 Z0 M0 Z β γ T w ((execOp a.eval o).run P w) x S' T' := by
    intro h
    split at h
    · rename_i s y t hap
      have ho := isApp_inv hap
      obtain ⟨r, hr, h⟩ := Option.map_eq_some_iff.1 h
      simp only [Prod.mk.injEq] at h
      obtain ⟨rfl, rfl, rfl⟩ := h
      obtain ⟨v, w', Z', γ', hrun, E', X', hR⟩ := app_run (ty := o.type) E (opd_r F s) (opd_r F y) hr
      refine ⟨_, v, w', Z', β, γ', ?_, .inl rfl, E', X', hR⟩
      simp [execOp, ho, resolve, invoke, builtin, hrun]
    · obtain ⟨r, hr, h⟩ := Option.map_eq_some_iff.1 h
      simp only [Prod.mk.injEq] at h
      obtain ⟨rfl, rfl, rfl⟩ := h
      exact coreQ_sound E F o hr
  obtain ⟨dst, op, ty, pos, after, guard⟩ := o
  cases op with
  | alloc t =>
    simp only [core] at h
    split at h
    case h_2 => cases h
    rename_i cs hcs
    simp only [Option.some.injEq, Prod.mk.injEq] at h
    obtain ⟨rfl, rfl, rfl⟩ := h
    obtain ⟨z0, hz0, rfl⟩ := run_zero (w := w) hcs
    have hr : RL P Z β γ T w (z0.cells.toList.map toAV0) z0.cells.toList := ⟨by simp, fun j hj => by
      have hj' : j < z0.cells.size := by simpa using hj
      have e1 : (z0.cells.toList.map toAV0).getD j .dead = toAV0 z0.cells[j] := by simp [List.getD_eq_getElem?_getD, hj']
      have e2 : z0.cells.toList.getD j undef = z0.cells[j] := by simp [List.getD_eq_getElem?_getD, hj']
      rw [e1, e2]; exact toAV0_r1⟩
    obtain ⟨E', X'⟩ := E.new (e := t) hr
    refine ⟨_, .pointer (some ⟨w.heap.size, 0, none⟩), _, Z, _, γ, ?_, .inl rfl, E', X', w.heap.size, ?_, rfl⟩
    · simp [execOp, Instr.alloc, hz0, newVar, newRow]
    · rw [← E.bl, List.getElem?_append_right (Nat.le_refl _)]; simp
  | box t y =>
    simp only [core] at h
    split at h
    case isFalse => cases h
    rename_i hone
    simp only [Option.some.injEq, Prod.mk.injEq] at h
    obtain ⟨rfl, rfl, rfl⟩ := h
    obtain ⟨E', X'⟩ := E.new (e := t) ((opd_r F y).rl hone)
    refine ⟨_, .pointer (some ⟨w.heap.size, 0, none⟩), _, Z, _, γ, ?_, .inl rfl, E', X', w.heap.size, ?_, rfl⟩
    · simp [execOp, Instr.box, newVar, newRow]
    · rw [← E.bl, List.getElem?_append_right (Nat.le_refl _)]; simp
  | load t y =>
    simp only [core] at h
    split at h
    case h_2 => cases h
    rename_i ag n hag hn
    split at h
    case isFalse => cases h
    rename_i hc
    split at h
    case h_2 => cases h
    rename_i cs hcs
    obtain ⟨z, hz, h⟩ := Option.map_eq_some_iff.1 h
    simp only [Prod.mk.injEq] at h
    obtain ⟨rfl, rfl, rfl⟩ := h
    obtain ⟨u, _, hr, hR⟩ := load_run E (opd_r F y) hag hn hc hcs hz
    have e : (execOp a.eval ⟨dst, .load t y, ty, pos, after, guard⟩).run P w = .ok (.value u) w := vrun hr
    rw [e]
    exact .quiet E hR
  | store t y z =>
    simp only [core] at h
    split at h
    case h_2 => cases h
    rename_i n hn
    split at h
    case isFalse => cases h
    rename_i hl
    obtain ⟨S1, hS, h⟩ := Option.map_eq_some_iff.1 h
    simp only [Prod.mk.injEq] at h
    obtain ⟨rfl, rfl, rfl⟩ := h
    obtain ⟨w', hr, E', X'⟩ := store_run E (opd_r F y) (opd_r F z) hn hl hS
    refine ⟨.skip, undef, w', Z, β, γ, ?_, .inr ⟨rfl, rfl⟩, E', X', ⟨#[], rfl, rfl, fun i hi => absurd hi (by simp)⟩⟩
    simp [execOp, hr]
  | _ => exact rest h
end
end Go.Proofs.Ytjfaafnngloblaa.Ev
