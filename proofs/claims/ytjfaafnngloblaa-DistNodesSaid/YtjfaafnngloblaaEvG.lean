/- Operations that may change places. No condition. -/
import Derived.Test.YtjfaafnngloblaaEvF
namespace Go.Proofs.Ytjfaafnngloblaa.Ev
open Go
set_option linter.unusedVariables false
set_option linter.unusedSimpArgs false
section
variable {P : Program} {cf : CallF} {ops : Array Oper}
theorem coreQ_congr {o : Oper} {e e' : Operand → AV} (h : ∀ y ∈ o.op.operands.toList, e y = e' y) : coreQ P o e = coreQ P o e' := by
  obtain ⟨dst, op, ty, pos, after, guard⟩ := o
  cases op with
  | build t ps =>
    have hm : (ps.toList.map fun p => (p.1, e p.2)) = ps.toList.map fun p => (p.1, e' p.2) := List.map_congr_left fun p hp => by
      rw [h p.2 (by simp only [Op.operands]; simpa using ⟨p.1, by simpa using hp⟩)]
    simp only [coreQ, hm]
  | buildSlice t n ps =>
    have h0 : ∀ p ∈ ps.toList, e p.2 = e' p.2 := fun p hp => h p.2 (by simp only [Op.operands]; simpa using ⟨p.1, by simpa using hp⟩)
    have hm : (ps.toList.all fun p => decide (p.1 < n) && (((e p.2).cells.length == (tsz P ((tel P t).getD 0)).getD 0) && ((e p.2).cells.all one && d2 (e p.2)))) = (ps.toList.all fun p => decide (p.1 < n) && (((e' p.2).cells.length == (tsz P ((tel P t).getD 0)).getD 0) && ((e' p.2).cells.all one && d2 (e' p.2)))) := by
      rw [Bool.eq_iff_iff, List.all_eq_true, List.all_eq_true]
      exact ⟨fun hh p hp => by rw [← h0 p hp]; exact hh p hp, fun hh p hp => by rw [h0 p hp]; exact hh p hp⟩
    have hf : ∀ (l : List (Nat × Operand)) (z : List AV), (∀ p ∈ l, e p.2 = e' p.2) → l.foldl (fun l p => l.set p.1 (s2 (e p.2))) z = l.foldl (fun l p => l.set p.1 (s2 (e' p.2))) z := by
      intro l
      induction l with
      | nil => intro z _; rfl
      | cons p l ih => intro z hl; rw [List.foldl_cons, List.foldl_cons, hl p (by simp), ih _ (fun q hq => hl q (by simp [hq]))]
    simp only [coreQ]
    cases he : tel P t with
    | none => rfl
    | some el =>
      simp only []
      cases hk : tsz P el with
      | none => rfl
      | some k =>
        rw [he] at hm
        simp only [Option.getD_some, hk] at hm
        cases tagg P el with
        | none => rfl
        | some a =>
          cases tzero P el with
          | none => rfl
          | some z => simp only [hm, hf _ _ h0]
  | makeFunc fn first cap =>
    cases fn with
    | func f =>
      have h0 : ∀ c ∈ cap.toList, e c = e' c := fun c hc => h c (by simp only [Op.operands]; simp; exact .inr (by simpa using hc))
      have hm : (cap.toList.all fun c => capOk (e c)) = (cap.toList.all fun c => capOk (e' c)) := by
        rw [Bool.eq_iff_iff, List.all_eq_true, List.all_eq_true]
        exact ⟨fun hh p hp => by rw [← h0 p hp]; exact hh p hp, fun hh p hp => by rw [h0 p hp]; exact hh p hp⟩
      have hf : cap.toList.map e = cap.toList.map e' := List.map_congr_left h0
      simp only [coreQ, hf, hm]
    | _ => rfl
  | slice t x lo hi mx =>
    have h1 := h x (by simp [Op.operands])
    have h2 : lo.map e = lo.map e' := by cases lo with | none => rfl | some q => simp [h q (by simp [Op.operands])]
    have h3 : hi.map e = hi.map e' := by cases hi with | none => rfl | some q => simp [h q (by simp [Op.operands])]
    have h4 : mx.map e = mx.map e' := by cases mx with | none => rfl | some q => simp [h q (by simp [Op.operands])]
    simp only [coreQ, h1, h2, h3, h4]
  | call c =>
    obtain ⟨callee, args, tys⟩ := c
    have h0 : ∀ y ∈ args.toList, e y = e' y := fun y hy => h y (by
      simp only [Op.operands, Call.operands, Array.toList_append]
      exact List.mem_append_right _ hy)
    simp only [coreQ]
    split
    · rename_i x ha
      rw [ha] at h0
      rw [h0 x (by simp)]
    · rename_i x y ha
      rw [ha] at h0
      rw [h0 x (by simp), h0 y (by simp)]
    · rename_i x y ha
      rw [ha] at h0
      rw [h0 x (by simp), h0 y (by simp)]
    · rfl
  | pick c x y => simp only [coreQ, h c (by simp [Op.operands]), h x (by simp [Op.operands]), h y (by simp [Op.operands])]
  | binOp op t x y t' => simp only [coreQ, h x (by simp [Op.operands]), h y (by simp [Op.operands])]
  | indexAddr t x y => simp only [coreQ, h x (by simp [Op.operands]), h y (by simp [Op.operands])]
  | index t x y => simp only [coreQ, h x (by simp [Op.operands]), h y (by simp [Op.operands])]
  | move x => simp only [coreQ, h x (by simp [Op.operands])]
  | assign x => simp only [coreQ, h x (by simp [Op.operands])]
  | nilCheck x => simp only [coreQ, h x (by simp [Op.operands])]
  | unOp op t x => simp only [coreQ, h x (by simp [Op.operands])]
  | convert s d x => simp only [coreQ, h x (by simp [Op.operands])]
  | fieldAddr t x i => simp only [coreQ, h x (by simp [Op.operands])]
  | field t x i => simp only [coreQ, h x (by simp [Op.operands])]
  | extract x i => simp only [coreQ, h x (by simp [Op.operands])]
  | _ => rfl
theorem core_congr {o : Oper} {e e' : Operand → AV} (h : ∀ y ∈ o.op.operands.toList, e y = e' y) (S : Obs) (T : Toks) : core P o e S T = core P o e' S T := by
  have rest : (match isApp o with
      | some (s, x, t) => (appA P t (e s) (e x) T).map fun r : AV × Toks => (r.1, S, r.2)
      | none => (coreQ P o e).map fun r => (r, S, T)) = (match isApp o with
      | some (s, x, t) => (appA P t (e' s) (e' x) T).map fun r : AV × Toks => (r.1, S, r.2)
      | none => (coreQ P o e').map fun r => (r, S, T)) := by
    cases ha : isApp o with
    | none => simp only [coreQ_congr h]
    | some q =>
      obtain ⟨s, x, t⟩ := q
      have ho := isApp_inv ha
      simp only [h s (by rw [ho]; simp [Op.operands, Call.operands]), h x (by rw [ho]; simp [Op.operands, Call.operands])]
  obtain ⟨dst, op, ty, pos, after, guard⟩ := o
  cases op with
  | alloc t => rfl
  | box t x => simp only [core, h x (by simp [Op.operands])]
  | load t x => simp only [core, h x (by simp [Op.operands])]
  | store t x y => simp only [core, h x (by simp [Op.operands]), h y (by simp [Op.operands])]
  | _ => exact rest
/-- Two frames that an operation cannot tell from each other. -/
def Like (ops : Array Oper) (o : Oper) (fr fr' : List AV) : Prop := ∀ t ∈ looks ops o, fr.getD t .dead = fr'.getD t .dead
theorem Like.opd {o : Oper} {fr fr' : List AV} (h : Like ops o fr fr') : ∀ y ∈ o.op.operands.toList, Ev.opd fr y = Ev.opd fr' y := by
  intro y hy
  cases y with
  | tmp t => exact h t (by unfold looks opTmps; rw [List.mem_append]; exact .inl (List.mem_filterMap.2 ⟨.tmp t, hy, rfl⟩))
  | _ => rfl
theorem Like.want {o : Oper} {fr fr' : List AV} (h : Like ops o fr fr') : wantA ops o fr = wantA ops o fr' := by
  unfold wantA
  cases hg : o.guard with
  | none => rfl
  | some p =>
    obtain ⟨j, want⟩ := p
    simp only []
    cases hj : ops[j]? with
    | none => rfl
    | some g =>
      simp only []
      cases hd : g.dst with
      | none => rfl
      | some t =>
        have : fr.getD t .dead = fr'.getD t .dead := h t (by
          unfold looks
          rw [List.mem_append, hg]
          simp only [hj, hd]
          exact .inr (by simp))
        simp only [this]
theorem isCall_ops {o : Oper} {f : Operand} {args : List Operand} (h : isCall o = some (f, args)) : o.op.operands.toList = f :: args := by
  unfold isCall at h
  split at h
  · rename_i f' args' tys he
    simp only [Option.some.injEq, Prod.mk.injEq] at h
    obtain ⟨rfl, rfl⟩ := h
    rw [he]
    simp [Op.operands, Call.operands]
  · cases h
theorem exO_like {o : Oper} {fr fr' : List AV} (h : Like ops o fr fr') (S : Obs) (T : Toks) : exO P cf ops o ⟨fr, S, T⟩ = exO P cf ops o ⟨fr', S, T⟩ := by
  unfold exO run1
  simp only [h.want]
  cases hc : isCall o with
  | none => simp only [core_congr h.opd S T]
  | some p =>
    obtain ⟨f, args⟩ := p
    have h1 := isCall_ops hc
    have h2 : opd fr f = opd fr' f := h.opd f (by rw [h1]; simp)
    have h3 : args.map (opd fr) = args.map (opd fr') := List.map_congr_left fun y hy => h.opd y (by rw [h1]; simp [hy])
    simp only [h2, h3]
theorem cls_like {o : Oper} {fr fr' : List AV} (h : Like ops o fr fr') (S : Obs) (T : Toks) : cls ops o ⟨fr, S, T⟩ = cls ops o ⟨fr', S, T⟩ := by
  unfold cls
  simp only [h.want]
  cases hc : isCall o with
  | none =>
    cases ho : o.op with
    | load t a => simp only [h.opd a (by rw [ho]; simp [Op.operands])]
    | _ => rfl
  | some p =>
    obtain ⟨f, args⟩ := p
    have h1 := isCall_ops hc
    have h2 : opd fr f = opd fr' f := h.opd f (by rw [h1]; simp)
    have h3 : args.map (opd fr) = args.map (opd fr') := List.map_congr_left fun y hy => h.opd y (by rw [h1]; simp [hy])
    simp only [h2, h3]
/-- What the class of an operation says. -/
def Says (P : Program) (cf : CallF) (ops : Array Oper) (o : Oper) (fr : List AV) (S : Obs) (T : Toks) (x : AV) (S' : Obs) (T' : Toks) : Cls → Prop
  | .quiet => S' = S ∧ T' = T ∧ ∀ S2 T2, exO P cf ops o ⟨fr, S2, T2⟩ = some (x, S2, T2) ∧ cls ops o ⟨fr, S2, T2⟩ = .quiet
  | .reads id => S' = S ∧ T' = T ∧ ∀ S2 T2, S2[id]? = S[id]? → exO P cf ops o ⟨fr, S2, T2⟩ = some (x, S2, T2) ∧ cls ops o ⟨fr, S2, T2⟩ = .reads id
  | .makes n => n = S.length ∧ T' = T ∧ ∃ ob, S' = S ++ [ob] ∧ x = .ptr S.length 0 ∧ ∀ T2, exO P cf ops o ⟨fr, S, T2⟩ = some (x, S', T2) ∧ cls ops o ⟨fr, S, T2⟩ = .makes n
  | .chain => S' = S ∧ ∀ S2, exO P cf ops o ⟨fr, S2, T⟩ = some (x, S2, T') ∧ cls ops o ⟨fr, S2, T⟩ = .chain
  | .all => True
theorem rdc_id {S S2 : Obs} {id off n : Nat} (h : S2[id]? = S[id]?) : rdc S2 (.ptr id off) n = rdc S (.ptr id off) n := by
  simp only [rdc, h]
theorem rdc_not {S S2 : Obs} {x : AV} {n : Nat} (h : ∀ id off, x ≠ .ptr id off) : rdc S2 x n = rdc S x n := by
  cases x <;> first | rfl | exact absurd rfl (h _ _)
theorem exO_inv {o : Oper} {fr : List AV} {S : Obs} {T : Toks} {r : AV × Obs × Toks} (h : exO P cf ops o ⟨fr, S, T⟩ = some r) :
    (wantA ops o fr = some false ∧ r = (.tup [], S, T)) ∨ (wantA ops o fr = some true ∧ run1 P cf o ⟨fr, S, T⟩ = some r) := by
  unfold exO at h
  split at h
  · rename_i b hw
    cases b with
    | true => exact .inr ⟨hw, by simpa using h⟩
    | false => exact .inl ⟨hw, by simpa using h.symm⟩
  · cases h
theorem exO_says {o : Oper} {fr : List AV} {S : Obs} {T : Toks} {x : AV} {S' : Obs} {T' : Toks} (h : exO P cf ops o ⟨fr, S, T⟩ = some (x, S', T')) : Says P cf ops o fr S T x S' T' (cls ops o ⟨fr, S, T⟩) := by
  rcases exO_inv h with ⟨hw, hr⟩ | ⟨hw, hr⟩
  · have hc : ∀ S2 T2, cls ops o ⟨fr, S2, T2⟩ = .quiet := fun S2 T2 => by unfold cls; simp only [hw]
    rw [hc]
    simp only [Prod.mk.injEq] at hr
    obtain ⟨rfl, rfl, rfl⟩ := hr
    exact ⟨rfl, rfl, fun S2 T2 => ⟨by unfold exO; simp [hw], hc S2 T2⟩⟩
  · have hex : ∀ S2 T2, exO P cf ops o ⟨fr, S2, T2⟩ = run1 P cf o ⟨fr, S2, T2⟩ := fun S2 T2 => by unfold exO; simp [hw]
    cases hic : isCall o with
    | some q =>
      obtain ⟨f, args⟩ := q
      have hrun : ∀ S2 T2, run1 P cf o ⟨fr, S2, T2⟩ = (match opd fr f with
        | .fn g cap => if cap.all capOk = true then evCall cf g (args.map (opd fr) ++ cap) S2 T2 else none
        | _ => none) := fun S2 T2 => by unfold run1; simp only [hic]; rfl
      have hcl : ∀ S2 T2, cls ops o ⟨fr, S2, T2⟩ = (match opd fr f with
        | .fn _ cap => if (args.map (opd fr) ++ cap).all d2 = true then .quiet else .all
        | _ => .all) := fun S2 T2 => by unfold cls; simp only [hw, hic]; rfl
      rw [hrun] at hr
      cases hf : opd fr f with
      | fn g cap =>
        simp only [hf] at hr hcl hrun
        rw [hcl]
        split at hr
        case isFalse => cases hr
        rename_i hcap
        by_cases hd : (args.map (opd fr) ++ cap).all d2 = true
        · rw [if_pos hd]
          unfold evCall at hr
          rw [if_pos hd] at hr
          split at hr
          case h_2 => cases hr
          rename_i r' S1 T1 hcf
          split at hr
          case isFalse => cases hr
          rename_i hd3
          simp only [Option.some.injEq, Prod.mk.injEq] at hr
          obtain ⟨rfl, rfl, rfl⟩ := hr
          refine ⟨rfl, rfl, fun S2 T2 => ⟨?_, by rw [hcl, if_pos hd]⟩⟩
          rw [hex, hrun, if_pos hcap]
          unfold evCall
          rw [if_pos hd, hcf]
          simp only [if_pos hd3]
        · rw [if_neg hd]; trivial
      | _ => simp only [hf] at hr; cases hr
    | none =>
      have hrun : ∀ S2 T2, run1 P cf o ⟨fr, S2, T2⟩ = core P o (opd fr) S2 T2 := fun S2 T2 => by unfold run1; simp only [hic]
      rw [hrun] at hr
      have hcl : ∀ S2 T2, cls ops o ⟨fr, S2, T2⟩ = (match o.op with
        | .load _ a => (match opd fr a with
          | .ptr id _ => .reads id
          | _ => .quiet)
        | .alloc _ => .makes S2.length
        | .box _ _ => .makes S2.length
        | .store _ _ _ => .all
        | _ => match isApp o with
          | some _ => .chain
          | none => .quiet) := fun S2 T2 => by unfold cls; simp only [hw, hic]; rfl
      have rest : (∀ t, o.op ≠ .alloc t) → (∀ t y, o.op ≠ .box t y) → (∀ t y, o.op ≠ .load t y) → (∀ t y z, o.op ≠ .store t y z) → (∀ S2 T2, cls ops o ⟨fr, S2, T2⟩ = (match isApp o with | some _ => Cls.chain | none => .quiet)) →
          Says P cf ops o fr S T x S' T' (cls ops o ⟨fr, S, T⟩) := by
        intro h1 h2 h3 h4 h5
        rw [h5]
        rw [core_rest h1 h2 h3 h4] at hr
        cases hap : isApp o with
        | some q =>
          obtain ⟨s, y, t⟩ := q
          simp only [hap] at hr h5 ⊢
          obtain ⟨r, hr1, hr2⟩ := Option.map_eq_some_iff.1 hr
          simp only [Prod.mk.injEq] at hr2
          obtain ⟨rfl, rfl, rfl⟩ := hr2
          refine ⟨rfl, fun S2 => ⟨?_, h5 _ _⟩⟩
          rw [hex, hrun, core_rest h1 h2 h3 h4]
          simp only [hap, hr1]
          rfl
        | none =>
          simp only [hap] at hr h5 ⊢
          obtain ⟨r, hr1, hr2⟩ := Option.map_eq_some_iff.1 hr
          simp only [Prod.mk.injEq] at hr2
          obtain ⟨rfl, rfl, rfl⟩ := hr2
          refine ⟨rfl, rfl, fun S2 T2 => ⟨?_, h5 _ _⟩⟩
          rw [hex, hrun, core_rest h1 h2 h3 h4]
          simp only [hap, hr1]
          rfl
      cases hop : o.op with
      | alloc t =>
        have hc : ∀ S2 T2, cls ops o ⟨fr, S2, T2⟩ = .makes S2.length := fun S2 T2 => by rw [hcl]; simp only [hop]
        rw [hc]
        have hco : ∀ S2 T2, core P o (opd fr) S2 T2 = (match tzero P t with
          | some cs => some (.ptr S2.length 0, S2 ++ [⟨false, cs⟩], T2)
          | none => none) := fun S2 T2 => by unfold core; simp only [hop]; rfl
        rw [hco] at hr
        split at hr
        case h_2 => cases hr
        rename_i cs hcs
        simp only [Option.some.injEq, Prod.mk.injEq] at hr
        obtain ⟨rfl, rfl, rfl⟩ := hr
        exact ⟨rfl, rfl, _, rfl, rfl, fun T2 => ⟨by rw [hex, hrun, hco, hcs], hc _ _⟩⟩
      | box t y =>
        have hc : ∀ S2 T2, cls ops o ⟨fr, S2, T2⟩ = .makes S2.length := fun S2 T2 => by rw [hcl]; simp only [hop]
        rw [hc]
        have hco : ∀ S2 T2, core P o (opd fr) S2 T2 = (if (opd fr y).cells.all one = true then some (.ptr S2.length 0, S2 ++ [⟨false, (opd fr y).cells⟩], T2) else none) := fun S2 T2 => by unfold core; simp only [hop]
        rw [hco] at hr
        split at hr
        case isFalse => cases hr
        rename_i hone
        simp only [Option.some.injEq, Prod.mk.injEq] at hr
        obtain ⟨rfl, rfl, rfl⟩ := hr
        exact ⟨rfl, rfl, _, rfl, rfl, fun T2 => ⟨by rw [hex, hrun, hco, if_pos hone], hc _ _⟩⟩
      | load t y =>
        have hco : ∀ S2 T2, core P o (opd fr) S2 T2 = (match tagg P t, tsz P t with
          | some ag, some n => if (ag || n == 1) = true then (match rdc S2 (opd fr y) n with
            | some cs => (ofC ag cs).map fun x => (x, S2, T2)
            | none => none) else none
          | _, _ => none) := fun S2 T2 => by unfold core; simp only [hop]; rfl
        rw [hco] at hr
        split at hr
        case h_2 => cases hr
        rename_i ag n hag hn
        simp only [hag, hn] at hco
        split at hr
        case isFalse => cases hr
        rename_i hc0
        split at hr
        case h_2 => cases hr
        rename_i cs hcs
        obtain ⟨z, hz, hr⟩ := Option.map_eq_some_iff.1 hr
        simp only [Prod.mk.injEq] at hr
        obtain ⟨rfl, rfl, rfl⟩ := hr
        have hfin : ∀ S2 T2, rdc S2 (opd fr y) n = rdc S (opd fr y) n → exO P cf ops o ⟨fr, S2, T2⟩ = some (z, S2, T2) := fun S2 T2 hq => by
          rw [hex, hrun, hco, if_pos hc0, hq, hcs]
          simp only [hz]; rfl
        by_cases hp : ∃ id off, opd fr y = .ptr id off
        · obtain ⟨id, off, hp⟩ := hp
          have hc : ∀ S2 T2, cls ops o ⟨fr, S2, T2⟩ = .reads id := fun S2 T2 => by rw [hcl]; simp only [hop, hp]
          rw [hc]
          exact ⟨rfl, rfl, fun S2 T2 hid => ⟨hfin S2 T2 (by rw [hp]; exact rdc_id hid), hc _ _⟩⟩
        · have hne : ∀ id off, opd fr y ≠ .ptr id off := fun id off e => hp ⟨id, off, e⟩
          have hc : ∀ S2 T2, cls ops o ⟨fr, S2, T2⟩ = .quiet := fun S2 T2 => by
            rw [hcl]; simp only [hop]
          rw [hc]
          exact ⟨rfl, rfl, fun S2 T2 => ⟨hfin S2 T2 (rdc_not hne), hc _ _⟩⟩
      | store t y z =>
        have hc : cls ops o ⟨fr, S, T⟩ = .all := by rw [hcl]; simp only [hop]
        rw [hc]; trivial
      | _ => exact rest (by rw [hop]; simp) (by rw [hop]; simp) (by rw [hop]; simp) (by rw [hop]; simp) (fun S2 T2 => by rw [hcl]; simp only [hop])
end
end Go.Proofs.Ytjfaafnngloblaa.Ev
