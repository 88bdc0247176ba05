/- A region that draws its order, by an invariant: one obligation for each operation, in whatever order. No condition. -/
import Derived.Test.YtplpmelpoajpdaaTlLib2
import Derived.MapKept
import Derived.LoopN
import Derived.Scope
import Derived.Orders
namespace Go.Proofs.Ytplpmelpoajpdaa.Ev
open Go
set_option linter.unusedSectionVars false
set_option linter.unusedVariables false
set_option linter.unusedSimpArgs false
section
variable [TVm] {P : Program} {w0 : World} {Z0 : Zs} {M0 : Nat → Prop} {Z Z' : Zs} {β : List Bk} {γ : List Value} {S : Obs} {T : Toks} {w w' : World}
theorem mpT_inv {t e : TypeId} (h : mpT P t = some e) : ∃ k, P.underlying t = some (.map k e) ∧ P.underlying k = some (.int .i64) := by
  unfold mpT at h
  split at h
  · rename_i k e' hu
    split at h
    · rename_i hk
      simp only [Option.some.injEq] at h
      subst h
      exact ⟨k, hu, hk⟩
    · cases h
  · cases h
theorem keyV_inv {x : AV} {n : Int} {v : Value} (h : keyV x = some n) (hx : R3 Z β γ T w P x v) : v = .int .i64 n := by
  unfold keyV at h
  split at h
  · simp only [Option.some.injEq] at h
    subst h
    exact hx.v_inv.1
  · cases h
theorem ME_find (k : Int) : ∀ (es : List (Int × AV)) (l : List MapEntry) (i : Nat), ME Z w es l →
    (mget es k = none ∧ Instr.findNow (.int .i64) (.int .i64 k) l i = some none) ∨ ∃ y j e, mget es k = some y ∧ Instr.findNow (.int .i64) (.int .i64 k) l i = some (some (i + j, e.val)) ∧ l[j]? = some e ∧ e.key = .int .i64 k ∧ DR Z w y e.val ∧ d2 y = true
  | [], [], i, _ => .inl ⟨rfl, rfl⟩
  | p :: es, e :: l, i, h => by
    obtain ⟨⟨h1, h2, h3⟩, hr⟩ := h
    obtain ⟨a, y⟩ := p
    simp only at h1 h2 h3
    by_cases hk : a = k
    · subst hk
      exact .inr ⟨y, 0, e, by simp [mget], by simp [Instr.findNow, Instr.sameNow, h1], rfl, h1, h2, h3⟩
    · have hne : (k == a) = false := by simpa using Ne.symm hk
      rcases ME_find k es l (i + 1) hr with ⟨q1, q2⟩ | ⟨y', j, e', q1, q2, q3, q4⟩
      · exact .inl ⟨by simp [mget, hk, q1], by simp [Instr.findNow, Instr.sameNow, h1, hne, q2]⟩
      · exact .inr ⟨y', j + 1, e', by simp [mget, hk, q1], by simp [Instr.findNow, Instr.sameNow, h1, hne, q2]; omega, by simpa using q3, q4⟩
  | [], _ :: _, _, h => h.elim
  | _ :: _, [], _, h => h.elim
theorem ME_set (k : Int) (x : AV) (v : Value) (hx : DR Z w x v) (hd : d2 x = true) : ∀ (es : List (Int × AV)) (l : List MapEntry) (i : Nat), ME Z w es l →
    (∀ c, Instr.findNow (.int .i64) (.int .i64 k) l i = some none → ME Z w (mset es k x) (l ++ [{ key := .int .i64 k, val := v, born := c }])) ∧
    (∀ j u, Instr.findNow (.int .i64) (.int .i64 k) l i = some (some (i + j, u)) → ME Z w (mset es k x) (l.modify j fun e => { e with key := .int .i64 k, val := v }))
  | [], [], i, _ => ⟨fun c _ => ⟨⟨rfl, hx, hd⟩, trivial⟩, fun j u h => by simp [Instr.findNow] at h⟩
  | p :: es, e :: l, i, h => by
    obtain ⟨⟨h1, h2, h3⟩, hr⟩ := h
    obtain ⟨a, y⟩ := p
    simp only at h1 h2 h3
    by_cases hk : a = k
    · subst hk
      refine ⟨fun c h => by simp [Instr.findNow, Instr.sameNow, h1] at h, fun j u h => ?_⟩
      simp only [Instr.findNow, Instr.sameNow, h1, if_true, beq_self_eq_true, Option.some.injEq, Prod.mk.injEq] at h
      obtain rfl : j = 0 := by omega
      simp only [mset, if_true, List.modify_zero_cons]
      exact ⟨⟨rfl, hx, hd⟩, hr⟩
    · have hne : (k == a) = false := by simpa using Ne.symm hk
      obtain ⟨ih1, ih2⟩ := ME_set k x v hx hd es l (i + 1) hr
      refine ⟨fun c h => ?_, fun j u h => ?_⟩
      · simp only [Instr.findNow, Instr.sameNow, h1, if_true, hne] at h
        simp only [mset, if_neg hk, List.cons_append]
        exact ⟨⟨h1, h2, h3⟩, ih1 c h⟩
      · simp only [Instr.findNow, Instr.sameNow, h1, if_true, hne] at h
        have hj : ∃ j', j = j' + 1 := by
          cases j with
          | succ j' => exact ⟨j', rfl⟩
          | zero =>
            exfalso
            have hge : ∀ (l : List MapEntry) (i j : Nat) (u : Value), Instr.findNow (.int .i64) (.int .i64 k) l i = some (some (j, u)) → i ≤ j := by
              intro l
              induction l with
              | nil => intro i j u h; simp [Instr.findNow] at h
              | cons e l ih =>
                intro i j u h
                simp only [Instr.findNow] at h
                split at h
                · simp only [Option.some.injEq, Prod.mk.injEq] at h; omega
                · have := ih _ _ _ h; omega
                · cases h
            have := hge _ _ _ _ h
            omega
        obtain ⟨j', rfl⟩ := hj
        simp only [mset, if_neg hk, List.modify_succ_cons]
        exact ⟨⟨h1, h2, h3⟩, ih2 j' u (by rw [h]; congr 3; omega)⟩
  | [], _ :: _, _, h => h.elim
  | _ :: _, [], _, h => h.elim
theorem ME_del (k : Int) : ∀ (es : List (Int × AV)) (l : List MapEntry) (i : Nat), ME Z w es l →
    (Instr.findNow (.int .i64) (.int .i64 k) l i = some none → ME Z w (mdel es k) l) ∧
    (∀ j u, Instr.findNow (.int .i64) (.int .i64 k) l i = some (some (i + j, u)) → ME Z w (mdel es k) (l.eraseIdx j))
  | [], [], i, _ => ⟨fun _ => trivial, fun j u h => by simp [Instr.findNow] at h⟩
  | p :: es, e :: l, i, h => by
    obtain ⟨⟨h1, h2, h3⟩, hr⟩ := h
    obtain ⟨a, y⟩ := p
    simp only at h1 h2 h3
    by_cases hk : a = k
    · subst hk
      refine ⟨fun h => by simp [Instr.findNow, Instr.sameNow, h1] at h, fun j u h => ?_⟩
      simp only [Instr.findNow, Instr.sameNow, h1, if_true, beq_self_eq_true, Option.some.injEq, Prod.mk.injEq] at h
      obtain rfl : j = 0 := by omega
      simp only [mdel, if_true, List.eraseIdx_cons_zero]
      exact hr
    · have hne : (k == a) = false := by simpa using Ne.symm hk
      obtain ⟨ih1, ih2⟩ := ME_del k es l (i + 1) hr
      refine ⟨fun h => ?_, fun j u h => ?_⟩
      · simp only [Instr.findNow, Instr.sameNow, h1, if_true, hne] at h
        simp only [mdel, if_neg hk]
        exact ⟨⟨h1, h2, h3⟩, ih1 h⟩
      · simp only [Instr.findNow, Instr.sameNow, h1, if_true, hne] at h
        have hj : ∃ j', j = j' + 1 := by
          cases j with
          | succ j' => exact ⟨j', rfl⟩
          | zero =>
            exfalso
            have hge : ∀ (l : List MapEntry) (i j : Nat) (u : Value), Instr.findNow (.int .i64) (.int .i64 k) l i = some (some (j, u)) → i ≤ j := by
              intro l
              induction l with
              | nil => intro i j u h; simp [Instr.findNow] at h
              | cons e l ih =>
                intro i j u h
                simp only [Instr.findNow] at h
                split at h
                · simp only [Option.some.injEq, Prod.mk.injEq] at h; omega
                · have := ih _ _ _ h; omega
                · cases h
            have := hge _ _ _ _ h
            omega
        obtain ⟨j', rfl⟩ := hj
        simp only [mdel, if_neg hk, List.eraseIdx_cons_succ]
        exact ⟨⟨h1, h2, h3⟩, ih2 j' u (by rw [h]; congr 3; omega)⟩
  | [], _ :: _, _, h => h.elim
  | _ :: _, [], _, h => h.elim
theorem ME_len : ∀ (es : List (Int × AV)) (l : List MapEntry), ME Z w es l → es.length = l.length
  | [], [], _ => rfl
  | _ :: es, _ :: l, h => by simp [ME_len es l h.2]
  | [], _ :: _, h => h.elim
  | _ :: _, [], h => h.elim
/-- A map's object. -/
theorem map_ob (E : EN P w0 Z0 M0 Z β γ S T w) {id : Nat} {es : List (Int × AV)} {v : Value} (ho : S[id]? = some (.map es)) (hx : R3 Z β γ T w P (.mp id) v) :
    ∃ b ens clk, β[id]? = some b ∧ b.v = 0 ∧ v = .map (some b.g) ∧ w.heap[b.g]? = some (.map ens clk) ∧ ME Z w es ens.toList := by
  obtain ⟨b, hb, a2, a3, a4, h1, ens, clk, h2, h3⟩ := E.ob id _ ho rfl
  obtain ⟨b', r, hb', rfl, hr⟩ := hx
  rw [hb] at hb'
  obtain rfl := Option.some.inj hb'
  obtain rfl := hr h1
  exact ⟨b, ens, clk, hb, h1, rfl, h2, h3⟩
theorem setBlock_keep (g : Nat) (o : Obj) : Keep (fun k => k = g) w { w with heap := w.heap.setIfInBounds g o } :=
  ⟨rfl, rfl, rfl, by simp, fun k _ hk => by
    show (w.heap.setIfInBounds g o)[k]? = _
    rw [Array.getElem?_setIfInBounds_ne (Ne.symm hk)]⟩
theorem EN.setmap (E : EN P w0 Z0 M0 Z β γ S T w) {id : Nat} {es es' : List (Int × AV)} {b : Bk} {ens ens' : Array MapEntry} {clk clk' : Nat} (ho : S[id]? = some (.map es)) (hb : β[id]? = some b) (hh : w.heap[b.g]? = some (.map ens clk)) (hv : b.v = 0) (hm : ME Z w es' ens'.toList) :
    EN P w0 Z0 M0 Z β γ (S.set id (.map es')) T { w with heap := w.heap.setIfInBounds b.g (.map ens' clk') } ∧ VX Z Z β β γ γ T T w { w with heap := w.heap.setIfInBounds b.g (.map ens' clk') } :=
  E.put0 (o' := .map es') ho rfl hb (setBlock_keep b.g _) fun X => ⟨hv, ens', clk', by
    show (w.heap.setIfInBounds b.g _)[b.g]? = _
    rw [Array.getElem?_setIfInBounds_self_of_lt (lt_of_heap hh)], hm.ext X.z⟩
theorem update_run (E : EN P w0 Z0 M0 Z β γ S T w) {t e : TypeId} {id : Nat} {es : List (Int × AV)} {n : Int} {x : AV} {vm vk vx : Value} (ht : mpT P t = some e) (hm : R3 Z β γ T w P (.mp id) vm) (hk : vk = .int .i64 n) (hx : R3 Z β γ T w P x vx) (ho : S[id]? = some (.map es)) (hd : d2 x = true) (hnt : nt x = true) :
    ∃ w', (Instr.mapUpdate t vm vk vx).run P w = .ok () w' ∧ EN P w0 Z0 M0 Z β γ (S.set id (.map (mset es n (s2 x)))) T w' ∧ VX Z Z β β γ γ T T w w' := by
  obtain ⟨kt, hu, hku⟩ := mpT_inv ht
  subst hk
  obtain ⟨b, ens, clk, hb, hv, rfl, hh, hME⟩ := map_ob E ho hm
  have hxd : DR Z w (s2 x) vx := by
    refine (R3.dr hx ?_).s2
    cases x <;> first | exact hd | cases hnt
  have hd2 : d2 (s2 x) = true := d2_s2 hd
  have hK : MapKept.IsKey (.int .i64) (.int .i64 n) := by simp [MapKept.IsKey]
  obtain ⟨ih1, ih2⟩ := ME_set n (s2 x) vx hxd hd2 es ens.toList 0 hME
  rcases ME_find n es ens.toList 0 hME with ⟨q1, q2⟩ | ⟨y', j, e', q1, q2, q3, q4, q5⟩
  · obtain ⟨E', X'⟩ := E.setmap (ens' := ens.push { key := .int .i64 n, val := vx, born := clk }) (clk' := clk + 1) ho hb hh hv (by rw [Array.toList_push]; exact ih1 clk q2)
    refine ⟨_, ?_, E', X'⟩
    simp [Instr.mapUpdate, run_underlying hu, MapKept.run_getObj_map hh, MapKept.run_checkKey hku hK, MapKept.run_findKey hku q2, MapKept.run_setObj_map _ hh, Result.andThen]
  · have hkey : ((ens[j]?).map (·.key)).getD (.int .i64 n) = .int .i64 n := by
      rw [← Array.getElem?_toList, q3]; exact q4
    obtain ⟨E', X'⟩ := E.setmap (ens' := ens.modify j fun e => { e with key := .int .i64 n, val := vx }) (clk' := clk) ho hb hh hv (by rw [Array.toList_modify]; exact ih2 j _ q2)
    refine ⟨_, ?_, E', X'⟩
    rw [Nat.zero_add] at q2
    simp [Instr.mapUpdate, run_underlying hu, MapKept.run_getObj_map hh, MapKept.run_checkKey hku hK, MapKept.run_findKey hku q2, hkey, MapKept.run_keyThatStays hK, MapKept.run_setObj_map _ hh, Result.andThen]
theorem delete_run (E : EN P w0 Z0 M0 Z β γ S T w) {t e ty : TypeId} {tys : Array TypeId} {id : Nat} {es : List (Int × AV)} {n : Int} {vm vk : Value} (hty : tys[0]? = some t) (ht : mpT P t = some e) (hm : R3 Z β γ T w P (.mp id) vm) (hk : vk = .int .i64 n) (ho : S[id]? = some (.map es)) :
    ∃ w', (Builtin.delete_ tys ty #[vm, vk]).run P w = .ok (.tuple #[]) w' ∧ EN P w0 Z0 M0 Z β γ (S.set id (.map (mdel es n))) T w' ∧ VX Z Z β β γ γ T T w w' := by
  obtain ⟨kt, hu, hku⟩ := mpT_inv ht
  subst hk
  obtain ⟨b, ens, clk, hb, hv, rfl, hh, hME⟩ := map_ob E ho hm
  have hK : MapKept.IsKey (.int .i64) (.int .i64 n) := by simp [MapKept.IsKey]
  obtain ⟨ih1, ih2⟩ := ME_del n es ens.toList 0 hME
  rcases ME_find n es ens.toList 0 hME with ⟨q1, q2⟩ | ⟨y', j, e', q1, q2, q3, q4, q5⟩
  · obtain ⟨E', X'⟩ := E.setmap (ens' := ens) (clk' := clk) ho hb hh hv (ih1 q2)
    refine ⟨_, ?_, E', X'⟩
    simp [Builtin.delete_, hty, run_underlying hu, MapKept.run_getObj_map hh, MapKept.run_checkKey hku hK, MapKept.run_findKey hku q2, MapKept.run_setObj_map _ hh, Result.andThen]
  · have hj : j < ens.size := by
      have := (List.getElem?_eq_some_iff.1 q3).1; simpa using this
    obtain ⟨E', X'⟩ := E.setmap (ens' := ens.eraseIdxIfInBounds j) (clk' := clk) ho hb hh hv (by
      have : (ens.eraseIdxIfInBounds j).toList = ens.toList.eraseIdx j := by simp [Array.eraseIdxIfInBounds, hj]
      rw [this]; exact ih2 j _ q2)
    refine ⟨_, ?_, E', X'⟩
    rw [Nat.zero_add] at q2
    simp [Builtin.delete_, hty, run_underlying hu, MapKept.run_getObj_map hh, MapKept.run_checkKey hku hK, MapKept.run_findKey hku q2, MapKept.run_setObj_map _ hh, Result.andThen]
theorem zeroA_run {t : TypeId} {z : AV} (h : zeroA P t = some z) : ∃ v, (∀ w, (zeroValue t).run P w = .ok v w) ∧ (∀ (Z : Zs) (w : World), DR Z w z v) ∧ nt z = true ∧ d2 z = true := by
  unfold zeroA at h
  obtain ⟨i, hi, h⟩ := Option.bind_eq_some_iff.1 h
  obtain ⟨z0, hz, h⟩ := Option.bind_eq_some_iff.1 h
  have hrun : ∀ w, (zeroValue t).run P w = .ok z0 w := fun w => by simp [zeroValue, typeInfo, hi, hz]
  refine ⟨z0, hrun, ?_⟩
  split at h
  · rename_i cs
    split at h
    case isFalse => cases h
    rename_i hd
    simp only [Option.some.injEq] at h
    subst h
    refine ⟨fun Z w => .agg _ cs (by simp) (fun j hj => ?_), rfl, hd⟩
    have hj' : j < cs.size := by simpa using hj
    have e1 : (cs.toList.map toAV0).getD j .dead = toAV0 cs[j] := by simp [List.getD_eq_getElem?_getD, hj']
    have e2 : cs.getD j undef = cs[j] := by simp [Array.getD, hj']
    have hdj := all_getD hd hj
    rw [e1] at hdj
    rw [e1, e2]
    exact (toAV0_r1 (P := P) (β := []) (γ := []) (T := [])).dr hdj
  · rename_i x hx
    split at h
    case isFalse => cases h
    rename_i hd
    simp only [Option.some.injEq] at h
    subst h
    have key : ∀ q : AV, d1 q = true → nt q = true ∧ d2 q = true := fun q hq => by
      cases q <;> first | exact ⟨rfl, hq⟩ | exact absurd hq (by simp [d1, d0])
    exact ⟨fun Z w => (toAV0_r1 (P := P) (β := []) (γ := []) (T := [])).dr hd, key _ hd⟩
theorem d2_nt {a : AV} (h : d2 a = true) : ∀ l, s2 a ≠ .tup l := by
  intro l
  cases a with
  | tup l' => simp [d2, d1, d0] at h
  | _ => simp [s2, s1, s0]
theorem DR.r3' {a : AV} {v : Value} (h : DR Z w a v) (hd : d2 a = true) : R3 Z β γ T w P (Ev.s2 a) v := (DR.r2 h).r3 (d2_nt hd)
theorem tup2 {a b : AV} {u v : Value} (ha : R2 Z β γ T w P a u) (hb : R2 Z β γ T w P b v) : R3 Z β γ T w P (.tup [a, b]) (.tuple #[u, v]) := by
  refine ⟨#[u, v], rfl, rfl, fun i hi => ?_⟩
  match i, hi with
  | 0, _ => exact ha
  | 1, _ => exact hb
  | n + 2, h => exact absurd h (by simp only [List.length_cons, List.length_nil]; omega)
theorem lookA_some {t : TypeId} {ok : Bool} {y r : AV} {u : Value} (h : lookA P t (some y) ok = some r) (hd : DR Z w y u) (h2 : d2 y = true) : R3 Z β γ T w P r (if ok = true then .tuple #[u, .bool true] else u) := by
  unfold lookA at h
  split at h
  case h_2 => cases h
  simp only [Option.some.injEq] at h
  subst h
  cases ok with
  | true => exact tup2 hd.r2 (DR.v _ rfl)
  | false => exact hd.r3' h2
theorem lookA_none {t e : TypeId} {ok : Bool} {r : AV} (ht : mpT P t = some e) (h : lookA P t none ok = some r) : ∃ z, (∀ w, (zeroValue e).run P w = .ok z w) ∧ R3 Z β γ T w P r (if ok = true then .tuple #[z, .bool false] else z) := by
  unfold lookA at h
  rw [ht] at h
  simp only at h
  obtain ⟨z, hz, h⟩ := Option.map_eq_some_iff.1 h
  subst h
  obtain ⟨v, h1, h2, h3, h4⟩ := zeroA_run hz
  refine ⟨v, h1, ?_⟩
  cases ok with
  | true => exact tup2 (h2 Z w).r2 (DR.v _ rfl)
  | false => exact (h2 Z w).r3' h4
theorem lookA_mp {t : TypeId} {ok : Bool} {r : AV} (h : lookA P t none ok = some r ∨ ∃ y, lookA P t (some y) ok = some r) : ∃ e, mpT P t = some e := by
  cases hm : mpT P t with
  | some e => exact ⟨e, rfl⟩
  | none => rcases h with h | ⟨y, h⟩ <;> simp [lookA, hm] at h
theorem look_run {t : TypeId} {es : List (Int × AV)} {n : Int} {ok : Bool} {y : AV} {vk : Value} (E : EN P w0 Z0 M0 Z β γ S T w) {id : Nat} {vm : Value} (ho : S[id]? = some (.map es)) (hm : R3 Z β γ T w P (.mp id) vm) (hk : vk = .int .i64 n) (h : lookA P t (mget es n) ok = some y) :
    ∃ v, (Instr.lookup t vm vk ok).run P w = .ok v w ∧ R3 Z β γ T w P y v := by
  subst hk
  obtain ⟨b, ens, clk, hb, hv, rfl, hh, hME⟩ := map_ob E ho hm
  have hK : MapKept.IsKey (.int .i64) (.int .i64 n) := by simp [MapKept.IsKey]
  obtain ⟨e, ht⟩ := lookA_mp (P := P) (t := t) (ok := ok) (r := y) (by cases hq : mget es n with
    | none => rw [hq] at h; exact .inl h
    | some z => rw [hq] at h; exact .inr ⟨z, h⟩)
  obtain ⟨kt, hu, hku⟩ := mpT_inv ht
  rcases ME_find n es ens.toList 0 hME with ⟨q1, q2⟩ | ⟨y', j, e', q1, q2, q3, q4, q5, q6⟩
  · rw [q1] at h
    obtain ⟨z, hz, hR⟩ := lookA_none (Z := Z) (β := β) (γ := γ) (T := T) (w := w) ht h
    refine ⟨_, ?_, hR⟩
    cases ok <;> simp [Instr.lookup, run_underlying hu, MapKept.run_getObj_map hh, MapKept.run_checkKey hku hK, MapKept.run_findKey hku q2, hz, Result.andThen]
  · rw [q1] at h
    refine ⟨_, ?_, lookA_some h q5 q6⟩
    cases ok <;> simp [Instr.lookup, run_underlying hu, MapKept.run_getObj_map hh, MapKept.run_checkKey hku hK, MapKept.run_findKey hku q2, Result.andThen]
theorem look_nil {t : TypeId} {n : Int} {ok : Bool} {y : AV} (h : lookA P t none ok = some y) :
    ∃ v, (Instr.lookup t (.map none) (.int .i64 n) ok).run P w = .ok v w ∧ R3 Z β γ T w P y v := by
  have hK : MapKept.IsKey (.int .i64) (.int .i64 n) := by simp [MapKept.IsKey]
  obtain ⟨e, ht⟩ := lookA_mp (.inl h)
  obtain ⟨kt, hu, hku⟩ := mpT_inv ht
  obtain ⟨z, hz, hR⟩ := lookA_none (Z := Z) (β := β) (γ := γ) (T := T) (w := w) ht h
  refine ⟨_, ?_, hR⟩
  have q2 : Instr.findNow (.int .i64) (.int .i64 n) [] 0 = some none := rfl
  cases ok <;> simp [Instr.lookup, run_underlying hu, MapKept.run_checkKey hku hK, MapKept.run_findKey hku q2, hz, Result.andThen]
theorem makeMap_run (E : EN P w0 Z0 M0 Z β γ S T w) : EN P w0 Z0 M0 Z (β ++ [⟨w.heap.size, 0, 0, 0⟩]) γ (S ++ [.map []]) T (w.alloc (.map #[] 0)) ∧ VX Z Z β (β ++ [⟨w.heap.size, 0, 0, 0⟩]) γ γ T T w (w.alloc (.map #[] 0)) ∧
    R0 Z (β ++ [⟨w.heap.size, 0, 0, 0⟩]) γ T (w.alloc (.map #[] 0)) P (.mp S.length) (.map (some w.heap.size)) := by
  obtain ⟨E', X'⟩ := E.new (o := .map []) (x := .map #[] 0) (bk := ⟨w.heap.size, 0, 0, 0⟩) rfl (fun X => ⟨rfl, #[], 0, heap_alloc_new w _, trivial⟩)
  refine ⟨E', X', ⟨⟨w.heap.size, 0, 0, 0⟩, _, ?_, rfl, fun _ => rfl⟩⟩
  rw [← E.bl, List.getElem?_append_right (Nat.le_refl _)]; simp
theorem range_run (E : EN P w0 Z0 M0 Z β γ S T w) {t : TypeId} (s : ByteArray) (ht : isStr P t = true) : ∃ r w' β', (Instr.range t (.string s)).run P w = .ok r w' ∧ EN P w0 Z0 M0 Z β' γ (S ++ [.iter s 0]) T w' ∧ VX Z Z β β' γ γ T T w w' ∧ R3 Z β' γ T w' P (.ptr S.length 0) r := by
  have hu : P.underlying t = some .string := by
    unfold isStr at ht
    split at ht
    · assumption
    · cases ht
  obtain ⟨E', X'⟩ := E.new (o := .iter s 0) (x := .stringIter s 0) (bk := ⟨w.heap.size, 0, 0, 0⟩) rfl (fun X => ⟨rfl, heap_alloc_new w _⟩)
  refine ⟨_, _, _, by simp [Instr.range, run_underlying hu], E', X', ⟨⟨w.heap.size, 0, 0, 0⟩, ⟨w.heap.size, 0, none⟩, ?_, rfl, fun _ => rfl⟩⟩
  rw [← E.bl, List.getElem?_append_right (Nat.le_refl _)]; simp
theorem iter_ob (E : EN P w0 Z0 M0 Z β γ S T w) {id : Nat} {s : ByteArray} {pos : Nat} {v : Value} (ho : S[id]? = some (.iter s pos)) (hx : R3 Z β γ T w P (.ptr id 0) v) :
    ∃ b, β[id]? = some b ∧ b.v = 0 ∧ v = .pointer (some ⟨b.g, 0, none⟩) ∧ w.heap[b.g]? = some (.stringIter s pos) := by
  obtain ⟨b, hb, a2, a3, a4, h1, h2⟩ := E.ob id _ ho rfl
  obtain ⟨b', r, hb', rfl, hr⟩ := hx
  rw [hb] at hb'
  obtain rfl := Option.some.inj hb'
  obtain rfl := hr h1
  exact ⟨b, hb, h1, rfl, h2⟩
theorem next_run (E : EN P w0 Z0 M0 Z β γ S T w) {id ty : Nat} {s : ByteArray} {pos : Nat} {v : Value} (ho : S[id]? = some (.iter s pos)) (hx : R3 Z β γ T w P (.ptr id 0) v) (hp : pos < s.size) :
    ∃ r w', (Instr.next v true ty).run P w = .ok r w' ∧ EN P w0 Z0 M0 Z β γ (S.set id (.iter s (pos + (Utf8.decode s pos).2))) T w' ∧ VX Z Z β β γ γ T T w w' ∧
      R3 Z β γ T w' P (.tup [.v (.bool true), .v (.int .i64 pos), .v (.int .i32 (Utf8.decode s pos).1)]) r := by
  obtain ⟨b, hb, hv, rfl, hh⟩ := iter_ob E ho hx
  obtain ⟨E', X'⟩ := E.put0 (o' := .iter s (pos + (Utf8.decode s pos).2)) ho rfl hb (setBlock_keep b.g (.stringIter s (pos + (Utf8.decode s pos).2))) fun X => ⟨hv, by
    show (w.heap.setIfInBounds b.g _)[b.g]? = _
    rw [Array.getElem?_setIfInBounds_self_of_lt (lt_of_heap hh)]⟩
  refine ⟨.tuple #[.bool true, goInt pos, .int .i32 (Utf8.decode s pos).1], _, ?_, E', X', ?_⟩
  · have h1 : (getObj b.g).run P w = .ok (.stringIter s pos) w := by simp [getObj, Sem.run, hh]
    have h2 : ∀ o, (setObj b.g o).run P w = .ok () { w with heap := w.heap.setIfInBounds b.g o } := fun o => by simp [setObj, Sem.run, hh]
    simp [Instr.next, h1, h2, hp]
  · refine ⟨_, rfl, rfl, fun i hi => ?_⟩
    match i, hi with
    | 0, _ => exact DR.v _ rfl
    | 1, _ => exact DR.v _ rfl
    | 2, _ => exact DR.v _ rfl
    | n + 3, h => exact absurd h (by simp only [List.length_cons, List.length_nil]; omega)
theorem next_over (E : EN P w0 Z0 M0 Z β γ S T w) {id ty : Nat} {s : ByteArray} {pos : Nat} {v : Value} (ho : S[id]? = some (.iter s pos)) (hx : R3 Z β γ T w P (.ptr id 0) v) (hp : ¬ pos < s.size) :
    (Instr.next v true ty).run P w = .ok (.tuple #[.bool false]) w := by
  obtain ⟨b, hb, hv, rfl, hh⟩ := iter_ob E ho hx
  have h1 : (getObj b.g).run P w = .ok (.stringIter s pos) w := by simp [getObj, Sem.run, hh]
  simp [Instr.next, h1, hp]
theorem len_map_run (E : EN P w0 Z0 M0 Z β γ S T w) {t e ty : TypeId} {id : Nat} {es : List (Int × AV)} {vm : Value} (ht : mpT P t = some e) (hm : R3 Z β γ T w P (.mp id) vm) (ho : S[id]? = some (.map es)) :
    (Builtin.len_ #[t] ty #[vm]).run P w = .ok (.int .i64 es.length) w := by
  obtain ⟨kt, hu, hku⟩ := mpT_inv ht
  obtain ⟨b, ens, clk, hb, hv, rfl, hh, hME⟩ := map_ob E ho hm
  have := ME_len es ens.toList hME
  simp at this
  simp [Builtin.len_, run_underlying hu, MapKept.run_getObj_map hh, goInt, this]
end
end Go.Proofs.Ytplpmelpoajpdaa.Ev
namespace Go.Proofs.Ytplpmelpoajpdaa.Ev
open Go
set_option linter.unusedSectionVars false
set_option linter.unusedVariables false
set_option linter.unusedSimpArgs false
section
variable [TVm] {P : Program} {w0 : World} {Z0 : Zs} {M0 : Nat → Prop} {Z Z' : Zs} {β : List Bk} {γ : List Value} {S : Obs} {T : Toks} {w w' : World}
/-- What an operation has done. -/
def Did (P : Program) (w0 : World) (Z0 : Zs) (M0 : Nat → Prop) (Z : Zs) (β : List Bk) (γ : List Value) (T : Toks) (w : World) (r : Result Next) (x : AV) (S' : Obs) (T' : Toks) : Prop :=
  ∃ n v w' Z' β' γ', r = .ok n w' ∧ (n = .value v ∨ (n = .skip ∧ v = undef)) ∧ EN P w0 Z0 M0 Z' β' γ' S' T' w' ∧ VX Z Z' β β' γ γ' T T' w w' ∧ R3 Z' β' γ' T' w' P x v
theorem Did.quiet (E : EN P w0 Z0 M0 Z β γ S T w) {x : AV} {v : Value} (h : R3 Z β γ T w P x v) : Did P w0 Z0 M0 Z β γ T w (.ok (.value v) w) x S T :=
  ⟨_, v, w, Z, β, γ, rfl, .inl rfl, E, .refl _ _ _ _ _, h⟩
theorem vrun {s : Sem Value} {v : Value} (h : s.run P w = .ok v w') : (do pure (.value (← s)) : Sem Next).run P w = .ok (.value v) w' := by
  simp [h]
theorem min_run {b : Bool} {x y r : AV} {u v : Value} (hx : R3 Z β γ T w P x u) (hy : R3 Z β γ T w P y v) (h : mmA b [x, y] = some r) (ts : Array TypeId) (t : TypeId) :
    ∃ q, (if b = true then Builtin.max_ ts t #[u, v] else Builtin.min_ ts t #[u, v]).run P w = .ok q w ∧ R3 Z β γ T w P r q := by
  unfold mmA at h
  split at h
  · rename_i k a k' c heq
    simp only [List.cons.injEq, and_true] at heq
    obtain ⟨rfl, rfl⟩ := heq
    split at h
    · rename_i e
      subst e
      simp only [Option.some.injEq] at h
      subst h
      obtain ⟨rfl, _⟩ := hx.v_inv
      obtain ⟨rfl, _⟩ := hy.v_inv
      cases b with
      | true => exact ⟨_, by simp [Builtin.max_, Builtin.max2], .of_v rfl⟩
      | false => exact ⟨_, by simp [Builtin.min_, Builtin.min2], .of_v rfl⟩
    · cases h
  · cases h
set_option maxHeartbeats 1000000 in
theorem coreQ_sound (E : EN P w0 Z0 M0 Z β γ S T w) {fr : List AV} {a : Act} (F : FR P Z β γ T w fr a) (o : Oper) {x : AV} (h : coreQ P o (opd fr) = some x) :
    Did P w0 Z0 M0 Z β γ T w ((execOp a.eval o).run P w) x S T := by
  obtain ⟨dst, op, ty, pos, after, guard⟩ := o
  cases op with
  | move y =>
    simp only [coreQ, Option.some.injEq] at h
    subst h
    exact .quiet E (opd_r F y)
  | assign y =>
    simp only [coreQ, Option.some.injEq] at h
    subst h
    exact .quiet E (opd_r F y)
  | pick c p q =>
    simp only [coreQ] at h
    split at h
    case h_2 => cases h
    rename_i b hb
    simp only [Option.some.injEq] at h
    subst h
    have hc := opd_r F c
    rw [hb] at hc
    obtain ⟨hc, _⟩ := hc.v_inv
    have e : (execOp a.eval ⟨dst, .pick c p q, ty, pos, after, guard⟩).run P w = .ok (.value (if b = true then a.eval p else a.eval q)) w := by
      simp [execOp, hc, asBool]
    rw [e]
    refine .quiet E ?_
    cases b
    · exact opd_r F q
    · exact opd_r F p
  | build t ps =>
    simp only [coreQ] at h
    split at h
    case h_2 => cases h
    rename_i z hz
    split at h
    case isFalse => cases h
    rename_i hb
    obtain ⟨cs, hcs, rfl⟩ := Option.map_eq_some_iff.1 h
    obtain ⟨r, hr, hR⟩ := build_run F hz hb hcs
    have e : (execOp a.eval ⟨dst, .build t ps, ty, pos, after, guard⟩).run P w = .ok (.value r) w := vrun hr
    rw [e]
    exact .quiet E hR
  | buildSlice t n ps =>
    simp only [coreQ] at h
    split at h
    case h_2 => cases h
    rename_i el he
    split at h
    case h_2 => cases h
    rename_i k ag z hk hag hz
    split at h
    case isFalse => cases h
    rename_i hc
    obtain ⟨c1, c2, c3, c4, c5, c6⟩ := hc
    simp only [Option.some.injEq] at h
    subst h
    obtain ⟨r, w', Z', hr, E', X', hR⟩ := rows_run E F he hk hz c1 c2 c3 c4 c5 c6
    exact ⟨_, r, w', Z', β, γ, vrun hr, .inl rfl, E', X', hR⟩
  | nilCheck y =>
    have hy := opd_r F y
    simp only [coreQ] at h
    split at h
    · rename_i id off he
      simp only [Option.some.injEq] at h
      subst h
      rw [he] at hy
      have hy' := hy
      obtain ⟨b, ad, _, hv, _⟩ := hy'
      have e : (execOp a.eval ⟨dst, .nilCheck y, ty, pos, after, guard⟩).run P w = .ok (.value (a.eval y)) w := by simp [execOp, hv]
      rw [e]; exact .quiet E hy
    · rename_i cs he
      simp only [Option.some.injEq] at h
      subst h
      rw [he] at hy
      obtain ⟨b, p, xs, hv, _⟩ := DR.ea_inv (show DR Z w (.ea cs) (a.eval y) from hy)
      have e : (execOp a.eval ⟨dst, .nilCheck y, ty, pos, after, guard⟩).run P w = .ok (.value (a.eval y)) w := by simp [execOp, hv]
      rw [e]; exact .quiet E hy
    · rename_i f c he
      simp only [Option.some.injEq] at h
      subst h
      rw [he] at hy
      have hy' := hy
      obtain ⟨xs, hv, _⟩ := hy'
      have e : (execOp a.eval ⟨dst, .nilCheck y, ty, pos, after, guard⟩).run P w = .ok (.value (a.eval y)) w := by simp [execOp, hv]
      rw [e]; exact .quiet E hy
    · rename_i id ver i off he
      simp only [Option.some.injEq] at h
      subst h
      rw [he] at hy
      have hy' := hy
      obtain ⟨b, ad, _, _, hv, _⟩ := hy'
      have e : (execOp a.eval ⟨dst, .nilCheck y, ty, pos, after, guard⟩).run P w = .ok (.value (a.eval y)) w := by simp [execOp, hv]
      rw [e]; exact .quiet E hy
    · cases h
  | binOp op t y z t' =>
    simp only [coreQ] at h
    have hr := h
    obtain ⟨v, hv, hR⟩ := binA_run hr (opd_r F y) (opd_r F z) y z rfl
    have e : (execOp a.eval ⟨dst, .binOp op t y z t', ty, pos, after, guard⟩).run P w = .ok (.value v) w := vrun hv
    rw [e]; exact .quiet E hR
  | unOp op t y =>
    simp only [coreQ] at h
    have hr := h
    obtain ⟨v, hv, hR⟩ := unA_run hr (opd_r F y)
    have e : (execOp a.eval ⟨dst, .unOp op t y, ty, pos, after, guard⟩).run P w = .ok (.value v) w := vrun hv
    rw [e]; exact .quiet E hR
  | convert s d y =>
    simp only [coreQ] at h
    split at h
    case isFalse => cases h
    rename_i hs
    have hr := h
    obtain ⟨v, hv, hR⟩ := convA_run hr hs (opd_r F y)
    have e : (execOp a.eval ⟨dst, .convert s d y, ty, pos, after, guard⟩).run P w = .ok (.value v) w := vrun hv
    rw [e]; exact .quiet E hR
  | fieldAddr t y i =>
    simp only [coreQ] at h
    split at h
    case h_2 => cases h
    rename_i off n ag hf
    split at h
    case isFalse => cases h
    rename_i hn
    have hr := h
    obtain ⟨u, hu, hR⟩ := fieldAddr_run (opd_r F y) hf hn hr
    have e : (execOp a.eval ⟨dst, .fieldAddr t y i, ty, pos, after, guard⟩).run P w = .ok (.value u) w := vrun hu
    rw [e]; exact .quiet E hR
  | field t y i =>
    simp only [coreQ] at h
    split at h
    case h_2 => cases h
    rename_i off n ag hf
    split at h
    case h_2 => cases h
    rename_i cs he
    split at h
    case isFalse => cases h
    rename_i hc
    have hr := h
    have hy := opd_r F y
    rw [he] at hy
    obtain ⟨u, hu, hR⟩ := field_run hy hf hc.1 hc.2 hr
    have e : (execOp a.eval ⟨dst, .field t y i, ty, pos, after, guard⟩).run P w = .ok (.value u) w := vrun hu
    rw [e]; exact .quiet E hR
  | indexAddr t y i =>
    simp only [coreQ] at h
    have hr := h
    obtain ⟨v, hv, hR⟩ := elA_run hr (opd_r F y) (opd_r F i)
    have e : (execOp a.eval ⟨dst, .indexAddr t y i, ty, pos, after, guard⟩).run P w = .ok (.value v) w := vrun hv
    rw [e]; exact .quiet E hR
  | index t y i =>
    simp only [coreQ] at h
    have hr := h
    obtain ⟨v, hv, hR⟩ := ixA_run hr (opd_r F y) (opd_r F i)
    have e : (execOp a.eval ⟨dst, .index t y i, ty, pos, after, guard⟩).run P w = .ok (.value v) w := vrun hv
    rw [e]; exact .quiet E hR
  | slice t y lo hi mx =>
    simp only [coreQ] at h
    have hr := h
    obtain ⟨v, hv, hR⟩ := slA_run F (opd_r F y) hr
    have e : (execOp a.eval ⟨dst, .slice t y lo hi mx, ty, pos, after, guard⟩).run P w = .ok (.value v) w := vrun hv
    rw [e]; exact .quiet E hR
  | makeFunc fn first cap =>
    cases fn with
    | func f =>
      simp only [coreQ] at h
      split at h
      case isFalse => cases h
      rename_i hc
      obtain ⟨hc1, hc2⟩ := hc
      simp only [Option.some.injEq] at h
      subst h
      have hf : first = #[] := Array.eq_empty_of_size_eq_zero hc1
      subst hf
      have e : (execOp a.eval ⟨dst, .makeFunc (.func f) #[] cap, ty, pos, after, guard⟩).run P w = .ok (.value (.func (.func f) #[] (cap.map a.eval))) w := by
        simp [execOp, Instr.makeFunc]
      rw [e]
      refine .quiet E ⟨cap.map a.eval, rfl, by simp, fun i hi => ?_⟩
      have hi' : i < cap.size := by simpa using hi
      have e1 : (cap.toList.map (opd fr)).getD i .dead = opd fr cap[i] := by simp [List.getD_eq_getElem?_getD, hi']
      have e2 : (cap.map a.eval).getD i undef = a.eval cap[i] := by simp [Array.getD, hi']
      rw [e1, e2]
      have h1 := opd_r F cap[i]
      have h2 := List.all_eq_true.mp hc2 cap[i] (by simp)
      generalize opd fr cap[i] = q at *
      cases q with
      | fn f c => cases h2
      | agg cs => cases h2
      | tup l => cases h2
      | _ => exact h1
    | _ => simp [coreQ] at h
  | extract y i =>
    simp only [coreQ] at h
    split at h
    case h_2 => cases h
    rename_i l he
    split at h
    case h_2 => cases h
    rename_i z hz
    split at h
    case isFalse => cases h
    rename_i hnt
    simp only [Option.some.injEq] at h
    subst h
    have hy := opd_r F y
    rw [he] at hy
    obtain ⟨xs, hv, hl, hR⟩ := hy
    obtain ⟨hi, hzi⟩ := List.getElem?_eq_some_iff.1 hz
    have h1 := hR i hi
    have e1 : l.getD i .dead = z := by simp [List.getD_eq_getElem?_getD, hz]
    have hi' : i < xs.size := by omega
    have e2 : xs.getD i undef = xs[i] := by simp [Array.getD, hi']
    rw [e1, e2] at h1
    have e : (execOp a.eval ⟨dst, .extract y i, ty, pos, after, guard⟩).run P w = .ok (.value xs[i]) w := by
      simp [execOp, Instr.extract, hv, hi']
    rw [e]
    exact .quiet E (h1.r3 (by intro l' e'; subst e'; cases hnt))
  | call c =>
    obtain ⟨callee, args, tys⟩ := c
    have hargs : ∀ l, args.toList = l → args = l.toArray := fun l e => by apply Array.ext'; simpa using e
    have htys : ∀ l, tys.toList = l → tys = l.toArray := fun l e => by apply Array.ext'; simpa using e
    simp only [coreQ] at h
    split at h
    · rename_i y ha
      split at h
      case h_2 => cases h
      rename_i t ht
      obtain rfl := hargs _ ha
      obtain rfl := htys _ ht
      have hy := opd_r F y
      split at h
      · rename_i b hu he
        simp only [Option.some.injEq] at h
        subst h
        rw [he] at hy
        obtain ⟨hv, _⟩ := hy.v_inv
        have e : (execOp a.eval ⟨dst, .call ⟨.builtin .len, #[y], #[t]⟩, ty, pos, after, guard⟩).run P w = .ok (.value (.int .i64 b.size)) w := by
          simp [execOp, resolve, invoke, builtin, Builtin.len_, run_underlying hu, hv, goInt]
        rw [e]; exact .quiet E (.of_v rfl)
      · rename_i el o l hu he
        simp only [Option.some.injEq] at h
        subst h
        rw [he] at hy
        obtain ⟨A, c, hv⟩ : ∃ A c, a.eval y = .slice A l.length c := by
          rcases (DR.sl_inv hy.1) with ⟨rfl, _, _, h1, _⟩ | ⟨b', p', c', k', xs, h1, _⟩
          · exact ⟨_, _, h1⟩
          · exact ⟨_, _, h1⟩
        have e : (execOp a.eval ⟨dst, .call ⟨.builtin .len, #[y], #[t]⟩, ty, pos, after, guard⟩).run P w = .ok (.value (.int .i64 l.length)) w := by
          simp [execOp, resolve, invoke, builtin, Builtin.len_, run_underlying hu, hv, goInt]
        rw [e]; exact .quiet E (.of_v rfl)
      · rename_i el id ver n hu he
        simp only [Option.some.injEq] at h
        subst h
        rw [he] at hy
        obtain ⟨bk, A, c, _, _, hv, _⟩ := hy
        have e : (execOp a.eval ⟨dst, .call ⟨.builtin .len, #[y], #[t]⟩, ty, pos, after, guard⟩).run P w = .ok (.value (.int .i64 n)) w := by
          simp [execOp, resolve, invoke, builtin, Builtin.len_, run_underlying hu, hv, goInt]
        rw [e]; exact .quiet E (.of_v rfl)
      · rename_i kt et hu he
        simp only [Option.some.injEq] at h
        subst h
        rw [he] at hy
        obtain ⟨hv, _⟩ := hy.v_inv
        have e : (execOp a.eval ⟨dst, .call ⟨.builtin .len, #[y], #[t]⟩, ty, pos, after, guard⟩).run P w = .ok (.value (.int .i64 0)) w := by
          simp [execOp, resolve, invoke, builtin, Builtin.len_, run_underlying hu, hv, goInt]
        rw [e]; exact .quiet E (.of_v rfl)
      · cases h
    · rename_i y z ha
      obtain rfl := hargs _ ha
      obtain ⟨q, hq, hR⟩ := min_run (opd_r F y) (opd_r F z) h tys ty
      have e : (execOp a.eval ⟨dst, .call ⟨.builtin .min, #[y, z], tys⟩, ty, pos, after, guard⟩).run P w = .ok (.value q) w := by
        simp only [Bool.false_eq_true, if_false] at hq
        simp [execOp, resolve, invoke, builtin, hq]
      rw [e]; exact .quiet E hR
    · rename_i y z ha
      obtain rfl := hargs _ ha
      obtain ⟨q, hq, hR⟩ := min_run (opd_r F y) (opd_r F z) h tys ty
      have e : (execOp a.eval ⟨dst, .call ⟨.builtin .max, #[y, z], tys⟩, ty, pos, after, guard⟩).run P w = .ok (.value q) w := by
        simp only [if_true] at hq
        simp [execOp, resolve, invoke, builtin, hq]
      rw [e]; exact .quiet E hR
    · cases h
  | makeInterface t y =>
    simp only [coreQ] at h
    split at h
    case isFalse => cases h
    rename_i hc
    obtain ⟨hi, hd⟩ := hc
    simp only [Option.some.injEq] at h
    subst h
    have hy : DR Z w (opd fr y) (a.eval y) := (opd_r F y).dr (by
      generalize opd fr y = q at hd
      cases q <;> first | exact hd | exact absurd hd (by simp [d2, d1, d0]))
    have e : (execOp a.eval ⟨dst, .makeInterface t y, ty, pos, after, guard⟩).run P w = .ok (.value (.iface t (a.eval y))) w := by
      unfold isIfT at hi
      cases hu : P.underlying t with
      | none => rw [hu] at hi; cases hi
      | some d => cases d <;> first | (rw [hu] at hi; cases hi; done) | simp [execOp, Instr.makeInterface, run_underlying hu]
    rw [e]
    exact .quiet E (DR.ifc t _ _ hy.s2)
  | typeAssert y xt at' ok =>
    simp only [coreQ] at h
    split at h
    case isFalse => cases h
    rename_i hi
    have hy := opd_r F y
    obtain ⟨d, hu, hnd⟩ : ∃ d, P.underlying at' = some d ∧ ∀ ms, d ≠ .interface ms := by
      unfold isIfT at hi
      split at hi
      · cases hi
      · rename_i d hne hu
        exact ⟨d, hu, fun ms e => hne ms e⟩
      · cases hi
    split at h
    · rename_i t x he
      rw [he] at hy
      obtain ⟨u, hv, hD⟩ := ifc_inv hy
      have h2 : ∀ q, d2 q = true → True := fun _ _ => trivial
      by_cases hta : t = at'
      · subst hta
        rw [if_pos rfl] at h
        have hrun : (Instr.typeAssert (.iface t u) xt t ok).run P w = .ok (if ok = true then .tuple #[u, .bool true] else u) w := by
          cases d <;> first | exact absurd rfl (hnd _) | (cases ok <;> simp [Instr.typeAssert, run_underlying hu])
        have e : (execOp a.eval ⟨dst, .typeAssert y xt t ok, ty, pos, after, guard⟩).run P w = .ok (.value (if ok = true then .tuple #[u, .bool true] else u)) w := by
          have : (execOp a.eval ⟨dst, .typeAssert y xt t ok, ty, pos, after, guard⟩) = (do pure (.value (← Instr.typeAssert (a.eval y) xt t ok)) : Sem Next) := rfl
          rw [this, hv]; exact vrun hrun
        rw [e]
        cases ok with
        | true =>
          simp only [if_true, Option.some.injEq] at h
          subst h
          exact .quiet E (tup2 hD.r2 (DR.v _ rfl))
        | false =>
          simp only [Bool.false_eq_true, if_false] at h
          split at h
          case isFalse => cases h
          rename_i hd2
          simp only [Option.some.injEq] at h
          subst h
          exact .quiet E (hD.r3' hd2)
      · rw [if_neg hta] at h
        cases ok with
        | false => simp at h
        | true =>
          simp only [if_true] at h
          obtain ⟨z, hz, h⟩ := Option.map_eq_some_iff.1 h
          subst h
          obtain ⟨v, hv2, hDz, _, _⟩ := zeroA_run hz
          have hrun : (Instr.typeAssert (.iface t u) xt at' true).run P w = .ok (.tuple #[v, .bool false]) w := by
            cases d <;> first | exact absurd rfl (hnd _) | simp [Instr.typeAssert, run_underlying hu, hta, hv2]
          have e : (execOp a.eval ⟨dst, .typeAssert y xt at' true, ty, pos, after, guard⟩).run P w = .ok (.value (.tuple #[v, .bool false])) w := by
            have : (execOp a.eval ⟨dst, .typeAssert y xt at' true, ty, pos, after, guard⟩) = (do pure (.value (← Instr.typeAssert (a.eval y) xt at' true)) : Sem Next) := rfl
            rw [this, hv]; exact vrun hrun
          rw [e]
          exact .quiet E (tup2 (hDz Z w).r2 (DR.v _ rfl))
    · rename_i he
      rw [he] at hy
      obtain ⟨hv, _⟩ := hy.v_inv
      cases ok with
      | false => simp at h
      | true =>
        simp only [if_true] at h
        obtain ⟨z, hz, h⟩ := Option.map_eq_some_iff.1 h
        subst h
        obtain ⟨v, hv2, hDz, _, _⟩ := zeroA_run hz
        have hrun : (Instr.typeAssert .nilIface xt at' true).run P w = .ok (.tuple #[v, .bool false]) w := by
          cases d <;> first | exact absurd rfl (hnd _) | simp [Instr.typeAssert, run_underlying hu, hv2]
        have e : (execOp a.eval ⟨dst, .typeAssert y xt at' true, ty, pos, after, guard⟩).run P w = .ok (.value (.tuple #[v, .bool false])) w := by
          have : (execOp a.eval ⟨dst, .typeAssert y xt at' true, ty, pos, after, guard⟩) = (do pure (.value (← Instr.typeAssert (a.eval y) xt at' true)) : Sem Next) := rfl
          rw [this, hv]; exact vrun hrun
        rw [e]
        exact .quiet E (tup2 (hDz Z w).r2 (DR.v _ rfl))
    · cases h
  | _ => simp [coreQ] at h
theorem isApp_inv {o : Oper} {s x : Operand} {t : TypeId} (h : isApp o = some (s, x, t)) : o.op = .call ⟨.builtin .append, #[s, x], #[t, t]⟩ := by
  unfold isApp at h
  split at h
  case h_2 => cases h
  rename_i args tys ho
  split at h
  case h_2 => cases h
  rename_i s' x' t1 t2 ha ht
  split at h
  case isFalse => cases h
  rename_i e
  subst e
  simp only [Option.some.injEq, Prod.mk.injEq] at h
  obtain ⟨rfl, rfl, rfl⟩ := h
  have h1 : args = #[s', x'] := by apply Array.ext'; simpa using ha
  have h2 : tys = #[t1, t1] := by apply Array.ext'; simpa using ht
  rw [ho, h1, h2]
theorem isDel_inv {o : Oper} {m k : Operand} {t : TypeId} (h : isDel o = some (m, k, t)) : ∃ tys : Array TypeId, o.op = .call ⟨.builtin .delete, #[m, k], tys⟩ ∧ tys[0]? = some t := by
  unfold isDel at h
  split at h
  case h_2 => cases h
  rename_i args tys ho
  split at h
  case h_2 => cases h
  rename_i m' k' t' rest ha ht
  simp only [Option.some.injEq, Prod.mk.injEq] at h
  obtain ⟨rfl, rfl, rfl⟩ := h
  have h1 : args = #[m', k'] := by apply Array.ext'; simpa using ha
  exact ⟨tys, by rw [ho, h1], by rw [← Array.getElem?_toList, ht]; rfl⟩
theorem isLen_inv {o : Oper} {m : Operand} {t : TypeId} (h : isLen o = some (m, t)) : o.op = .call ⟨.builtin .len, #[m], #[t]⟩ := by
  unfold isLen at h
  split at h
  case h_2 => cases h
  rename_i args tys ho
  split at h
  case h_2 => cases h
  rename_i m' t' ha ht
  simp only [Option.some.injEq, Prod.mk.injEq] at h
  obtain ⟨rfl, rfl⟩ := h
  have h1 : args = #[m'] := by apply Array.ext'; simpa using ha
  have h2 : tys = #[t'] := by apply Array.ext'; simpa using ht
  rw [ho, h1, h2]
theorem isClr_inv {o : Oper} {m : Operand} {t : TypeId} (h : isClr o = some (m, t)) : o.op = .call ⟨.builtin .clear, #[m], #[t]⟩ := by
  unfold isClr at h
  split at h
  case h_2 => cases h
  rename_i args tys ho
  split at h
  case h_2 => cases h
  rename_i m' t' ha ht
  simp only [Option.some.injEq, Prod.mk.injEq] at h
  obtain ⟨rfl, rfl⟩ := h
  have h1 : args = #[m'] := by apply Array.ext'; simpa using ha
  have h2 : tys = #[t'] := by apply Array.ext'; simpa using ht
  rw [ho, h1, h2]
/-- Operations of other kinds. -/
def plainOp : Op → Bool
  | .alloc _ => false
  | .box _ _ => false
  | .load _ _ => false
  | .store _ _ _ => false
  | .indexAddr _ _ _ => false
  | .makeSlice _ _ _ => false
  | .buildSlice _ _ _ => false
  | .makeMap _ _ => false
  | .insert _ _ _ _ => false
  | .mapUpdate _ _ _ _ => false
  | .lookup _ _ _ _ => false
  | .range _ _ => false
  | .next _ _ => false
  | _ => true
/-- What is done with those. -/
def coreP (P : Program) (rw : Bool) (o : Oper) (e : Operand → AV) (S : Obs) (T : Toks) : Option (AV × Obs × Toks) := match isApp o with
    | some (s, x, t) => appX P rw t (e s) (e x) S T
    | none => match isDel o with
      | some (m, k, t) => (match e m, mpT P t, keyV (e k) with
        | .mp id, some _, some n => (match S[id]? with
          | some (.map es) => some (.tup [], S.set id (.map (mdel es n)), T)
          | _ => none)
        | _, _, _ => none)
      | none => match isClr o with
        | some (m, t) => (clrA P t (e m) S).map fun S' => (.tup [], S', T)
        | none => match isLen o with
        | some (m, t) => (match e m with
          | .mp id => (match S[id]? with
            | some (.map es) => if (mpT P t).isSome = true then some (.v (.int .i64 es.length), S, T) else none
            | _ => none)
          | _ => (coreQ P o e).map fun r => (r, S, T))
        | none => (coreQ P o e).map fun r => (r, S, T)
theorem core_rest {rw : Bool} {o : Oper} {e : Operand → AV} (h : plainOp o.op = true) : core P rw o e S T = coreP P rw o e S T := by
  obtain ⟨dst, op, ty, pos, after, guard⟩ := o
  cases op with
  | alloc t => cases h
  | box t y => cases h
  | load t y => cases h
  | store t y z => cases h
  | indexAddr t y z => cases h
  | makeSlice t y z => cases h
  | buildSlice t y z => cases h
  | makeMap t y => cases h
  | insert t y z q => cases h
  | mapUpdate t y z q => cases h
  | lookup t y z q => cases h
  | range t y => cases h
  | next t y => cases h
  | _ => rfl
theorem quiet_map (E : EN P w0 Z0 M0 Z β γ S T w) {fr : List AV} {a : Act} (F : FR P Z β γ T w fr a) (o : Oper) {x : AV} {S' : Obs} {T' : Toks} (h : ((coreQ P o (opd fr)).map fun r => (r, S, T)) = some (x, S', T')) :
    Did P w0 Z0 M0 Z β γ T w ((execOp a.eval o).run P w) x S' T' := by
  obtain ⟨r, hr, h⟩ := Option.map_eq_some_iff.1 h
  simp only [Prod.mk.injEq] at h
  obtain ⟨rfl, rfl, rfl⟩ := h
  exact coreQ_sound E F o hr
theorem upd_did (E : EN P w0 Z0 M0 Z β γ S T w) {fr : List AV} {a : Act} (F : FR P Z β γ T w fr a) {t : TypeId} {m k y : Operand} {x : AV} {S' : Obs} {T' : Toks}
    (h : (match opd fr m, mpT P t, keyV (opd fr k) with
      | .mp id, some _, some n => (match S[id]? with
        | some (.map es) => if d2 (opd fr y) = true ∧ nt (opd fr y) = true then some (AV.tup [], S.set id (.map (mset es n (s2 (opd fr y)))), T) else none
        | _ => none)
      | _, _, _ => none) = some (x, S', T')) :
    ∃ w', (Instr.mapUpdate t (a.eval m) (a.eval k) (a.eval y)).run P w = .ok () w' ∧ EN P w0 Z0 M0 Z β γ S' T' w' ∧ VX Z Z β β γ γ T T' w w' ∧ x = .tup [] := by
  split at h
  case h_2 => cases h
  rename_i id e n hm ht hk
  split at h
  case h_2 => cases h
  rename_i es ho
  split at h
  case isFalse => cases h
  rename_i hc
  simp only [Option.some.injEq, Prod.mk.injEq] at h
  obtain ⟨rfl, rfl, rfl⟩ := h
  have hm' := opd_r F m
  rw [hm] at hm'
  obtain ⟨w', h1, h2, h3⟩ := update_run E ht hm' (keyV_inv hk (opd_r F k)) (opd_r F y) ho hc.1 hc.2
  exact ⟨w', h1, h2, h3, rfl⟩
theorem core_sound (E : EN P w0 Z0 M0 Z β γ S T w) {fr : List AV} {a : Act} (F : FR P Z β γ T w fr a) (rw' : Bool) (o : Oper) {x : AV} {S' : Obs} {T' : Toks} (h : core P rw' o (opd fr) S T = some (x, S', T')) :
    Did P w0 Z0 M0 Z β γ T w ((execOp a.eval o).run P w) x S' T' := by
  have rest : plainOp o.op = true → Did P w0 Z0 M0 Z β γ T w ((execOp a.eval o).run P w) x S' T' := by
    intro hp
    rw [core_rest hp] at h
    unfold coreP at h
    split at h
    · rename_i s y t hap
      have ho := isApp_inv hap
      obtain ⟨r, w', Z', β', γ', hrun, E', X', hR⟩ := appX_run (ty := o.type) E (opd_r F s) (opd_r F y) h
      refine ⟨_, r, w', Z', β', γ', ?_, .inl rfl, E', X', hR⟩
      simp [execOp, ho, resolve, invoke, builtin, hrun]
    · split at h
      · rename_i m k t hdl
        obtain ⟨tys, ho, hty⟩ := isDel_inv hdl
        split at h
        case h_2 => cases h
        rename_i id e n hm ht hk
        split at h
        case h_2 => cases h
        rename_i es hs
        simp only [Option.some.injEq, Prod.mk.injEq] at h
        obtain ⟨rfl, rfl, rfl⟩ := h
        have hm' := opd_r F m
        rw [hm] at hm'
        obtain ⟨w', hrun, E', X'⟩ := delete_run (ty := o.type) E hty ht hm' (keyV_inv hk (opd_r F k)) hs
        refine ⟨_, .tuple #[], w', Z, β, γ, ?_, .inl rfl, E', X', ⟨#[], rfl, rfl, fun i hi => absurd hi (by simp)⟩⟩
        simp [execOp, ho, resolve, invoke, builtin, hrun]
      · split at h
        · rename_i m t hcl
          have ho := isClr_inv hcl
          obtain ⟨S1, hS1, h⟩ := Option.map_eq_some_iff.1 h
          simp only [Prod.mk.injEq] at h
          obtain ⟨rfl, rfl, rfl⟩ := h
          obtain ⟨w', hrun, E', X'⟩ := clear_run (ty := o.type) E (opd_r F m) hS1
          refine ⟨_, .tuple #[], w', Z, β, γ, ?_, .inl rfl, E', X', ⟨#[], rfl, rfl, fun i hi => absurd hi (by simp)⟩⟩
          simp [execOp, ho, resolve, invoke, builtin, hrun]
        split at h
        · rename_i m t hln
          have ho := isLen_inv hln
          split at h
          · rename_i id hm
            split at h
            case h_2 => cases h
            rename_i es hs
            split at h
            case isFalse => cases h
            rename_i ht
            obtain ⟨e, ht⟩ := Option.isSome_iff_exists.1 ht
            simp only [Option.some.injEq, Prod.mk.injEq] at h
            obtain ⟨rfl, rfl, rfl⟩ := h
            have hm' := opd_r F m
            rw [hm] at hm'
            have hrun := len_map_run (ty := o.type) E ht hm' hs
            have e : (execOp a.eval o).run P w = .ok (.value (.int .i64 es.length)) w := by
              simp [execOp, ho, resolve, invoke, builtin, hrun]
            rw [e]
            exact .quiet E (.of_v rfl)
          · exact quiet_map E F o h
        · exact quiet_map E F o h
  obtain ⟨dst, op, ty, pos, after, guard⟩ := o
  cases op with
  | alloc t =>
    simp only [core] at h
    split at h
    case h_2 => cases h
    rename_i cs hcs
    simp only [Option.some.injEq, Prod.mk.injEq] at h
    obtain ⟨rfl, rfl, rfl⟩ := h
    obtain ⟨z0, hz0, rfl⟩ := run_zero (w := w) hcs
    obtain ⟨E', X'⟩ := E.new (o := .var false (z0.cells.toList.map toAV0)) (x := .cells z0.cells t) (bk := ⟨w.heap.size, 0, 0, 0⟩) rfl (fun X => ⟨rfl, (fun h => by cases h), z0.cells, t, heap_alloc_new w _, by simp, fun j hj => by
      have hj' : j < z0.cells.size := by simpa using hj
      have e1 : (z0.cells.toList.map toAV0).getD j .dead = toAV0 z0.cells[j] := by simp [List.getD_eq_getElem?_getD, hj']
      have e2 : z0.cells.getD j undef = z0.cells[j] := by simp [Array.getD, hj']
      rw [e1, e2]; exact toAV0_r1⟩)
    refine ⟨_, .pointer (some ⟨w.heap.size, 0, none⟩), _, Z, _, γ, ?_, .inl rfl, E', X', ⟨w.heap.size, 0, 0, 0⟩, ⟨w.heap.size, 0, none⟩, ?_, rfl, fun _ => rfl⟩
    · simp [execOp, Instr.alloc, hz0, newVar, newRow]
    · rw [← E.bl, List.getElem?_append_right (Nat.le_refl _)]; simp
  | box t y =>
    simp only [core] at h
    split at h
    case isFalse => cases h
    rename_i hone
    simp only [Option.some.injEq, Prod.mk.injEq] at h
    obtain ⟨rfl, rfl, rfl⟩ := h
    have hrl := (opd_r F y).rl hone
    obtain ⟨E', X'⟩ := E.new (o := .var false (cellsT (opd fr y).cells)) (x := .cells (a.eval y).cells t) (bk := ⟨w.heap.size, 0, 0, 0⟩) rfl (fun X => ⟨rfl, (fun h => by cases h), (a.eval y).cells, t, heap_alloc_new w _, by rw [cellsT_len]; simpa using hrl.1, fun j hj => by
      have hj' : j < (opd fr y).cells.length := by rw [cellsT_len] at hj; exact hj
      rw [← getD_toList]
      exact (cellsT_r hj' (hrl.2 j hj')).ext X.vars⟩)
    refine ⟨_, .pointer (some ⟨w.heap.size, 0, none⟩), _, Z, _, γ, ?_, .inl rfl, E', X', ⟨w.heap.size, 0, 0, 0⟩, ⟨w.heap.size, 0, none⟩, ?_, rfl, fun _ => rfl⟩
    · simp [execOp, Instr.box, newVar, newRow]
    · rw [← E.bl, List.getElem?_append_right (Nat.le_refl _)]; simp
  | load t y =>
    simp only [core] at h
    split at h
    case h_2 => cases h
    rename_i ag n hag hn
    split at h
    case isFalse => cases h
    rename_i hc
    split at h
    case h_2 => cases h
    rename_i cs hcs
    obtain ⟨z, hz, h⟩ := Option.map_eq_some_iff.1 h
    simp only [Prod.mk.injEq] at h
    obtain ⟨rfl, rfl, rfl⟩ := h
    obtain ⟨u, _, hr, hR⟩ := load_run E (opd_r F y) hag hn hc hcs hz
    have e : (execOp a.eval ⟨dst, .load t y, ty, pos, after, guard⟩).run P w = .ok (.value u) w := vrun hr
    rw [e]
    exact .quiet E hR
  | store t y z =>
    simp only [core] at h
    split at h
    case h_2 => cases h
    rename_i n hn
    split at h
    case isFalse => cases h
    rename_i hl
    obtain ⟨S1, hS, h⟩ := Option.map_eq_some_iff.1 h
    simp only [Prod.mk.injEq] at h
    obtain ⟨rfl, rfl, rfl⟩ := h
    obtain ⟨w', Z', hr, E', X'⟩ := store_run E (opd_r F y) (opd_r F z) hn hl hS
    refine ⟨.skip, undef, w', Z', β, γ, ?_, .inr ⟨rfl, rfl⟩, E', X', ⟨#[], rfl, rfl, fun i hi => absurd hi (by simp)⟩⟩
    simp [execOp, hr]
  | indexAddr t y i =>
    simp only [core] at h
    split at h
    · rename_i id ver n he
      obtain ⟨r, hr, h⟩ := Option.map_eq_some_iff.1 h
      simp only [Prod.mk.injEq] at h
      obtain ⟨rfl, rfl, rfl⟩ := h
      have hy := opd_r F y
      rw [he] at hy
      obtain ⟨u, hu, hR⟩ := elM_run E hr hy (opd_r F i)
      have e : (execOp a.eval ⟨dst, .indexAddr t y i, ty, pos, after, guard⟩).run P w = .ok (.value u) w := vrun hu
      rw [e]; exact .quiet E hR
    · exact quiet_map E F _ h
  | makeSlice t y z =>
    simp only [core] at h
    split at h
    case h_2 => cases h
    rename_i el n m hel hn hm
    split at h
    case h_2 => cases h
    rename_i k b zs ag hk hb hz hag
    split at h
    case isFalse => cases h
    rename_i hc
    obtain ⟨rfl, c2, c3, c4, c5, c6, c7, c8⟩ := hc
    simp only [Option.some.injEq, Prod.mk.injEq] at h
    obtain ⟨rfl, rfl, rfl⟩ := h
    obtain ⟨r, w', β', hrun, E', X', hR⟩ := makeSlice_run E hel hk hb hz c2 c3 c4 c7 c5 c6 c8
    have e1 := keyV_inv hn (opd_r F y)
    have e2 := keyV_inv hm (opd_r F z)
    refine ⟨_, r, w', Z, β', γ, ?_, .inl rfl, E', X', hR⟩
    have e : (execOp a.eval ⟨dst, .makeSlice t y z, ty, pos, after, guard⟩) = (do pure (.value (← Instr.makeSlice t (a.eval y) (a.eval z))) : Sem Next) := rfl
    rw [e, e1, e2]; exact vrun hrun
  | buildSlice t n ps =>
    simp only [core] at h
    split at h
    · split at h
      case h_2 => cases h
      rename_i el he
      split at h
      case h_2 => cases h
      rename_i k ag z hk hag hz
      split at h
      case isFalse => cases h
      rename_i hc
      obtain ⟨c1, c2, c3, c4, c5, c6, c7⟩ := hc
      simp only [Option.some.injEq, Prod.mk.injEq] at h
      obtain ⟨rfl, rfl, rfl⟩ := h
      obtain ⟨r, w', β', hr, E', X', hR⟩ := rows2_run E F he hk hz c1 c2 c3 c4 c5 c6 c7
      exact ⟨_, r, w', Z, β', γ, vrun hr, .inl rfl, E', X', hR⟩
    · exact quiet_map E F _ h
  | makeMap t r =>
    obtain ⟨E', X', hR⟩ := makeMap_run E
    cases r with
    | none =>
      simp only [core, Option.some.injEq, Prod.mk.injEq] at h
      obtain ⟨rfl, rfl, rfl⟩ := h
      refine ⟨_, .map (some w.heap.size), _, Z, _, γ, ?_, .inl rfl, E', X', hR⟩
      simp [execOp, Instr.makeMap]
    | some r =>
      simp only [core] at h
      split at h
      case isFalse => cases h
      rename_i hc
      obtain ⟨e, hm⟩ := Option.isSome_iff_exists.1 hc.1
      obtain ⟨i, hi⟩ := Option.isSome_iff_exists.1 hc.2
      obtain ⟨kt, hu, _⟩ := mpT_inv hm
      obtain ⟨k, hv⟩ := idxV_inv hi (opd_r F r)
      simp only [Option.some.injEq, Prod.mk.injEq] at h
      obtain ⟨rfl, rfl, rfl⟩ := h
      refine ⟨_, .map (some w.heap.size), _, Z, _, γ, ?_, .inl rfl, E', X', hR⟩
      simp [execOp, Instr.makeMap, run_underlying hu, hv, asInt, asIntOf]
  | insert t m k y =>
    simp only [core] at h
    obtain ⟨w', hrun, E', X', rfl⟩ := upd_did E F h
    have hT : T' = T := by
      split at h
      case h_2 => cases h
      split at h
      case h_2 => cases h
      split at h
      case isFalse => cases h
      simp only [Option.some.injEq, Prod.mk.injEq] at h
      exact h.2.2.symm
    subst hT
    refine ⟨.skip, undef, w', Z, β, γ, ?_, .inr ⟨rfl, rfl⟩, E', X', ⟨#[], rfl, rfl, fun i hi => absurd hi (by simp)⟩⟩
    simp [execOp, hrun]
  | mapUpdate t m k y =>
    simp only [core] at h
    obtain ⟨w', hrun, E', X', rfl⟩ := upd_did E F h
    have hT : T' = T := by
      split at h
      case h_2 => cases h
      split at h
      case h_2 => cases h
      split at h
      case isFalse => cases h
      simp only [Option.some.injEq, Prod.mk.injEq] at h
      exact h.2.2.symm
    subst hT
    refine ⟨.skip, undef, w', Z, β, γ, ?_, .inr ⟨rfl, rfl⟩, E', X', ⟨#[], rfl, rfl, fun i hi => absurd hi (by simp)⟩⟩
    simp [execOp, hrun]
  | lookup t m k ok =>
    simp only [core] at h
    split at h
    · rename_i id n hm hk
      split at h
      case h_2 => cases h
      rename_i es ho
      obtain ⟨r, hr, h⟩ := Option.map_eq_some_iff.1 h
      simp only [Prod.mk.injEq] at h
      obtain ⟨rfl, rfl, rfl⟩ := h
      have hm' := opd_r F m
      rw [hm] at hm'
      obtain ⟨u, hu, hR⟩ := look_run E ho hm' (keyV_inv hk (opd_r F k)) hr
      have e : (execOp a.eval ⟨dst, .lookup t m k ok, ty, pos, after, guard⟩).run P w = .ok (.value u) w := vrun hu
      rw [e]; exact .quiet E hR
    · rename_i n hm hk
      obtain ⟨r, hr, h⟩ := Option.map_eq_some_iff.1 h
      simp only [Prod.mk.injEq] at h
      obtain ⟨rfl, rfl, rfl⟩ := h
      have hm' := opd_r F m
      rw [hm] at hm'
      obtain ⟨hv, _⟩ := hm'.v_inv
      have e1 := keyV_inv hk (opd_r F k)
      obtain ⟨u, hu, hR⟩ := look_nil (Z := Z) (β := β) (γ := γ) (T := T) (w := w) (n := n) hr
      have e : (execOp a.eval ⟨dst, .lookup t m k ok, ty, pos, after, guard⟩).run P w = .ok (.value u) w := by
        have e0 : (execOp a.eval ⟨dst, .lookup t m k ok, ty, pos, after, guard⟩) = (do pure (.value (← Instr.lookup t (a.eval m) (a.eval k) ok)) : Sem Next) := rfl
        rw [e0, hv, e1]; exact vrun hu
      rw [e]; exact .quiet E hR
    · cases h
  | range t y =>
    simp only [core] at h
    split at h
    case h_2 => cases h
    rename_i s hs
    split at h
    case isFalse => cases h
    rename_i ht
    simp only [Option.some.injEq, Prod.mk.injEq] at h
    obtain ⟨rfl, rfl, rfl⟩ := h
    have hy := opd_r F y
    rw [hs] at hy
    obtain ⟨hv, _⟩ := hy.v_inv
    obtain ⟨r, w', β', hrun, E', X', hR⟩ := range_run E s ht
    refine ⟨_, r, w', Z, β', γ, ?_, .inl rfl, E', X', hR⟩
    have e : (execOp a.eval ⟨dst, .range t y, ty, pos, after, guard⟩) = (do pure (.value (← Instr.range t (a.eval y))) : Sem Next) := rfl
    rw [e, hv]; exact vrun hrun
  | next it str =>
    simp only [core] at h
    split at h
    case isFalse => cases h
    rename_i hstr
    subst hstr
    split at h
    case h_2 => cases h
    rename_i id he
    split at h
    case h_2 => cases h
    rename_i s p ho
    have hy := opd_r F it
    rw [he] at hy
    split at h
    · rename_i hp
      simp only [Option.some.injEq, Prod.mk.injEq] at h
      obtain ⟨rfl, rfl, rfl⟩ := h
      obtain ⟨r, w', hrun, E', X', hR⟩ := next_run (ty := ty) E ho hy hp
      exact ⟨_, r, w', Z, β, γ, vrun hrun, .inl rfl, E', X', hR⟩
    · rename_i hp
      simp only [Option.some.injEq, Prod.mk.injEq] at h
      obtain ⟨rfl, rfl, rfl⟩ := h
      have hrun := next_over (ty := ty) E ho hy hp
      have e : (execOp a.eval ⟨dst, .next it true, ty, pos, after, guard⟩).run P w = .ok (.value (.tuple #[.bool false])) w := vrun hrun
      rw [e]
      refine .quiet E ⟨_, rfl, rfl, fun i hi => ?_⟩
      match i, hi with
      | 0, _ => exact DR.v _ rfl
      | n + 1, h => exact absurd h (by simp only [List.length_cons, List.length_nil]; omega)
  | _ => exact rest rfl
end
end Go.Proofs.Ytplpmelpoajpdaa.Ev
namespace Go.Proofs.Ytplpmelpoajpdaa.Ev
open Go
set_option linter.unusedSectionVars false
set_option linter.unusedVariables false
set_option linter.unusedSimpArgs false
/-- A function that can be called. -/
def Fun (P : Program) (f : FuncId) : Prop := ∃ fn, P.funcs[f]? = some fn ∧ fn.name ≠ "runtime.NumGoroutine" ∧ fn.body.isSome = true
/-- What a call does, wherever it is made. -/
def FC (P : Program) (f : FuncId) (args : List AV) (S0 : Obs) (r : AV) (S1 : Obs) : Prop :=
  ∀ (w0 : World) (Z0 : Zs) (M0 : Nat → Prop) (Z : Zs) (β : List Bk) (w : World) (vs : Array Value), @EN offTV P w0 Z0 M0 Z β [] S0 [] w → args.length = vs.size → (∀ i, i < args.length → R3 Z β [] [] w P (args.getD i .dead) (vs.getD i undef)) →
    Calls P f vs w fun e w' => ∃ v Z' β', e = .returned v ∧ @EN offTV P w0 Z0 M0 Z' β' [] S1 [] w' ∧ VX Z Z' β β' [] [] [] [] w w' ∧ R3 Z' β' [] [] w' P r v
/-- What a call that has to do with values alone does. -/
def PC (P : Program) (f : FuncId) (args : List AV) (r : AV) : Prop :=
  ∀ (Z : Zs) (w : World) (vs : Array Value), (∀ b o, Z b o → b < w.heap.size) → args.length = vs.size → (∀ i, i < args.length → DR Z w (args.getD i .dead) (vs.getD i undef)) →
    Calls P f vs w fun e w' => ∃ v Z', e = .returned v ∧ Grow w w' ∧ ZExt Z Z' w w' ∧ (∀ b o, Z' b o → Z b o ∨ w.heap.size ≤ b) ∧ (∀ b o, Z' b o → b < w'.heap.size) ∧ DR Z' w' r v
/-- The calls' contracts. -/
def OKF (P : Program) (cf : CallF) : Prop := ∀ f args S r S', cf f args S = some (r, S') → args.all nt = true ∧ Fun P f ∧ (FC P f (args.map s2) S r S' ∨ FC P f (args.map t2) S r S')
section
attribute [local instance] offTV
variable {P : Program} {w0 : World} {Z0 : Zs} {M0 : Nat → Prop} {Z Z' : Zs} {β : List Bk} {γ : List Value} {S : Obs} {T : Toks} {w w' : World}
theorem R3.s2' {a : AV} {v : Value} (h : R3 Z β γ T w P a v) (hn : nt a = true) : R3 Z β [] [] w P (Ev.s2 a) v := by
  cases a with
  | tup l => cases hn
  | agg c => exact R2.s2 (show R2 Z β γ T w P (.agg c) v from h)
  | fn f c => exact R1.s1 (show R1 Z β γ T w P (.fn f c) v from h)
  | sl o l => exact R0.s0 (show R0 Z β γ T w P (.sl o l) v from h)
  | _ => exact h
theorem R3.t2' {a : AV} {v : Value} (h : R3 Z β γ T w P a v) (hn : nt a = true) : R3 Z β [] [] w P (Ev.t2 a) v := by
  cases a with
  | tup l => cases hn
  | agg c => exact R2.t2 (show R2 Z β γ T w P (.agg c) v from h)
  | fn f c => exact R1.t1 (show R1 Z β γ T w P (.fn f c) v from h)
  | sl o l => cases o <;> first | exact h | exact ⟨h.1.tok, trivial⟩
  | _ => exact h
theorem EN.drop (E : @EN offTV P w0 Z0 M0 Z β γ S T w) : @EN offTV P w0 Z0 M0 Z β [] S [] w :=
  ⟨E.kp, E.zc, E.zn, E.zs, E.bl, rfl, E.ob, E.bi, fun τ e h => by simp at h, fun τ σ e f u v g h => by simp at h⟩
/-- What is handed to a callee: the objects, not the chains. -/
theorem EN.sub (E : @EN offTV P w0 Z0 M0 Z β γ S T w) : @EN offTV P w Z (LB S β) Z β [] S [] w :=
  ⟨.refl _ _, .refl _ _, fun b o h _ => .inl h, E.zs, E.bl, rfl, fun id o h1 h2 => by
    obtain ⟨b, a1, a2, a3, a4, a5⟩ := E.ob id o h1 h2
    exact ⟨b, a1, .inl ⟨id, o, b, h1, h2, a1, rfl⟩, a3, a4, a5⟩, E.bi, fun τ e h => by simp at h, fun τ σ e f u v g h => by simp at h⟩
theorem EN.lb (E : EN P w0 Z0 M0 Z β γ S T w) {g : Nat} (h : LB S β g) : M0 g ∨ w0.heap.size ≤ g := by
  obtain ⟨id, o, b, h1, h2, h3, rfl⟩ := h
  obtain ⟨b', a1, a2, _⟩ := E.ob id o h1 h2
  rw [h3] at a1
  obtain rfl := Option.some.inj a1
  exact a2
theorem EN.join {S' : Obs} {β' : List Bk} (E : @EN offTV P w0 Z0 M0 Z β γ S T w) (E1 : @EN offTV P w Z (LB S β) Z' β' [] S' [] w') (X1 : VX Z Z' β β' [] [] [] [] w w') : @EN offTV P w0 Z0 M0 Z' β' γ S' T w' ∧ VX Z Z' β β' γ γ T T w w' := by
  have hlb : ∀ g, LB S' β' g → LB S β g ∨ w.heap.size ≤ g := fun g h => E1.lb h
  refine ⟨⟨?_, E.zc.trans E1.zc, ?_, E1.zs, E1.bl, E.gl, ?_, E1.bi, ?_, E.ti⟩, ⟨X1.z, X1.b, Nat.le_refl _, fun τ e _ h => ⟨h, rfl⟩⟩⟩
  · refine ⟨E1.kp.os.trans E.kp.os, E1.kp.tape.trans E.kp.tape, E1.kp.output.trans E.kp.output, Nat.le_trans E.kp.size E1.kp.size, fun k hk hn => ?_⟩
    rw [E1.kp.block k (Nat.lt_of_lt_of_le hk E.kp.size) (fun h => by rcases E.lb h with h | h; exact hn h; omega)]
    exact E.kp.block k hk hn
  · intro b o hz hb
    rcases E1.zn b o hz (Nat.lt_of_lt_of_le hb E.kp.size) with h | h
    · exact E.zn b o h hb
    · rcases E.lb h with h | h
      · exact .inr h
      · omega
  · intro id o h1 h2
    obtain ⟨b, a1, a2, a3, a4, a5⟩ := E1.ob id o h1 h2
    refine ⟨b, a1, ?_, a3, a4, a5⟩
    rcases a2 with h | h
    · exact E.lb h
    · exact .inr (by have := E.kp.size; omega)
  · intro τ e he
    obtain ⟨v, hv, a, n, c, rfl, h⟩ := E.tk τ e he
    refine ⟨_, hv, a, n, c, rfl, ?_⟩
    rcases h with h | ⟨g, cur, k, b1, b2, b3, b4, b5, b6, b7, b8, b9⟩
    · exact .inl h
    · have hlt := lt_of_heap b3
      refine .inr ⟨g, cur, k, b1, b2, (E1.kp.block g hlt b9).trans b3, b4, b5, b6, b7, fun o hz => ?_, fun h => ?_⟩
      · rcases E1.zn g o hz hlt with h | h
        · exact b8 o h
        · exact absurd h b9
      · rcases hlb g h with h | h
        · exact b9 h
        · omega
/-- A call on values alone, from what the callee does on its own. -/
theorem FC.pure {f : FuncId} {args : List AV} {r : AV} {S1 : Obs} (h : FC P f args [] r S1) (ha : args.all d2 = true) (hs : ∀ i, i < args.length → s2 (args.getD i .dead) = args.getD i .dead) (hd : d3 r = true) : PC P f args r := by
  intro Z w vs hz hl hR
  have E : @EN offTV P w Z (fun _ => False) Z [] [] [] [] w := ⟨.refl _ _, .refl _ _, fun b o h _ => .inl h, hz, rfl, rfl, fun id o h => by simp at h, fun i j oi oj bi bj h => by simp at h, fun τ e h => by simp at h, fun τ σ e f u v g h => by simp at h⟩
  refine (h w Z _ Z [] w vs E hl (fun i hi => ?_)).mono ?_
  · have h1 := (hR i hi).r3' (P := P) (β := []) (γ := []) (T := []) (all_getD ha hi)
    rw [hs i hi] at h1; exact h1
  · rintro e w' ⟨v, Z', β', rfl, E', X', hR'⟩
    refine ⟨v, Z', rfl, E'.kp, X'.z, fun b o hz' => ?_, E'.zs, hR'.dr hd⟩
    by_cases hb : b < w.heap.size
    · rcases E'.zn b o hz' hb with h | h
      · exact .inl h
      · exact h.elim
    · exact .inr (by omega)
theorem s0_idem (a : AV) : s0 (s0 a) = s0 a := by cases a <;> rfl
theorem s1_idem (a : AV) : s1 (s1 a) = s1 a := by
  cases a with
  | fn f c => simp [s1, s0_idem]
  | _ => rfl
theorem s2_idem (a : AV) : s2 (s2 a) = s2 a := by
  cases a with
  | agg c => simp [s2, s1_idem]
  | fn f c => simp [s2, s1, s0_idem]
  | _ => rfl
/-- .. made from anywhere. -/
theorem PC.fc {f : FuncId} {args : List AV} {r : AV} (h : PC P f args r) (ha : args.all d2 = true) (S : Obs) : FC P f args S (s3 r) S := by
  intro w0 Z0 M0 Z β w vs E hl hR
  refine (h Z w vs E.zs hl (fun i hi => ?_)).mono ?_
  · have hd := all_getD ha hi
    refine R3.dr (hR i hi) ?_
    generalize args.getD i .dead = q at hd ⊢
    cases q with
    | tup l => simp [d2, d1, d0] at hd
    | _ => exact hd
  · rintro e w' ⟨v, Z', rfl, G, X, h1, h2, hD⟩
    obtain ⟨E', X'⟩ := E.grow G X.sub h1 h2
    exact ⟨v, Z', β, rfl, E', X', hD.r3⟩
theorem callFunc_run {f : FuncId} (hf : Fun P f) (args : Array Value) : (callFunc f args).run P w = .ok (.enter f args) w := by
  obtain ⟨fn, h1, h2, h3⟩ := hf
  obtain ⟨c, h4⟩ := Option.isSome_iff_exists.1 h3
  simp [callFunc, h1, h2, h4]
theorem t2_s2 (a : AV) : t2 (s2 a) = s2 a := by
  have h0 : ∀ a, t0 (s0 a) = s0 a := fun a => by cases a <;> rfl
  have h1 : ∀ a, t1 (s1 a) = s1 a := fun a => by
    cases a with
    | fn f c => simp only [s1, t1, List.map_map]; congr 1; exact List.map_congr_left fun x _ => h0 x
    | _ => rfl
  cases a with
  | agg c => simp only [s2, t2, List.map_map]; congr 1; exact List.map_congr_left fun x _ => h1 x
  | fn f c => exact h1 (.fn f c)
  | _ => rfl
theorem d2_nt' {a : AV} (h : d2 a = true) : nt a = true := by cases a <;> first | rfl | exact absurd h (by simp [d2, d1, d0])
theorem d2_d3 {a : AV} (h : nt a = true) : d2 a = d3 a := by cases a <;> first | rfl | cases h
end
section
variable [tvi : TVm] {P : Program} {w0 : World} {Z0 : Zs} {M0 : Nat → Prop} {Z Z' : Zs} {β : List Bk} {γ : List Value} {S : Obs} {T : Toks} {w w' : World}
/-- What is known behind a step. -/
def After (P : Program) (w0 : World) (Z0 : Zs) (M0 : Nat → Prop) (Z : Zs) (β : List Bk) (γ : List Value) (T : Toks) (w : World) (s' : St) (a' : Act) (w' : World) : Prop :=
  ∃ Z' β' γ', EN P w0 Z0 M0 Z' β' γ' s'.S s'.T w' ∧ FR P Z' β' γ' s'.T w' s'.fr a' ∧ VX Z Z' β β' γ γ' T s'.T w w'
theorem After.trans {Z' : Zs} {β' : List Bk} {γ' : List Value} {T' : Toks} {w1 w' : World} {s' : St} {a' : Act} (X : VX Z Z' β β' γ γ' T T' w w1) (h : After P w0 Z0 M0 Z' β' γ' T' w1 s' a' w') : After P w0 Z0 M0 Z β γ T w s' a' w' := by
  obtain ⟨Z2, β2, γ2, h1, h2, h3⟩ := h
  exact ⟨Z2, β2, γ2, h1, h2, X.trans h3⟩
theorem evOp_sound {cf : CallF} (hcf : OKF P cf) {rw' : Bool} {o : Oper} {s : St} {a : Act} {Q : Exit → Act → World → Prop} (E : EN P w0 Z0 M0 Z β γ s.S s.T w) (F : FR P Z β γ s.T w s.fr a) {r : AV × Obs × Toks} (h : run1 P cf rw' o s = some r) :
    o.wp P a w (fun a' w' => After P w0 Z0 M0 Z β γ s.T w ⟨put s.fr o.dst r.1, r.2.1, r.2.2⟩ a' w') Q := by
  unfold run1 at h
  split at h
  · rename_i f args hic
    split at h
    case h_2 => cases h
    rename_i g cap hf
    split at h
    case isFalse => cases h
    rename_i hcap
    obtain ⟨dst, op, ty, pos, after, guard⟩ := o
    simp only [isCall] at hic
    split at hic
    case h_2 => cases hic
    rename_i f' args' tys
    simp only [Option.some.injEq, Prod.mk.injEq] at hic
    obtain ⟨rfl, rfl⟩ := hic
    have hF := opd_r F f'
    rw [hf] at hF
    obtain ⟨xs, hv, hl, hR⟩ := hF
    have key : ∀ i, i < (args'.toList.map (opd s.fr) ++ cap).length → R3 Z β γ s.T w P ((args'.toList.map (opd s.fr) ++ cap).getD i .dead) ((args'.map a.eval ++ xs).getD i undef) := by
      intro i hi
      by_cases hlt : i < args'.size
      · have e1 : (args'.toList.map (opd s.fr) ++ cap).getD i .dead = opd s.fr args'[i] := by
          simp [List.getD_eq_getElem?_getD, List.getElem?_append_left, hlt]
        have e2 : (args'.map a.eval ++ xs).getD i undef = a.eval args'[i] := by
          simp [Array.getD_eq_getD_getElem?, Array.getElem?_append_left, hlt]
        rw [e1, e2]; exact opd_r F _
      · have hi' : i - args'.size < cap.length := by simp at hi; omega
        have e1 : (args'.toList.map (opd s.fr) ++ cap).getD i .dead = cap.getD (i - args'.size) .dead := by
          simp [List.getD_eq_getElem?_getD, List.getElem?_append_right, Nat.le_of_not_lt hlt]
        have e2 : (args'.map a.eval ++ xs).getD i undef = xs.getD (i - args'.size) undef := by
          simp [Array.getD_eq_getD_getElem?, Array.getElem?_append_right, Nat.le_of_not_lt hlt]
        rw [e1, e2]
        have := hR _ hi'
        have hok := all_getD hcap hi'
        generalize cap.getD (i - args'.size) .dead = q at this hok ⊢
        cases q with
        | fn f c => cases hok
        | agg c => cases hok
        | tup c => cases hok
        | _ => exact this
    have hlen : (args'.toList.map (opd s.fr) ++ cap).length = (args'.map a.eval ++ xs).size := by simp [hl]
    obtain ⟨tv⟩ := tvi
    cases tv with
    | false =>
      letI : TVm := offTV
      have h0 : ((cf g (args'.toList.map (opd s.fr) ++ cap) s.S).map fun r => (r.1, r.2, s.T)) = some r := h
      obtain ⟨r0, hr0, h⟩ := Option.map_eq_some_iff.1 h0
      subst h
      obtain ⟨r0, S1⟩ := r0
      obtain ⟨hnt, h1, h2⟩ := hcf _ _ _ _ _ hr0
      have E : @EN offTV P w0 Z0 M0 Z β γ s.S s.T w := E
      have e : (execOp a.eval ⟨dst, .call ⟨.value f', args', tys⟩, ty, pos, after, guard⟩).run P w = .ok (.enter g (args'.map a.eval ++ xs)) w := by
        simp [execOp, resolve, hv, Deferred.ofValue, invoke, callFunc_run h1]
      unfold Oper.wp
      rw [e, Oper.upon_enter]
      have fin : ∀ e w', (∃ v Z' β', e = Ending.returned v ∧ @EN offTV P w Z (LB s.S β) Z' β' [] S1 [] w' ∧ VX Z Z' β β' [] [] [] [] w w' ∧ R3 Z' β' [] [] w' P r0 v) → ∃ v, e = .returned v ∧ @After offTV P w0 Z0 M0 Z β γ s.T w ⟨put s.fr dst r0, S1, s.T⟩ (a.put dst v) w' := by
        rintro e w' ⟨v, Z', β', rfl, E', X', hR'⟩
        obtain ⟨E2, X2⟩ := E.join E' X'
        have hR2 : R3 Z' β' γ s.T w' P r0 v := hR'.ext (VX.chains Z' β' γ s.T w')
        exact ⟨v, rfl, Z', β', γ, E2, (F.ext X2).put dst hR2, X2⟩
      rcases h2 with h2 | h2
      · refine (h2 w Z (LB s.S β) Z β w _ E.sub (by simp [hl]) (fun i hi => ?_)).mono ?_
        · have hi' : i < (args'.toList.map (opd s.fr) ++ cap).length := by rw [List.length_map] at hi; exact hi
          rw [getD_map_lt hi']
          exact R3.s2' (key i hi') (all_getD hnt hi')
        · intro e w' h
          obtain ⟨v, rfl, hA⟩ := fin e w' h
          exact hA
      · refine (h2 w Z (LB s.S β) Z β w _ E.sub (by simp [hl]) (fun i hi => ?_)).mono ?_
        · have hi' : i < (args'.toList.map (opd s.fr) ++ cap).length := by rw [List.length_map] at hi; exact hi
          rw [getD_map_lt hi']
          exact R3.t2' (key i hi') (all_getD hnt hi')
        · intro e w' h
          obtain ⟨v, rfl, hA⟩ := fin e w' h
          exact hA
    | true =>
      letI : TVm := onTV
      have h0 : callT cf g (args'.toList.map (opd s.fr) ++ cap) s = some r := h
      unfold callT at h0
      split at h0
      case isFalse => cases h0
      rename_i hd2
      split at h0
      case h_2 => cases h0
      rename_i x1 r0 hr0
      split at h0
      case isFalse => cases h0
      rename_i hd3
      cases h0
      obtain ⟨hnt, h1, h2⟩ := hcf _ _ _ _ _ hr0
      have e : (execOp a.eval ⟨dst, .call ⟨.value f', args', tys⟩, ty, pos, after, guard⟩).run P w = .ok (.enter g (args'.map a.eval ++ xs)) w := by
        simp [execOp, resolve, hv, Deferred.ofValue, invoke, callFunc_run h1]
      unfold Oper.wp
      rw [e, Oper.upon_enter]
      have hFC : FC P g ((args'.toList.map (opd s.fr) ++ cap).map s2) [] r0 [] := by
        rcases h2 with h2 | h2
        · rw [List.map_map, show (s2 ∘ s2) = s2 from funext s2_idem] at h2; exact h2
        · rw [List.map_map, show (t2 ∘ s2) = s2 from funext t2_s2] at h2; exact h2
      have hpc := FC.pure hFC (by rw [List.all_map]; exact List.all_eq_true.mpr fun z hz => d2_s2 (List.all_eq_true.mp hd2 z hz)) (fun i hi => by
        rw [getD_map_lt (by rw [List.length_map] at hi; exact hi)]; exact s2_idem _) hd3
      refine (hpc Z w _ E.zs (by rw [List.length_map]; exact hlen) (fun i hi => ?_)).mono ?_
      · have hi' : i < (args'.toList.map (opd s.fr) ++ cap).length := by rw [List.length_map] at hi; exact hi
        have hd := all_getD hd2 hi'
        rw [getD_map_lt hi']
        refine R3.dr (R3.s2' (key i hi') (d2_nt' hd)) ?_
        exact (d2_d3 (d2_nt' (d2_s2 hd))).symm.trans (d2_s2 hd)
      · rintro e w' ⟨v, Z', rfl, G, X, h1, h2, hD⟩
        obtain ⟨E', X'⟩ := @EN.grow onTV _ _ _ _ _ _ _ _ _ _ _ _ E G X.sub h1 h2
        exact ⟨Z', β, γ, E', (F.ext X').put dst hD.r3, X'⟩
  · rename_i hic
    obtain ⟨x, S1, T1⟩ := r
    obtain ⟨n, v, w', Z', β', γ', hrun, hn, E', X', hR⟩ := core_sound E F rw' o h
    unfold Oper.wp
    rw [hrun]
    rcases hn with rfl | ⟨rfl, rfl⟩
    · exact ⟨Z', β', γ', E', (F.ext X').put o.dst hR, X'⟩
    · exact ⟨Z', β', γ', E', (F.ext X').put o.dst hR, X'⟩
end
end Go.Proofs.Ytplpmelpoajpdaa.Ev
namespace Go.Proofs.Ytplpmelpoajpdaa.Ev
open Go
set_option linter.unusedSectionVars false
set_option linter.unusedVariables false
set_option linter.unusedSimpArgs false
section
variable [TVm] {P : Program} {w0 : World} {Z0 : Zs} {M0 : Nat → Prop} {Z Z' : Zs} {β : List Bk} {γ : List Value} {S : Obs} {T : Toks} {w w' : World}
theorem wantA_ok {ops : Array Oper} {o : Oper} {fr : List AV} {a : Act} (F : FR P Z β γ T w fr a) {b : Bool} (h : wantA ops o fr = some b) : Region.wanted o (yielded ops a.tmps) = b := by
  unfold wantA at h
  split at h
  · rename_i hg
    simp only [Option.some.injEq] at h
    subst h
    simp [Region.wanted, hg]
  · rename_i j want hg
    split at h
    case h_2 => cases h
    rename_i g hj
    split at h
    case h_2 => cases h
    rename_i t ht
    have hlt : ∀ x, fr.getD t .dead = x → x ≠ .dead → t < fr.length := by
      intro x hx hne
      by_cases hh : t < fr.length
      · exact hh
      · exfalso; apply hne; rw [← hx]; simp [List.getD_eq_getElem?_getD, List.getElem?_eq_none (Nat.le_of_not_lt hh)]
    split at h
    · rename_i c hc
      have ht' := hlt _ hc (by simp)
      have hv := F.tv t ht'
      rw [hc] at hv
      obtain ⟨hv, _⟩ := hv.v_inv
      have ht2 : t < a.tmps.size := by rw [← F.tl]; exact ht'
      have e : a.tmps[t]? = some (.bool c) := by
        rw [Array.getElem?_eq_getElem ht2]
        simpa [Array.getD, ht2] using hv
      simp only [Option.some.injEq] at h
      subst h
      simp only [Region.wanted, hg, yielded, hj, Option.bind_some, ht, e]
      cases c <;> cases want <;> rfl
    · rename_i hc
      have ht' := hlt _ hc (by simp)
      have hv := F.tv t ht'
      rw [hc] at hv
      obtain ⟨xs, hv, hl, _⟩ := hv
      have hx : xs = #[] := Array.eq_empty_of_size_eq_zero (by simpa using hl.symm)
      subst hx
      have ht2 : t < a.tmps.size := by rw [← F.tl]; exact ht'
      have e : a.tmps[t]? = some (.tuple #[]) := by
        rw [Array.getElem?_eq_getElem ht2]
        simpa [Array.getD, ht2] using hv
      simp only [Option.some.injEq] at h
      subst h
      simp only [Region.wanted, hg, yielded, hj, Option.bind_some, ht, e]
      cases want <;> rfl
    · cases h
theorem R3.undef : R3 Z β γ T w P (.tup []) undef := ⟨#[], rfl, rfl, fun i hi => absurd hi (by simp)⟩
/-- One operation of a region. -/
theorem evG_sound {cf : CallF} (hcf : OKF P cf) {rw' : Bool} {ops : Array Oper} {o : Oper} {s s' : St} {a : Act} {Q : Exit → Act → World → Prop} (E : EN P w0 Z0 M0 Z β γ s.S s.T w) (F : FR P Z β γ s.T w s.fr a) (h : evG P cf rw' ops o s = some s')
    (K : Act → World → Prop) (hK : ∀ a' w', After P w0 Z0 M0 Z β γ s.T w s' a' w' → K a' w') : if Region.wanted o (yielded ops a.tmps) = true then o.wp P a w K Q else K (a.put o.dst undef) w := by
  obtain ⟨r, hr, rfl⟩ := Option.map_eq_some_iff.1 h
  clear h
  unfold exO at hr
  split at hr
  rename_i b hw
  cases b with
  | true =>
    simp only [if_true] at hr
    rw [wantA_ok F hw, if_pos rfl]
    exact Oper.wp_mono hK (evOp_sound hcf E F hr)
  | false =>
    simp only [Bool.false_eq_true, if_false, Option.some.injEq] at hr
    subst hr
    rw [wantA_ok F hw, if_neg (by simp)]
    exact hK _ _ ⟨Z, β, γ, E, F.put o.dst .undef, .refl _ _ _ _ _⟩
  · cases hr
theorem evOps_sound {cf : CallF} (hcf : OKF P cf) {rw' : Bool} {ops : Array Oper} {Q : Exit → Act → World → Prop} {s' : St} : ∀ (l : List Oper) {s : St} {a : Act} {Z : Zs} {β : List Bk} {γ : List Value} {w : World}, EN P w0 Z0 M0 Z β γ s.S s.T w → FR P Z β γ s.T w s.fr a → evOps P cf rw' ops l s = some s' →
    (∀ a' w', After P w0 Z0 M0 Z β γ s.T w s' a' w' → Q .normal a' w') → wpList P ops Q l a w
  | [], s, a, Z, β, γ, w, E, F, h, hQ => by
    simp only [evOps, Option.some.injEq] at h
    subst h
    exact wpList_nil (hQ _ _ ⟨Z, β, γ, E, F, .refl _ _ _ _ _⟩)
  | o :: l, s, a, Z, β, γ, w, E, F, h, hQ => by
    simp only [evOps] at h
    split at h
    · rename_i s1 h1
      refine wpList_step fun K hK => ?_
      refine evG_sound hcf E F h1 K fun a1 w1 hA => hK _ _ ?_
      obtain ⟨Z1, β1, γ1, E1, F1, X1⟩ := hA
      exact evOps_sound hcf l E1 F1 h fun a' w' hA => hQ _ _ (hA.trans X1)
    · cases h
/-- Rows of a list of objects, as lists. -/
theorem freezeIds : ∀ (ids : List Nat) {S : Obs} {Z : Zs}, EN P w0 Z0 M0 Z β γ S T w → ∀ (S0 : Obs) (done : List Nat) (Zi : Zs), VX Zi Z β β γ γ T T w w → (∀ id, id ∉ done → S[id]? = S0[id]?) →
    (∀ (id ver n k : Nat) (e : TypeId) (l : List AV) (v : Value), id ∈ done → S0[id]? = some (.row true ver k e l) → n ≤ l.length → R0 Zi β γ T w P (.ms id ver n) v → DR Z w (.sl .no (l.take n)) v) →
    (∀ id ∈ ids, ∃ ver k e l, S0[id]? = some (.row true ver k e l)) →
    ∃ Z', EN P w0 Z0 M0 Z' β γ (killIds ids S) T w ∧ VX Zi Z' β β γ γ T T w w ∧
      ∀ (id ver n k : Nat) (e : TypeId) (l : List AV) (v : Value), id ∈ ids ∨ id ∈ done → S0[id]? = some (.row true ver k e l) → n ≤ l.length → R0 Zi β γ T w P (.ms id ver n) v → DR Z' w (.sl .no (l.take n)) v
  | [], S, Z, E, S0, done, Zi, X, h1, h2, h3 => ⟨Z, E, X, fun id ver n k e l v hid => by
      rcases hid with h | h
      · cases h
      · exact h2 id ver n k e l v h⟩
  | id :: ids, S, Z, E, S0, done, Zi, X, h1, h2, h3 => by
    by_cases hd : id ∈ done
    · obtain ⟨Z', E', X', h4⟩ := freezeIds ids (E.kill id) S0 done Zi X (fun i hi => by
        have hne : id ≠ i := fun e => hi (e ▸ hd)
        rw [List.getElem?_set_ne hne]; exact h1 i hi) h2 (fun i hi => h3 i (List.mem_cons_of_mem _ hi))
      refine ⟨Z', E', X', fun i ver n k e l v hi => h4 i ver n k e l v ?_⟩
      rcases hi with hi | hi
      · rcases List.mem_cons.1 hi with rfl | hi
        · exact .inr hd
        · exact .inl hi
      · exact .inr hi
    · obtain ⟨ver0, k0, e0, l0, hr⟩ := h3 id (by simp)
      have hs := h1 id hd
      rw [hr] at hs
      obtain ⟨b, hb, _⟩ := E.ob _ _ hs rfl
      obtain ⟨E2, X2⟩ := E.freeze l0.length hs hb
      obtain ⟨Z', E', X', h4⟩ := freezeIds ids E2 S0 (id :: done) Zi (X.trans X2) (fun i hi => by
        have hne : id ≠ i := fun e => hi (by simp [e])
        rw [List.getElem?_set_ne hne]; exact h1 i (fun h => hi (by simp [h]))) (fun i ver n k e l v hi ho hn hx => by
        by_cases hid : i = id
        · subst hid
          rw [hr] at ho
          simp only [Option.some.injEq, Ob.row.injEq, true_and] at ho
          obtain ⟨rfl, rfl, rfl, rfl⟩ := ho
          exact E.frozen l0.length hs hb hn hn (R0.ext X hx)
        · exact (h2 i ver n k e l v (by rcases List.mem_cons.1 hi with h | h; exact absurd h hid; exact h) ho hn hx).ext X2.z) (fun i hi => h3 i (List.mem_cons_of_mem _ hi))
      refine ⟨Z', E', X', fun i ver n k e l v hi => h4 i ver n k e l v ?_⟩
      rcases hi with hi | hi
      · rcases List.mem_cons.1 hi with rfl | hi
        · exact .inr (by simp)
        · exact .inl hi
      · exact .inr (by simp [hi])
theorem fz0_row {n0 : Nat} {id ver n : Nat} {o : Tok} {m : List AV} (h : fz0 S n0 (.ms id ver n) = .sl o m) : ∃ k e l, S[id]? = some (.row true ver k e l) ∧ n ≤ l.length ∧ o = .no ∧ m = l.take n := by
  simp only [fz0] at h
  split at h
  · split at h
    · rename_i k e l hr
      split at h
      · rename_i hn
        cases h
        exact ⟨k, e, l, rowA_inv hr, hn, rfl, rfl⟩
      · cases h
    · cases h
  · cases h
theorem fzI_mem {n0 : Nat} {a : AV} {id : Nat} (h : id ∈ fzI S n0 a) : ∃ ver k e l, S[id]? = some (.row true ver k e l) := by
  cases a with
  | ms i ver n =>
    simp only [fzI] at h
    split at h
    · rename_i o m hq
      obtain ⟨k, e, l, h1, _⟩ := fz0_row hq
      have : id = i := by simpa using h
      subst this
      exact ⟨ver, k, e, l, h1⟩
    · cases h
  | _ => cases h
theorem fzI2_mem {n0 : Nat} {a : AV} {id : Nat} (h : id ∈ fzI2 S n0 a) : ∃ ver k e l, S[id]? = some (.row true ver k e l) := by
  unfold fzI2 at h
  split at h
  · obtain ⟨x, _, hx⟩ := List.mem_flatMap.1 h; exact fzI_mem hx
  · exact fzI_mem h
theorem fzI3_mem {n0 : Nat} {a : AV} {id : Nat} (h : id ∈ fzI3 S n0 a) : ∃ ver k e l, S[id]? = some (.row true ver k e l) := by
  unfold fzI3 at h
  split at h
  · obtain ⟨x, _, hx⟩ := List.mem_flatMap.1 h; exact fzI2_mem hx
  · exact fzI2_mem h
end
section
attribute [local instance] offTV
variable {P : Program} {w0 : World} {Z0 : Zs} {M0 : Nat → Prop} {Z Z' : Zs} {β : List Bk} {γ : List Value} {S : Obs} {T : Toks} {w w' : World}
/-- What comes out of a function. -/
theorem fin_sound {Z' : Zs} {β' : List Bk} {γ' : List Value} {S0 S1 S' : Obs} {T1 : Toks} {r x : AV} {v : Value} {kp : Bool} (h : fin kp S0 r S1 = (x, S')) (hb : β.length = S0.length) (E : EN P w0 Z0 M0 Z' β' γ' S1 T1 w') (X : VX Z Z' β β' [] γ' [] T1 w w') (hr : R3 Z' β' γ' T1 w' P r v) :
    ∃ Z'' β'', EN P w0 Z0 M0 Z'' β'' [] S' [] w' ∧ VX Z Z'' β β'' [] [] [] [] w w' ∧ R3 Z'' β'' [] [] w' P x v := by
  have X0 : VX Z Z' β β' [] [] [] [] w w' := ⟨X.z, X.b, Nat.le_refl _, fun _ _ h => absurd h (Nat.not_lt_zero _)⟩
  unfold fin at h
  split at h
  · simp only [Prod.mk.injEq] at h
    obtain ⟨rfl, rfl⟩ := h
    exact ⟨Z', β', E.drop, X0, hr.t3⟩
  · simp only [Prod.mk.injEq] at h
    obtain ⟨rfl, rfl⟩ := h
    obtain ⟨Z1, E1, X1, h3⟩ := freezeIds (fzI3 S1 S0.length r) E S1 [] Z' (.refl _ _ _ _ _) (fun _ _ => rfl) (fun id _ _ _ _ _ _ h => by cases h) (fun id hid => fzI3_mem hid)
    have f0 : ∀ a u, (∀ id ∈ fzI S1 S0.length a, id ∈ fzI3 S1 S0.length r) → R0 Z' β' γ' T1 w' P a u → R0 Z1 β' γ' T1 w' P (fz0 S1 S0.length a) u := by
      intro a u hin ha
      cases a with
      | ms id ver n =>
        cases hq : fz0 S1 S0.length (.ms id ver n) with
        | sl o m =>
          obtain ⟨k, e, l, h1, h2, rfl, rfl⟩ := fz0_row hq
          have hid : id ∈ fzI3 S1 S0.length r := hin id (by simp only [fzI, hq]; simp)
          exact ⟨h3 id ver n k e l u (.inl hid) h1 h2 ha, trivial⟩
        | _ =>
          rw [← hq]
          have : fz0 S1 S0.length (.ms id ver n) = .ms id ver n := by
            simp only [fz0] at hq ⊢
            split
            · rename_i hid
              rw [if_pos hid] at hq
              split
              · rename_i k e l hr
                rw [hr] at hq
                simp only at hq
                split
                · rename_i hn; rw [if_pos hn] at hq; cases hq
                · rfl
              · rfl
            · rfl
          rw [this]
          exact ha.ext X1
      | _ => exact ha.ext X1
    have f1 : ∀ a u, (∀ id ∈ fzI S1 S0.length a, id ∈ fzI3 S1 S0.length r) → R1 Z' β' γ' T1 w' P a u → R1 Z1 β' γ' T1 w' P (fz0 S1 S0.length a) u := by
      intro a u hin ha
      cases a with
      | fn f c => exact ha.ext X1
      | ms id ver n =>
        have := f0 (.ms id ver n) u hin ha
        generalize hq : fz0 S1 S0.length (.ms id ver n) = q at this ⊢
        cases q with
        | fn f c =>
          simp only [fz0] at hq
          split at hq
          · split at hq
            · split at hq <;> cases hq
            · cases hq
          · cases hq
        | _ => exact this
      | _ => exact R1.ext X1 ha
    have f2 : ∀ a u, (∀ id ∈ fzI2 S1 S0.length a, id ∈ fzI3 S1 S0.length r) → R2 Z' β' γ' T1 w' P a u → R2 Z1 β' γ' T1 w' P (fz2 S1 S0.length a) u := by
      intro a u hin ha
      cases a with
      | agg c =>
        obtain ⟨xs, g1, g2, g3⟩ := ha
        exact ⟨xs, g1, by simpa using g2, fun i hi => by
          have hi' : i < c.length := by simpa using hi
          rw [getD_map_lt hi']
          refine f1 _ _ (fun id hid => hin id (List.mem_flatMap.2 ⟨c.getD i .dead, ?_, hid⟩)) (g3 i hi')
          rw [List.getD_eq_getElem?_getD, List.getElem?_eq_getElem hi']; exact List.getElem_mem hi'⟩
      | ms id ver n =>
        have := f1 (.ms id ver n) u hin ha
        show R2 Z1 β' γ' T1 w' P (fz0 S1 S0.length (.ms id ver n)) u
        generalize hq : fz0 S1 S0.length (.ms id ver n) = q at this ⊢
        cases q with
        | agg c =>
          simp only [fz0] at hq
          split at hq
          · split at hq
            · split at hq <;> cases hq
            · cases hq
          · cases hq
        | _ => exact this
      | _ => exact R2.ext X1 ha
    have f3 : R3 Z1 β' γ' T1 w' P (fz3 S1 S0.length r) v := by
      generalize hI : fzI3 S1 S0.length r = I at f2
      cases r with
      | tup c =>
        obtain ⟨xs, g1, g2, g3⟩ := hr
        exact ⟨xs, g1, by simpa using g2, fun i hi => by
          have hi' : i < c.length := by simpa using hi
          rw [getD_map_lt hi']
          refine f2 _ _ (fun id hid => ?_) (g3 i hi')
          rw [← hI]
          refine List.mem_flatMap.2 ⟨c.getD i .dead, ?_, hid⟩
          rw [List.getD_eq_getElem?_getD, List.getElem?_eq_getElem hi']; exact List.getElem_mem hi'⟩
      | ms id ver n =>
        have := f2 (.ms id ver n) v (fun id hid => by rw [← hI]; exact hid) hr
        show R3 Z1 β' γ' T1 w' P (fz0 S1 S0.length (.ms id ver n)) v
        change R2 Z1 β' γ' T1 w' P (fz0 S1 S0.length (.ms id ver n)) v at this
        generalize hq : fz0 S1 S0.length (.ms id ver n) = q at this ⊢
        cases q with
        | tup c =>
          simp only [fz0] at hq
          split at hq
          · split at hq
            · split at hq <;> cases hq
            · cases hq
          · cases hq
        | _ => exact this
      | agg c => exact f2 (.agg c) v (fun id hid => by rw [← hI]; exact hid) hr
      | _ => exact R3.ext X1 hr
    exact ⟨Z1, β', E1.drop, ⟨X.z.trans X1.z, X.b, Nat.le_refl _, fun _ _ h => absurd h (Nat.not_lt_zero _)⟩, f3.t3⟩
/-! ### Results -/
def rvS (tmps : Array Value) : ResultVar → Sem Value
  | .tmp t => pure (tmps.getD t undef)
  | .cell a t => do loadVar t (← asAddr (tmps.getD a undef))
end
section
variable [TVm] {P : Program} {w0 : World} {Z0 : Zs} {M0 : Nat → Prop} {Z Z' : Zs} {β : List Bk} {γ : List Value} {S : Obs} {T : Toks} {w w' : World}
theorem results_eq (fn : Func) (tmps : Array Value) : results fn tmps = (do let vs ← fn.results.mapM (rvS tmps); pure (if h : vs.size = 1 then vs[0] else .tuple vs)) := by
  have e : (fun r : ResultVar => (match r with | .tmp t => pure (tmps.getD t undef) | .cell a t => do loadVar t (← asAddr (tmps.getD a undef)) : Sem Value)) = rvS tmps := by
    funext r
    cases r <;> rfl
  rw [← e]
  rfl
def rt : List AV → AV
  | [x] => x
  | l => .tup l
theorem resA_run (E : EN P w0 Z0 M0 Z β γ S T w) {fr : List AV} {a : Act} (F : FR P Z β γ T w fr a) {x : AV} {r : ResultVar} (h : resA P ⟨fr, S, T⟩ r = some x) :
    ∃ v, (rvS a.tmps r).run P w = .ok v w ∧ R3 Z β γ T w P x v := by
  cases r with
  | tmp t =>
    simp only [resA, Option.some.injEq] at h
    subst h
    exact ⟨_, rfl, opd_r F (.tmp t)⟩
  | cell d t =>
    simp only [resA] at h
    split at h
    case h_2 => cases h
    rename_i ag n hag hn
    split at h
    case isFalse => cases h
    rename_i hc
    split at h
    case h_2 => cases h
    rename_i cs hcs
    have hd : R3 Z β γ T w P (fr.getD d .dead) (a.tmps.getD d undef) := opd_r F (.tmp d)
    obtain ⟨b, o, hv, _⟩ := rdc_r E hd hcs
    obtain ⟨u, _, hr, hR⟩ := load_run E hd hag hn hc hcs h
    refine ⟨u, ?_, hR⟩
    show (do loadVar t (← asAddr (a.tmps.getD d undef)) : Sem Value).run P w = .ok u w
    rw [hv] at hr ⊢
    simp only [Instr.loadAt, Instr.sureAddr, Sem.run_bind, Sem.run_pure, Result.andThen_ok] at hr
    simp [asAddr, hr]
theorem nt_ne {x : AV} (h : nt x = true) : ∀ l, x ≠ .tup l := by
  intro l e; subst e; cases h
theorem resL_run (E : EN P w0 Z0 M0 Z β γ S T w) {fr : List AV} {a : Act} (F : FR P Z β γ T w fr a) : ∀ (l : List ResultVar) {xs : List AV}, resL P ⟨fr, S, T⟩ l = some xs →
    ∃ vs, (l.mapM (rvS a.tmps)).run P w = .ok vs w ∧ xs.length = vs.length ∧ (∀ i, i < xs.length → R2 Z β γ T w P (xs.getD i .dead) (vs.getD i undef)) ∧ ∀ x ∈ xs, nt x = true
  | [], xs, h => by
    simp only [resL, Option.some.injEq] at h
    subst h
    exact ⟨[], by simp, rfl, fun i hi => absurd hi (by simp), fun x hx => absurd hx (by simp)⟩
  | r :: l, xs, h => by
    simp only [resL] at h
    split at h
    case h_2 => cases h
    rename_i x xs' h1 h2
    split at h
    case isFalse => cases h
    rename_i hnt
    simp only [Option.some.injEq] at h
    subst h
    obtain ⟨v, hv, hR⟩ := resA_run E F h1
    obtain ⟨vs, hvs, hl, hRs, hns⟩ := resL_run E F l h2
    refine ⟨v :: vs, ?_, by simp [hl], fun i hi => ?_, fun y hy => ?_⟩
    · rw [List.mapM_cons]
      simp [hv, hvs]
    · cases i with
      | zero => exact R3.r2 hR ⟨nt_ne hnt [], nt_ne hnt⟩
      | succ i => exact hRs i (by simpa using hi)
    · rcases List.mem_cons.1 hy with rfl | hy
      · exact hnt
      · exact hns y hy
theorem results_run (E : EN P w0 Z0 M0 Z β γ S T w) {fr : List AV} {a : Act} (F : FR P Z β γ T w fr a) {fn : Func} {xs : List AV} (h : resL P ⟨fr, S, T⟩ fn.results.toList = some xs) :
    ∃ v, (results fn a.tmps).run P w = .ok v w ∧ R3 Z β γ T w P (rt xs) v := by
  obtain ⟨vs, hvs, hl, hR, hns⟩ := resL_run E F fn.results.toList h
  rw [← Array.toList_mapM] at hvs
  simp only [Sem.run_map] at hvs
  obtain ⟨q, hq, hqv⟩ : ∃ q : Array Value, (fn.results.mapM (rvS a.tmps)).run P w = .ok q w ∧ q.toList = vs := by
    generalize (fn.results.mapM (rvS a.tmps)).run P w = z at hvs
    cases z with
    | ok q w1 =>
      simp only [Result.andThen_ok, Result.ok.injEq] at hvs
      obtain ⟨h1, rfl⟩ := hvs
      exact ⟨q, rfl, h1⟩
    | halt => cases hvs
  have hres : (results fn a.tmps).run P w = .ok (if h : q.size = 1 then q[0] else .tuple q) w := by
    rw [results_eq]
    simp only [Sem.run_bind, hq, Result.andThen_ok, Sem.run_pure]
  have hqs : q.size = vs.length := by rw [← hqv]; simp
  rw [hres]
  refine ⟨_, rfl, ?_⟩
  match xs, hl, hR, hns with
  | [x], hl, hR, hns =>
    have h1 : q.size = 1 := by rw [hqs, ← hl]; rfl
    rw [dif_pos h1]
    have h0 := hR 0 (by simp)
    have e : vs.getD 0 undef = q[0] := by
      subst hqv; simp [List.getD_eq_getElem?_getD, h1]
    rw [e] at h0
    exact R2.r3 h0 (nt_ne (hns x (by simp)))
  | [], hl, hR, hns =>
    have h1 : ¬ q.size = 1 := by rw [hqs, ← hl]; simp
    rw [dif_neg h1]
    exact ⟨q, rfl, by rw [hqs, ← hl], fun i hi => absurd hi (by simp)⟩
  | x :: y :: l, hl, hR, hns =>
    have h1 : ¬ q.size = 1 := by rw [hqs, ← hl]; simp
    rw [dif_neg h1]
    refine ⟨q, rfl, by rw [hqs, ← hl], fun i hi => ?_⟩
    have := hR i hi
    rw [← hqv] at this
    simpa [List.getD_eq_getElem?_getD, Array.getD_eq_getD_getElem?] using this
end
end Go.Proofs.Ytplpmelpoajpdaa.Ev
namespace Go.Proofs.Ytplpmelpoajpdaa.Ev
open Go
set_option linter.unusedSectionVars false
set_option linter.unusedVariables false
set_option linter.unusedSimpArgs false
section
variable [TVm] {P : Program} {cf : CallF} {kp : FuncId → Bool} {rw' : Bool} {ops : Array Oper}
theorem coreQ_congr {o : Oper} {e e' : Operand → AV} (h : ∀ y ∈ o.op.operands.toList, e y = e' y) : coreQ P o e = coreQ P o e' := by
  obtain ⟨dst, op, ty, pos, after, guard⟩ := o
  cases op with
  | build t ps =>
    have hm : (ps.toList.map fun p => (p.1, e p.2)) = ps.toList.map fun p => (p.1, e' p.2) := List.map_congr_left fun p hp => by
      rw [h p.2 (by simp only [Op.operands]; simpa using ⟨p.1, by simpa using hp⟩)]
    simp only [coreQ, hm]
  | buildSlice t n ps =>
    have h0 : ∀ p ∈ ps.toList, e p.2 = e' p.2 := fun p hp => h p.2 (by simp only [Op.operands]; simpa using ⟨p.1, by simpa using hp⟩)
    have hm : (ps.toList.all fun p => decide (p.1 < n) && (((e p.2).cells.length == (tsz P ((tel P t).getD 0)).getD 0) && ((e p.2).cells.all one && d2 (e p.2)))) = (ps.toList.all fun p => decide (p.1 < n) && (((e' p.2).cells.length == (tsz P ((tel P t).getD 0)).getD 0) && ((e' p.2).cells.all one && d2 (e' p.2)))) := by
      rw [Bool.eq_iff_iff, List.all_eq_true, List.all_eq_true]
      exact ⟨fun hh p hp => by rw [← h0 p hp]; exact hh p hp, fun hh p hp => by rw [h0 p hp]; exact hh p hp⟩
    have hf : ∀ (l : List (Nat × Operand)) (z : List AV), (∀ p ∈ l, e p.2 = e' p.2) → l.foldl (fun l p => l.set p.1 (s2 (e p.2))) z = l.foldl (fun l p => l.set p.1 (s2 (e' p.2))) z := by
      intro l
      induction l with
      | nil => intro z _; rfl
      | cons p l ih => intro z hl; rw [List.foldl_cons, List.foldl_cons, hl p (by simp), ih _ (fun q hq => hl q (by simp [hq]))]
    simp only [coreQ]
    cases he : tel P t with
    | none => rfl
    | some el =>
      simp only []
      cases hk : tsz P el with
      | none => rfl
      | some k =>
        rw [he] at hm
        simp only [Option.getD_some, hk] at hm
        cases tagg P el with
        | none => rfl
        | some a =>
          cases tzero P el with
          | none => rfl
          | some z => simp only [hm, hf _ _ h0]
  | makeFunc fn first cap =>
    cases fn with
    | func f =>
      have h0 : ∀ c ∈ cap.toList, e c = e' c := fun c hc => h c (by simp only [Op.operands]; simp; exact .inr (by simpa using hc))
      have hm : (cap.toList.all fun c => capOk (e c)) = (cap.toList.all fun c => capOk (e' c)) := by
        rw [Bool.eq_iff_iff, List.all_eq_true, List.all_eq_true]
        exact ⟨fun hh p hp => by rw [← h0 p hp]; exact hh p hp, fun hh p hp => by rw [h0 p hp]; exact hh p hp⟩
      have hf : cap.toList.map e = cap.toList.map e' := List.map_congr_left h0
      simp only [coreQ, hf, hm]
    | _ => rfl
  | slice t x lo hi mx =>
    have h1 := h x (by simp [Op.operands])
    have h2 : lo.map e = lo.map e' := by cases lo with | none => rfl | some q => simp [h q (by simp [Op.operands])]
    have h3 : hi.map e = hi.map e' := by cases hi with | none => rfl | some q => simp [h q (by simp [Op.operands])]
    have h4 : mx.map e = mx.map e' := by cases mx with | none => rfl | some q => simp [h q (by simp [Op.operands])]
    simp only [coreQ, h1, h2, h3, h4]
  | call c =>
    obtain ⟨callee, args, tys⟩ := c
    have h0 : ∀ y ∈ args.toList, e y = e' y := fun y hy => h y (by
      simp only [Op.operands, Call.operands, Array.toList_append]
      exact List.mem_append_right _ hy)
    simp only [coreQ]
    split
    · rename_i x ha
      rw [ha] at h0
      rw [h0 x (by simp)]
    · rename_i x y ha
      rw [ha] at h0
      rw [h0 x (by simp), h0 y (by simp)]
    · rename_i x y ha
      rw [ha] at h0
      rw [h0 x (by simp), h0 y (by simp)]
    · rfl
  | pick c x y => simp only [coreQ, h c (by simp [Op.operands]), h x (by simp [Op.operands]), h y (by simp [Op.operands])]
  | binOp op t x y t' => simp only [coreQ, h x (by simp [Op.operands]), h y (by simp [Op.operands])]
  | indexAddr t x y => simp only [coreQ, h x (by simp [Op.operands]), h y (by simp [Op.operands])]
  | index t x y => simp only [coreQ, h x (by simp [Op.operands]), h y (by simp [Op.operands])]
  | move x => simp only [coreQ, h x (by simp [Op.operands])]
  | assign x => simp only [coreQ, h x (by simp [Op.operands])]
  | nilCheck x => simp only [coreQ, h x (by simp [Op.operands])]
  | unOp op t x => simp only [coreQ, h x (by simp [Op.operands])]
  | convert s d x => simp only [coreQ, h x (by simp [Op.operands])]
  | fieldAddr t x i => simp only [coreQ, h x (by simp [Op.operands])]
  | field t x i => simp only [coreQ, h x (by simp [Op.operands])]
  | extract x i => simp only [coreQ, h x (by simp [Op.operands])]
  | makeInterface t x => simp only [coreQ, h x (by simp [Op.operands])]
  | typeAssert x t a ok => simp only [coreQ, h x (by simp [Op.operands])]
  | _ => rfl
theorem core_congr {o : Oper} {e e' : Operand → AV} (h : ∀ y ∈ o.op.operands.toList, e y = e' y) (S : Obs) (T : Toks) : core P rw' o e S T = core P rw' o e' S T := by
  have hQ : coreQ P o e = coreQ P o e' := coreQ_congr h
  have rest : plainOp o.op = true → core P rw' o e S T = core P rw' o e' S T := by
    intro hp
    rw [core_rest hp, core_rest hp]
    unfold coreP
    cases ha : isApp o with
    | some q =>
      obtain ⟨s, x, t⟩ := q
      have ho := isApp_inv ha
      simp only [h s (by rw [ho]; simp [Op.operands, Call.operands]), h x (by rw [ho]; simp [Op.operands, Call.operands])]
    | none =>
      simp only []
      cases hd : isDel o with
      | some q =>
        obtain ⟨m, k, t⟩ := q
        obtain ⟨tys, ho, _⟩ := isDel_inv hd
        simp only [h m (by rw [ho]; simp [Op.operands, Call.operands]), h k (by rw [ho]; simp [Op.operands, Call.operands])]
      | none =>
        simp only []
        cases hcl : isClr o with
        | some q =>
          obtain ⟨m, t⟩ := q
          have ho := isClr_inv hcl
          simp only [h m (by rw [ho]; simp [Op.operands, Call.operands])]
        | none =>
        simp only []
        cases hl : isLen o with
        | some q =>
          obtain ⟨m, t⟩ := q
          have ho := isLen_inv hl
          simp only [h m (by rw [ho]; simp [Op.operands, Call.operands]), hQ]
        | none => simp only [hQ]
  obtain ⟨dst, op, ty, pos, after, guard⟩ := o
  cases op with
  | alloc t => rfl
  | box t x => simp only [core, h x (by simp [Op.operands])]
  | load t x => simp only [core, h x (by simp [Op.operands])]
  | store t x y => simp only [core, h x (by simp [Op.operands]), h y (by simp [Op.operands])]
  | indexAddr t x y => simp only [core, h x (by simp [Op.operands]), h y (by simp [Op.operands]), hQ]
  | makeSlice t x y => simp only [core, h x (by simp [Op.operands]), h y (by simp [Op.operands])]
  | makeMap t r =>
    cases r with
    | none => rfl
    | some r => simp only [core, h r (by simp [Op.operands])]
  | insert t m k x => simp only [core, h m (by simp [Op.operands]), h k (by simp [Op.operands]), h x (by simp [Op.operands])]
  | mapUpdate t m k x => simp only [core, h m (by simp [Op.operands]), h k (by simp [Op.operands]), h x (by simp [Op.operands])]
  | lookup t m k ok => simp only [core, h m (by simp [Op.operands]), h k (by simp [Op.operands])]
  | range t x => simp only [core, h x (by simp [Op.operands])]
  | next it str => simp only [core, h it (by simp [Op.operands])]
  | buildSlice t n ps =>
    have h0 : ∀ p ∈ ps.toList, e p.2 = e' p.2 := fun p hp => h p.2 (by simp only [Op.operands]; simpa using ⟨p.1, by simpa using hp⟩)
    have hm : ∀ k, (ps.toList.all fun p => decide (p.1 < n) && ((e p.2).cells.length == k && (e p.2).cells.all one)) = (ps.toList.all fun p => decide (p.1 < n) && ((e' p.2).cells.length == k && (e' p.2).cells.all one)) := fun k => by
      rw [Bool.eq_iff_iff, List.all_eq_true, List.all_eq_true]
      exact ⟨fun hh p hp => by rw [← h0 p hp]; exact hh p hp, fun hh p hp => by rw [h0 p hp]; exact hh p hp⟩
    have hd : (ps.toList.all fun p => d2 (e p.2)) = (ps.toList.all fun p => d2 (e' p.2)) := by
      rw [Bool.eq_iff_iff, List.all_eq_true, List.all_eq_true]
      exact ⟨fun hh p hp => by rw [← h0 p hp]; exact hh p hp, fun hh p hp => by rw [h0 p hp]; exact hh p hp⟩
    have hf : ∀ (l : List (Nat × Operand)) (z : List AV), (∀ p ∈ l, e p.2 = e' p.2) → l.foldl (fun l p => l.set p.1 (t2 (e p.2))) z = l.foldl (fun l p => l.set p.1 (t2 (e' p.2))) z := by
      intro l
      induction l with
      | nil => intro z _; rfl
      | cons p l ih => intro z hl; rw [List.foldl_cons, List.foldl_cons, hl p (by simp), ih _ (fun q hq => hl q (by simp [hq]))]
    simp only [core, hQ, hm, hd, hf _ _ h0]
  | _ => exact rest rfl
/-- Two frames that an operation cannot tell from each other. -/
def Like (ops : Array Oper) (o : Oper) (fr fr' : List AV) : Prop := ∀ t ∈ looks ops o, fr.getD t .dead = fr'.getD t .dead
theorem Like.opd {o : Oper} {fr fr' : List AV} (h : Like ops o fr fr') : ∀ y ∈ o.op.operands.toList, Ev.opd fr y = Ev.opd fr' y := by
  intro y hy
  cases y with
  | tmp t => exact h t (by unfold looks opTmps; rw [List.mem_append]; exact .inl (List.mem_filterMap.2 ⟨.tmp t, hy, rfl⟩))
  | _ => rfl
theorem Like.want {o : Oper} {fr fr' : List AV} (h : Like ops o fr fr') : wantA ops o fr = wantA ops o fr' := by
  unfold wantA
  cases hg : o.guard with
  | none => rfl
  | some p =>
    obtain ⟨j, want⟩ := p
    simp only []
    cases hj : ops[j]? with
    | none => rfl
    | some g =>
      simp only []
      cases hd : g.dst with
      | none => rfl
      | some t =>
        have : fr.getD t .dead = fr'.getD t .dead := h t (by
          unfold looks
          rw [List.mem_append, hg]
          simp only [hj, hd]
          exact .inr (by simp))
        simp only [this]
theorem isCall_ops {o : Oper} {f : Operand} {args : List Operand} (h : isCall o = some (f, args)) : o.op.operands.toList = f :: args := by
  unfold isCall at h
  split at h
  · rename_i f' args' tys he
    simp only [Option.some.injEq, Prod.mk.injEq] at h
    obtain ⟨rfl, rfl⟩ := h
    rw [he]
    simp [Op.operands, Call.operands]
  · cases h
theorem exO_like {o : Oper} {fr fr' : List AV} (h : Like ops o fr fr') (S : Obs) (T : Toks) : exO P cf rw' ops o ⟨fr, S, T⟩ = exO P cf rw' ops o ⟨fr', S, T⟩ := by
  unfold exO run1
  simp only [h.want]
  cases hc : isCall o with
  | none => simp only [core_congr (rw' := rw') h.opd S T]
  | some p =>
    obtain ⟨f, args⟩ := p
    have h1 := isCall_ops hc
    have h2 : opd fr f = opd fr' f := h.opd f (by rw [h1]; simp)
    have h3 : args.map (opd fr) = args.map (opd fr') := List.map_congr_left fun y hy => h.opd y (by rw [h1]; simp [hy])
    simp only [h2, h3, callT]
theorem cls_like {o : Oper} {fr fr' : List AV} (h : Like ops o fr fr') (S : Obs) (T : Toks) : cls kp rw' ops o ⟨fr, S, T⟩ = cls kp rw' ops o ⟨fr', S, T⟩ := by
  have rest : plainOp o.op = true → isCall o = none → cls kp rw' ops o ⟨fr, S, T⟩ = cls kp rw' ops o ⟨fr', S, T⟩ := by
    intro hp hc
    have key : ∀ fr : List AV, cls kp rw' ops o ⟨fr, S, T⟩ = (match wantA ops o fr with
      | some true => (match isApp o with
        | some (a, x, _) => if (!rw' && isSl (opd fr a) && isSl (opd fr x)) = true then .chain else .all
        | none => match isDel o with
          | some _ => .all
          | none => match isClr o with
            | some _ => .all
            | none => match isLen o with
            | some (m, _) => match opd fr m with
              | .mp id => .reads id
              | _ => .quiet
            | none => .quiet)
      | _ => .quiet) := fun fr => by
      obtain ⟨dst, op, ty, pos, after, guard⟩ := o
      unfold cls
      simp only [hc]
      cases op <;> first | rfl | cases hp
    rw [key, key, h.want]
    cases ha : isApp o with
    | some q =>
      obtain ⟨s, x, t⟩ := q
      have ho := isApp_inv ha
      simp only [h.opd s (by rw [ho]; simp [Op.operands, Call.operands]), h.opd x (by rw [ho]; simp [Op.operands, Call.operands])]
    | none =>
      simp only []
      cases hd : isDel o with
      | some q => rfl
      | none =>
        simp only []
        cases hcl : isClr o with
        | some q => rfl
        | none =>
        simp only []
        cases hl : isLen o with
        | some q =>
          obtain ⟨m, t⟩ := q
          have ho := isLen_inv hl
          simp only [h.opd m (by rw [ho]; simp [Op.operands, Call.operands])]
        | none => rfl
  cases hc : isCall o with
  | none =>
    cases ho : o.op with
    | load t a => unfold cls; simp only [h.want, hc, ho, h.opd a (by rw [ho]; simp [Op.operands])]
    | indexAddr t a i => unfold cls; simp only [h.want, hc, ho, h.opd a (by rw [ho]; simp [Op.operands])]
    | lookup t a i ok => unfold cls; simp only [h.want, hc, ho, h.opd a (by rw [ho]; simp [Op.operands])]
    | alloc t => unfold cls; simp only [h.want, hc, ho]
    | box t y => unfold cls; simp only [h.want, hc, ho]
    | store t y z => unfold cls; simp only [h.want, hc, ho, h.opd y (by rw [ho]; simp [Op.operands])]
    | makeSlice t y z => unfold cls; simp only [h.want, hc, ho]
    | buildSlice t y z => unfold cls; simp only [h.want, hc, ho]
    | makeMap t y => unfold cls; simp only [h.want, hc, ho]
    | insert t y z q => unfold cls; simp only [h.want, hc, ho]
    | mapUpdate t y z q => unfold cls; simp only [h.want, hc, ho]
    | range t y => unfold cls; simp only [h.want, hc, ho]
    | next t y => unfold cls; simp only [h.want, hc, ho]
    | _ => exact rest (by rw [ho]; rfl) hc
  | some p =>
    unfold cls
    simp only [h.want]
    obtain ⟨f, args⟩ := p
    have h1 := isCall_ops hc
    have h2 : opd fr f = opd fr' f := h.opd f (by rw [h1]; simp)
    have h3 : args.map (opd fr) = args.map (opd fr') := List.map_congr_left fun y hy => h.opd y (by rw [h1]; simp [hy])
    simp only [hc, h2, h3]
/-- A call on values alone does nothing to objects. -/
def PureF (cf : CallF) (kp : FuncId → Bool) : Prop := ∀ f args S r S', args.all d2 = true → kp f = false → cf f args S = some (r, S') → S' = S ∧ ∀ S2, cf f args S2 = some (r, S2)
/-- What the class of an operation says. -/
def Says (P : Program) (cf : CallF) (kp : FuncId → Bool) (rw' : Bool) (ops : Array Oper) (o : Oper) (fr : List AV) (S : Obs) (T : Toks) (x : AV) (S' : Obs) (T' : Toks) : Cls → Prop
  | .quiet => S' = S ∧ T' = T ∧ ∀ S2 T2, exO P cf rw' ops o ⟨fr, S2, T2⟩ = some (x, S2, T2) ∧ cls kp rw' ops o ⟨fr, S2, T2⟩ = .quiet
  | .reads id => S' = S ∧ T' = T ∧ ∀ S2 T2, S2[id]? = S[id]? → exO P cf rw' ops o ⟨fr, S2, T2⟩ = some (x, S2, T2) ∧ cls kp rw' ops o ⟨fr, S2, T2⟩ = .reads id
  | .makes n => n = S.length ∧ T' = T ∧ ∃ ob, S' = S ++ [ob] ∧ x = .ptr S.length 0 ∧ ∀ S2 T2, exO P cf rw' ops o ⟨fr, S2, T2⟩ = some (.ptr S2.length 0, S2 ++ [ob], T2) ∧ cls kp rw' ops o ⟨fr, S2, T2⟩ = .makes S2.length
  | .chain => S' = S ∧ ∀ S2, exO P cf rw' ops o ⟨fr, S2, T⟩ = some (x, S2, T') ∧ cls kp rw' ops o ⟨fr, S2, T⟩ = .chain
  | .writes id => T' = T ∧ id < S.length ∧ ∃ ob, S' = S.set id ob ∧ ∀ S2 T2, S2[id]? = S[id]? → exO P cf rw' ops o ⟨fr, S2, T2⟩ = some (x, S2.set id ob, T2) ∧ cls kp rw' ops o ⟨fr, S2, T2⟩ = .writes id
  | .call => T' = T ∧ ∀ T2, exO P cf rw' ops o ⟨fr, S, T2⟩ = some (x, S', T2) ∧ ∀ S2, cls kp rw' ops o ⟨fr, S2, T2⟩ = .call
  | .news n => False
  | .all => True
theorem rowA_id {S S2 : Obs} {id ver : Nat} (h : S2[id]? = S[id]?) : rowA S2 id ver = rowA S id ver := by
  simp only [rowA, h]
theorem rdc_id {S S2 : Obs} {id off n : Nat} (h : S2[id]? = S[id]?) : rdc S2 (.ptr id off) n = rdc S (.ptr id off) n := by
  simp only [rdc, h]
theorem rdc_ep {S S2 : Obs} {id ver i off n : Nat} (h : S2[id]? = S[id]?) : rdc S2 (.ep id ver i off) n = rdc S (.ep id ver i off) n := by
  simp only [rdc, rowA_id h]
theorem rdc_not {S S2 : Obs} {x : AV} {n : Nat} (h : ∀ id off, x ≠ .ptr id off) (h2 : ∀ id ver i off, x ≠ .ep id ver i off) : rdc S2 x n = rdc S x n := by
  cases x <;> first | rfl | exact absurd rfl (h _ _) | exact absurd rfl (h2 _ _ _ _)
theorem elM_id {t : TypeId} {id ver n : Nat} {i : AV} {S S2 : Obs} (h : S2[id]? = S[id]?) : elM P t id ver n i S2 = elM P t id ver n i S := by
  simp only [elM, rowA_id h]
theorem exO_inv {o : Oper} {fr : List AV} {S : Obs} {T : Toks} {r : AV × Obs × Toks} (h : exO P cf rw' ops o ⟨fr, S, T⟩ = some r) :
    (wantA ops o fr = some false ∧ r = (.tup [], S, T)) ∨ (wantA ops o fr = some true ∧ run1 P cf rw' o ⟨fr, S, T⟩ = some r) := by
  unfold exO at h
  split at h
  · rename_i b hw
    cases b with
    | true => exact .inr ⟨hw, by simpa using h⟩
    | false => exact .inl ⟨hw, by simpa using h.symm⟩
  · cases h
theorem exO_says (hpu : PureF cf kp) {o : Oper} {fr : List AV} {S : Obs} {T : Toks} {x : AV} {S' : Obs} {T' : Toks} (h : exO P cf rw' ops o ⟨fr, S, T⟩ = some (x, S', T')) : Says P cf kp rw' ops o fr S T x S' T' (cls kp rw' ops o ⟨fr, S, T⟩) := by
  rcases exO_inv h with ⟨hw, hr⟩ | ⟨hw, hr⟩
  · have hc : ∀ S2 T2, cls kp rw' ops o ⟨fr, S2, T2⟩ = .quiet := fun S2 T2 => by unfold cls; simp only [hw]
    rw [hc]
    simp only [Prod.mk.injEq] at hr
    obtain ⟨rfl, rfl, rfl⟩ := hr
    exact ⟨rfl, rfl, fun S2 T2 => ⟨by unfold exO; simp [hw], hc S2 T2⟩⟩
  · have hex : ∀ S2 T2, exO P cf rw' ops o ⟨fr, S2, T2⟩ = run1 P cf rw' o ⟨fr, S2, T2⟩ := fun S2 T2 => by unfold exO; simp [hw]
    cases hic : isCall o with
    | some q =>
      obtain ⟨f, args⟩ := q
      have hrun : ∀ S2 T2, run1 P cf rw' o ⟨fr, S2, T2⟩ = (match opd fr f with
        | .fn g cap => if cap.all capOk = true then (if TVm.tv = true then callT cf g (args.map (opd fr) ++ cap) ⟨fr, S2, T2⟩ else (cf g (args.map (opd fr) ++ cap) S2).map fun r => (r.1, r.2, T2)) else none
        | _ => none) := fun S2 T2 => by unfold run1; simp only [hic]; rfl
      have hcl : ∀ S2 T2, cls kp rw' ops o ⟨fr, S2, T2⟩ = (match opd fr f with
        | .fn g cap => if ((args.map (opd fr) ++ cap).all d2 && !kp g) = true then .quiet else .call
        | _ => .all) := fun S2 T2 => by unfold cls; simp only [hw, hic]; rfl
      rw [hrun] at hr
      cases hf : opd fr f with
      | fn g cap =>
        simp only [hf] at hr hcl hrun
        rw [hcl]
        split at hr
        case isFalse => cases hr
        rename_i hcap
        by_cases htv : TVm.tv = true
        · simp only [if_pos htv] at hr hrun
          have hT : ∀ S2 T2, callT cf g (args.map (opd fr) ++ cap) ⟨fr, S2, T2⟩ = (callT cf g (args.map (opd fr) ++ cap) ⟨fr, S, T⟩).map fun r => (r.1, S2, T2) := fun S2 T2 => by
            unfold callT
            split
            · split
              · split <;> rfl
              · rfl
            · rfl
          have hST : S' = S ∧ T' = T := by
            have h := hT S T
            rw [hr] at h
            simp only [Option.map_some, Option.some.injEq, Prod.mk.injEq] at h
            exact ⟨h.2.1, h.2.2⟩
          obtain ⟨rfl, rfl⟩ := hST
          have hex2 : ∀ S2 T2, exO P cf rw' ops o ⟨fr, S2, T2⟩ = some (x, S2, T2) := fun S2 T2 => by
            rw [hex, hrun, if_pos hcap, hT, hr]; rfl
          by_cases hd : ((args.map (opd fr) ++ cap).all d2 && !kp g) = true
          · rw [if_pos hd]
            exact ⟨rfl, rfl, fun S2 T2 => ⟨hex2 S2 T2, by rw [hcl, if_pos hd]⟩⟩
          · rw [if_neg hd]
            exact ⟨rfl, fun T2 => ⟨hex2 _ T2, fun S2 => by rw [hcl, if_neg hd]⟩⟩
        simp only [if_neg htv] at hr hrun
        by_cases hd : ((args.map (opd fr) ++ cap).all d2 && !kp g) = true
        · rw [if_pos hd]
          simp only [Bool.and_eq_true, Bool.not_eq_true'] at hd
          obtain ⟨r0, hr0, hr⟩ := Option.map_eq_some_iff.1 hr
          obtain ⟨r0, S1⟩ := r0
          simp only [Prod.mk.injEq] at hr
          obtain ⟨rfl, rfl, rfl⟩ := hr
          obtain ⟨rfl, hall⟩ := hpu _ _ _ _ _ hd.1 hd.2 hr0
          refine ⟨rfl, rfl, fun S2 T2 => ⟨?_, by rw [hcl, if_pos (by simp [hd])]⟩⟩
          rw [hex, hrun, if_pos hcap, hall S2]
          rfl
        · rw [if_neg hd]
          obtain ⟨r0, hr0, hr⟩ := Option.map_eq_some_iff.1 hr
          obtain ⟨r0, S1⟩ := r0
          simp only [Prod.mk.injEq] at hr
          obtain ⟨rfl, rfl, rfl⟩ := hr
          exact ⟨rfl, fun T2 => ⟨by rw [hex, hrun, if_pos hcap, hr0]; rfl, fun S2 => by rw [hcl, if_neg hd]⟩⟩
      | _ => simp only [hf] at hr; cases hr
    | none =>
      have hrun : ∀ S2 T2, run1 P cf rw' o ⟨fr, S2, T2⟩ = core P rw' o (opd fr) S2 T2 := fun S2 T2 => by unfold run1; simp only [hic]
      rw [hrun] at hr
      -- what reads an object
      have reads : ∀ id, cls kp rw' ops o ⟨fr, S, T⟩ = .reads id → (∀ S2 T2, cls kp rw' ops o ⟨fr, S2, T2⟩ = .reads id) → S' = S → T' = T → (∀ S2 T2, S2[id]? = S[id]? → core P rw' o (opd fr) S2 T2 = some (x, S2, T2)) → Says P cf kp rw' ops o fr S T x S' T' (cls kp rw' ops o ⟨fr, S, T⟩) := by
        intro id hc hc2 h1 h2 h3
        rw [hc]
        exact ⟨h1, h2, fun S2 T2 hid => ⟨by rw [hex, hrun]; exact h3 S2 T2 hid, hc2 S2 T2⟩⟩
      have quiet : (∀ S2 T2, cls kp rw' ops o ⟨fr, S2, T2⟩ = .quiet) → S' = S → T' = T → (∀ S2 T2, core P rw' o (opd fr) S2 T2 = some (x, S2, T2)) → Says P cf kp rw' ops o fr S T x S' T' (cls kp rw' ops o ⟨fr, S, T⟩) := by
        intro hc h1 h2 h3
        rw [hc]
        exact ⟨h1, h2, fun S2 T2 => ⟨by rw [hex, hrun]; exact h3 S2 T2, hc S2 T2⟩⟩
      have all : cls kp rw' ops o ⟨fr, S, T⟩ = .all → Says P cf kp rw' ops o fr S T x S' T' (cls kp rw' ops o ⟨fr, S, T⟩) := fun hc => by rw [hc]; trivial
      have mq : (((coreQ P o (opd fr)).map fun r => (r, S, T)) = some (x, S', T')) → S' = S ∧ T' = T ∧ ∀ (S2 : Obs) (T2 : Toks), ((coreQ P o (opd fr)).map fun r => (r, S2, T2)) = some (x, S2, T2) := by
        intro h
        obtain ⟨r, hr1, hr2⟩ := Option.map_eq_some_iff.1 h
        simp only [Prod.mk.injEq] at hr2
        obtain ⟨rfl, rfl, rfl⟩ := hr2
        exact ⟨rfl, rfl, fun S2 T2 => by rw [hr1]; rfl⟩
      have rest : plainOp o.op = true → Says P cf kp rw' ops o fr S T x S' T' (cls kp rw' ops o ⟨fr, S, T⟩) := by
        intro hp
        have hcl : ∀ S2 T2, cls kp rw' ops o ⟨fr, S2, T2⟩ = (match isApp o with
            | some (a, x, _) => if (!rw' && isSl (opd fr a) && isSl (opd fr x)) = true then .chain else .all
            | none => match isDel o with
              | some _ => .all
              | none => match isClr o with
                | some _ => .all
                | none => match isLen o with
                | some (m, _) => match opd fr m with
                  | .mp id => .reads id
                  | _ => .quiet
                | none => .quiet) := fun S2 T2 => by
          obtain ⟨dst, op, ty, pos, after, guard⟩ := o
          unfold cls
          simp only [hw, hic]
          cases op <;> first | rfl | cases hp
        have hco : ∀ S2 T2, core P rw' o (opd fr) S2 T2 = coreP P rw' o (opd fr) S2 T2 := fun S2 T2 => core_rest hp
        rw [hco] at hr
        unfold coreP at hr hco
        cases hap : isApp o with
        | some q =>
          obtain ⟨s, y, t⟩ := q
          simp only [hap] at hr hcl hco
          by_cases hb : (!rw' && isSl (opd fr s) && isSl (opd fr y)) = true
          · rw [hcl, if_pos hb]
            simp only [Bool.and_eq_true, Bool.not_eq_true'] at hb
            unfold appX at hr hco
            rw [if_neg (by rw [hb.1.1]; simp), if_pos (by simp [hb])] at hr
            obtain ⟨r, hr1, hr2⟩ := Option.map_eq_some_iff.1 hr
            simp only [Prod.mk.injEq] at hr2
            obtain ⟨rfl, rfl, rfl⟩ := hr2
            refine ⟨rfl, fun S2 => ⟨?_, by rw [hcl, if_pos (by simp [hb])]⟩⟩
            rw [hex, hrun, hco, if_neg (by rw [hb.1.1]; simp), if_pos (by simp [hb]), hr1]
            rfl
          · exact all (by rw [hcl, if_neg hb])
        | none =>
          simp only [hap] at hr hcl hco
          cases hdl : isDel o with
          | some q =>
            simp only [hdl] at hcl
            exact all (hcl S T)
          | none =>
            simp only [hdl] at hr hcl hco
            cases hck : isClr o with
            | some q =>
              simp only [hck] at hcl
              exact all (hcl S T)
            | none =>
            simp only [hck] at hr hcl hco
            cases hln : isLen o with
            | some q =>
              obtain ⟨m, t⟩ := q
              simp only [hln] at hr hcl hco
              by_cases hm : ∃ id, opd fr m = .mp id
              · obtain ⟨id, hm⟩ := hm
                simp only [hm] at hr hcl hco
                split at hr
                case h_2 => cases hr
                rename_i es hS
                split at hr
                case isFalse => cases hr
                rename_i ht
                simp only [Option.some.injEq, Prod.mk.injEq] at hr
                obtain ⟨rfl, rfl, rfl⟩ := hr
                exact reads id (hcl _ _) hcl rfl rfl (fun S2 T2 hid => by rw [hco, hid, hS]; simp only [ht, if_true])
              · have hq : ∀ S2 T2, cls kp rw' ops o ⟨fr, S2, T2⟩ = .quiet := fun S2 T2 => by
                  rw [hcl]
                  cases hv : opd fr m <;> first | rfl | exact absurd ⟨_, hv⟩ hm
                have hco2 : ∀ S2 T2, core P rw' o (opd fr) S2 T2 = (coreQ P o (opd fr)).map fun r => (r, S2, T2) := fun S2 T2 => by
                  rw [hco]
                  cases hv : opd fr m <;> first | rfl | exact absurd ⟨_, hv⟩ hm
                have hr2 : ((coreQ P o (opd fr)).map fun r => (r, S, T)) = some (x, S', T') := by
                  rw [← hco2, hco]; exact hr
                obtain ⟨h1, h2, h3⟩ := mq hr2
                exact quiet hq h1 h2 (fun S2 T2 => by rw [hco2]; exact h3 S2 T2)
            | none =>
              simp only [hln] at hr hcl hco
              obtain ⟨h1, h2, h3⟩ := mq hr
              exact quiet hcl h1 h2 (fun S2 T2 => by rw [hco]; exact h3 S2 T2)
      cases hop : o.op with
      | alloc t =>
        have hc : ∀ S2 T2, cls kp rw' ops o ⟨fr, S2, T2⟩ = .makes S2.length := fun S2 T2 => by unfold cls; simp only [hw, hic, hop]
        rw [hc]
        have hco : ∀ S2 T2, core P rw' o (opd fr) S2 T2 = (match tzero P t with
          | some cs => some (.ptr S2.length 0, S2 ++ [.var false cs], T2)
          | none => none) := fun S2 T2 => by unfold core; simp only [hop]; rfl
        rw [hco] at hr
        split at hr
        case h_2 => cases hr
        rename_i cs hcs
        simp only [Option.some.injEq, Prod.mk.injEq] at hr
        obtain ⟨rfl, rfl, rfl⟩ := hr
        exact ⟨rfl, rfl, _, rfl, rfl, fun S2 T2 => ⟨by rw [hex, hrun, hco, hcs], hc _ _⟩⟩
      | box t y =>
        have hc : ∀ S2 T2, cls kp rw' ops o ⟨fr, S2, T2⟩ = .makes S2.length := fun S2 T2 => by unfold cls; simp only [hw, hic, hop]
        rw [hc]
        have hco : ∀ S2 T2, core P rw' o (opd fr) S2 T2 = (if (opd fr y).cells.all one = true then some (.ptr S2.length 0, S2 ++ [.var false (cellsT (opd fr y).cells)], T2) else none) := fun S2 T2 => by unfold core; simp only [hop]
        rw [hco] at hr
        split at hr
        case isFalse => cases hr
        rename_i hone
        simp only [Option.some.injEq, Prod.mk.injEq] at hr
        obtain ⟨rfl, rfl, rfl⟩ := hr
        exact ⟨rfl, rfl, _, rfl, rfl, fun S2 T2 => ⟨by rw [hex, hrun, hco, if_pos hone], hc _ _⟩⟩
      | load t y =>
        have hcl : ∀ S2 T2, cls kp rw' ops o ⟨fr, S2, T2⟩ = (match opd fr y with
          | .ptr id _ => .reads id
          | .ep id _ _ _ => .reads id
          | _ => .quiet) := fun S2 T2 => by unfold cls; simp only [hw, hic, hop]; rfl
        have hco : ∀ S2 T2, core P rw' o (opd fr) S2 T2 = (match tagg P t, tsz P t with
          | some ag, some n => if (ag || n == 1) = true then (match rdc S2 (opd fr y) n with
            | some cs => (ofC ag cs).map fun x => (x, S2, T2)
            | none => none) else none
          | _, _ => none) := fun S2 T2 => by unfold core; simp only [hop]; rfl
        rw [hco] at hr
        split at hr
        case h_2 => cases hr
        rename_i ag n hag hn
        simp only [hag, hn] at hco
        split at hr
        case isFalse => cases hr
        rename_i hc0
        split at hr
        case h_2 => cases hr
        rename_i cs hcs
        obtain ⟨z, hz, hr⟩ := Option.map_eq_some_iff.1 hr
        simp only [Prod.mk.injEq] at hr
        obtain ⟨rfl, rfl, rfl⟩ := hr
        have hfin : ∀ S2 T2, rdc S2 (opd fr y) n = rdc S (opd fr y) n → core P rw' o (opd fr) S2 T2 = some (z, S2, T2) := fun S2 T2 hq => by
          rw [hco, if_pos hc0, hq, hcs]
          simp only [hz]; rfl
        by_cases hp : ∃ id off, opd fr y = .ptr id off
        · obtain ⟨id, off, hp⟩ := hp
          have hc : ∀ S2 T2, cls kp rw' ops o ⟨fr, S2, T2⟩ = .reads id := fun S2 T2 => by rw [hcl]; simp only [hp]
          exact reads id (hc _ _) hc rfl rfl (fun S2 T2 hid => hfin S2 T2 (by rw [hp]; exact rdc_id hid))
        · by_cases hp2 : ∃ id ver i off, opd fr y = .ep id ver i off
          · obtain ⟨id, ver, i, off, hp2⟩ := hp2
            have hc : ∀ S2 T2, cls kp rw' ops o ⟨fr, S2, T2⟩ = .reads id := fun S2 T2 => by rw [hcl]; simp only [hp2]
            exact reads id (hc _ _) hc rfl rfl (fun S2 T2 hid => hfin S2 T2 (by rw [hp2]; exact rdc_ep hid))
          · have hne : ∀ id off, opd fr y ≠ .ptr id off := fun id off e => hp ⟨id, off, e⟩
            have hne2 : ∀ id ver i off, opd fr y ≠ .ep id ver i off := fun id ver i off e => hp2 ⟨id, ver, i, off, e⟩
            have hc : ∀ S2 T2, cls kp rw' ops o ⟨fr, S2, T2⟩ = .quiet := fun S2 T2 => by
              rw [hcl]
              cases hv : opd fr y <;> first | rfl | exact absurd hv (hne _ _) | exact absurd hv (hne2 _ _ _ _)
            exact quiet hc rfl rfl (fun S2 T2 => hfin S2 T2 (rdc_not hne hne2))
      | store t y z =>
        have hcl : ∀ S2 T2, cls kp rw' ops o ⟨fr, S2, T2⟩ = (match opd fr y with
          | .ptr id _ => .writes id
          | _ => .all) := fun S2 T2 => by unfold cls; simp only [hw, hic, hop]; rfl
        by_cases hp : ∃ id off, opd fr y = .ptr id off
        · obtain ⟨id, off, hp⟩ := hp
          simp only [hp] at hcl
          rw [hcl]
          have hco : ∀ S2 T2, core P rw' o (opd fr) S2 T2 = (match tsz P t with
            | some n => if (opd fr z).cells.length = n then (wrc S2 (.ptr id off) (opd fr z).cells).map fun S' => (.tup [], S', T2) else none
            | none => none) := fun S2 T2 => by unfold core; simp only [hop, hp]; rfl
          rw [hco] at hr
          split at hr
          case h_2 => cases hr
          rename_i n hn
          simp only [hn] at hco
          split at hr
          case isFalse => cases hr
          rename_i hl
          obtain ⟨S1, hS1, hr⟩ := Option.map_eq_some_iff.1 hr
          simp only [Prod.mk.injEq] at hr
          obtain ⟨rfl, rfl, rfl⟩ := hr
          have hwr : ∀ S2, wrc S2 (.ptr id off) (opd fr z).cells = (match S2[id]? with
            | some (.var d c) => if off + (opd fr z).cells.length ≤ c.length ∧ ((opd fr z).cells.all one && (!d || (opd fr z).cells.all d1)) = true then some (S2.set id (.var d (splice c off (cellsT (opd fr z).cells)))) else none
            | _ => none) := fun S2 => rfl
          rw [hwr] at hS1
          split at hS1
          case h_2 => cases hS1
          rename_i d c hc
          split at hS1
          case isFalse => cases hS1
          rename_i hcc
          cases hS1
          refine ⟨rfl, (List.getElem?_eq_some_iff.mp hc).1, _, rfl, fun S2 T2 hid => ⟨?_, hcl _ _⟩⟩
          rw [hex, hrun, hco, if_pos hl, hwr, hid, hc]
          simp only [if_pos hcc, Option.map_some]
        · refine all ?_
          rw [hcl]
          cases hv : opd fr y <;> first | rfl | exact absurd ⟨_, _, hv⟩ hp
      | indexAddr t y i =>
        have hcl : ∀ S2 T2, cls kp rw' ops o ⟨fr, S2, T2⟩ = (match opd fr y with
          | .ms id _ _ => .reads id
          | _ => .quiet) := fun S2 T2 => by unfold cls; simp only [hw, hic, hop]; rfl
        have hco : ∀ S2 T2, core P rw' o (opd fr) S2 T2 = (match opd fr y with
          | .ms id ver n => (elM P t id ver n (opd fr i) S2).map fun r => (r, S2, T2)
          | _ => (coreQ P o (opd fr)).map fun r => (r, S2, T2)) := fun S2 T2 => by unfold core; simp only [hop]; rfl
        rw [hco] at hr
        by_cases hp : ∃ id ver n, opd fr y = .ms id ver n
        · obtain ⟨id, ver, n, hp⟩ := hp
          simp only [hp] at hr hcl hco
          obtain ⟨r, hr1, hr2⟩ := Option.map_eq_some_iff.1 hr
          simp only [Prod.mk.injEq] at hr2
          obtain ⟨rfl, rfl, rfl⟩ := hr2
          exact reads id (hcl _ _) hcl rfl rfl (fun S2 T2 hid => by rw [hco, elM_id hid, hr1]; rfl)
        · have hq : ∀ S2 T2, cls kp rw' ops o ⟨fr, S2, T2⟩ = .quiet := fun S2 T2 => by
            rw [hcl]
            cases hv : opd fr y <;> first | rfl | exact absurd ⟨_, _, _, hv⟩ hp
          have hco2 : ∀ S2 T2, core P rw' o (opd fr) S2 T2 = (coreQ P o (opd fr)).map fun r => (r, S2, T2) := fun S2 T2 => by
            rw [hco]
            cases hv : opd fr y <;> first | rfl | exact absurd ⟨_, _, _, hv⟩ hp
          have hr2 : ((coreQ P o (opd fr)).map fun r => (r, S, T)) = some (x, S', T') := by
            rw [← hco2, hco]; exact hr
          obtain ⟨h1, h2, h3⟩ := mq hr2
          exact quiet hq h1 h2 (fun S2 T2 => by rw [hco2]; exact h3 S2 T2)
      | makeSlice t y z => exact all (by unfold cls; simp only [hw, hic, hop])
      | buildSlice t n ps =>
        cases hrw : (rw' && n != 0) with
        | true => exact all (by unfold cls; simp only [hw, hic, hop, hrw, if_true])
        | false =>
          have hq : ∀ S2 T2, cls kp rw' ops o ⟨fr, S2, T2⟩ = .quiet := fun S2 T2 => by unfold cls; simp only [hw, hic, hop, hrw, Bool.false_eq_true, if_false]
          have hco2 : ∀ S2 T2, core P rw' o (opd fr) S2 T2 = (coreQ P o (opd fr)).map fun r => (r, S2, T2) := fun S2 T2 => by
            unfold core; simp only [hop, hrw, Bool.false_eq_true, if_false]
          rw [hco2] at hr
          obtain ⟨h1, h2, h3⟩ := mq hr
          exact quiet hq h1 h2 (fun S2 T2 => by rw [hco2]; exact h3 S2 T2)
      | makeMap t r => exact all (by unfold cls; simp only [hw, hic, hop])
      | insert t m k y => exact all (by unfold cls; simp only [hw, hic, hop])
      | mapUpdate t m k y => exact all (by unfold cls; simp only [hw, hic, hop])
      | lookup t m k ok =>
        have hcl : ∀ S2 T2, cls kp rw' ops o ⟨fr, S2, T2⟩ = (match opd fr m with
          | .mp id => .reads id
          | _ => .quiet) := fun S2 T2 => by unfold cls; simp only [hw, hic, hop]; rfl
        have hco : ∀ S2 T2, core P rw' o (opd fr) S2 T2 = (match opd fr m, keyV (opd fr k) with
          | .mp id, some n => (match S2[id]? with
            | some (.map es) => (lookA P t (mget es n) ok).map fun r => (r, S2, T2)
            | _ => none)
          | .v (.map none), some _ => (lookA P t none ok).map fun r => (r, S2, T2)
          | _, _ => none) := fun S2 T2 => by unfold core; simp only [hop]; rfl
        rw [hco] at hr
        split at hr
        · rename_i id n hm hk
          simp only [hm, hk] at hcl hco
          split at hr
          case h_2 => cases hr
          rename_i es hS
          obtain ⟨r, hr1, hr2⟩ := Option.map_eq_some_iff.1 hr
          simp only [Prod.mk.injEq] at hr2
          obtain ⟨rfl, rfl, rfl⟩ := hr2
          exact reads id (hcl _ _) hcl rfl rfl (fun S2 T2 hid => by rw [hco, hid, hS]; simp only [hr1]; rfl)
        · rename_i n hm hk
          simp only [hm, hk] at hcl hco
          obtain ⟨r, hr1, hr2⟩ := Option.map_eq_some_iff.1 hr
          simp only [Prod.mk.injEq] at hr2
          obtain ⟨rfl, rfl, rfl⟩ := hr2
          exact quiet hcl rfl rfl (fun S2 T2 => by rw [hco, hr1]; rfl)
        · cases hr
      | range t y => exact all (by unfold cls; simp only [hw, hic, hop])
      | next it str => exact all (by unfold cls; simp only [hw, hic, hop])
      | _ => exact rest (by rw [hop]; rfl)
end
end Go.Proofs.Ytplpmelpoajpdaa.Ev
namespace Go.Proofs.Ytplpmelpoajpdaa.Own
open Go
theorem count_set : ∀ (l : List Bool) (i : Nat), l[i]? = some false → (l.set i true).countP (! ·) + 1 = l.countP (! ·)
  | [], i, h => by simp at h
  | b :: l, 0, h => by
    simp only [List.getElem?_cons_zero, Option.some.injEq] at h
    subst h
    rw [List.set_cons_zero, List.countP_cons, List.countP_cons]
    simp
  | b :: l, i + 1, h => by
    rw [List.getElem?_cons_succ] at h
    have := count_set l i h
    rw [List.set_cons_succ, List.countP_cons, List.countP_cons]
    omega
theorem getD_false {l : Array Bool} {i : Nat} (h : l.getD i true = false) : l.toList[i]? = some false := by
  rw [Array.getElem?_toList]
  rw [Array.getD_eq_getD_getElem?] at h
  cases hh : l[i]? with
  | none => rw [hh] at h; cases h
  | some b => rw [hh] at h; exact congrArg some h
section
variable {P : Program} {ops : Array Oper} {Q : Exit → Act → World → Prop} {md : Region.Mode}
/-- I: what holds when the operations listed are through. -/
theorem wpAny_inv (I : Array Bool → Act → World → Prop)
    (hstep : ∀ (l : Array Bool) (a : Act) (w : World) (i : Nat), l.size = ops.size → I l a w → i ∈ Region.ready md ops l → wpOp P ops Q i (I (l.setIfInBounds i true)) a w)
    (hend : ∀ (l : Array Bool) (a : Act) (w : World), l.size = ops.size → Region.ready md ops l = [] → I l a w → Q .normal a w) :
    ∀ (fuel : Nat) (l : Array Bool) (a : Act) (w : World), l.size = ops.size → (l.toList.countP (! ·)) ≤ fuel → I l a w → wpAny P md ops Q fuel l a w
  | 0, l, a, w, hs, hc, h => by
    have hr : Region.ready md ops l = [] := by
      rw [List.eq_nil_iff_forall_not_mem]
      intro i hi
      obtain ⟨h1, _⟩ := mem_ready.mp hi
      have h2 := List.mem_of_getElem? (getD_false h1)
      have h3 : 0 < l.toList.countP (! ·) := List.countP_pos_iff.mpr ⟨false, h2, rfl⟩
      omega
    exact ⟨hr, hend l a w hs hr h⟩
  | fuel + 1, l, a, w, hs, hc, h => by
    refine ⟨fun hr => hend l a w hs hr h, fun i hi => ?_⟩
    refine wpOp_mono (fun a' w' h' => ?_) (hstep l a w i hs h hi)
    refine wpAny_inv I hstep hend fuel _ a' w' (by simpa using hs) ?_ h'
    obtain ⟨h1, _⟩ := mem_ready.mp hi
    have := count_set l.toList i (getD_false h1)
    rw [Array.toList_setIfInBounds]
    omega
/-- The whole region. -/
theorem region_inv {id : Nat} {a : Act} {w : World} (hm : P.follows .mixedOrders = true) (I : Array Bool → Act → World → Prop)
    (h0 : I (Array.replicate ops.size false) a { w with drawn := w.drawn + 1 })
    (hstep : ∀ (l : Array Bool) (a : Act) (w : World) (i : Nat), l.size = ops.size → I l a w → i ∈ Region.ready .any ops l → wpOp P ops Q i (I (l.setIfInBounds i true)) a w)
    (hend : ∀ (l : Array Bool) (a : Act) (w : World), l.size = ops.size → Region.ready .any ops l = [] → I l a w → Q .normal a w) :
    (Code.region id ops true).wp P Q a w := by
  refine wp_region_any hm (wpAny_inv I hstep hend ops.size _ a _ (by simp) ?_ h0)
  refine Nat.le_trans List.countP_le_length ?_
  simp
/-- Of an operation that is ready: it isn't through, and what it waits for is. -/
theorem ready_of {l : Array Bool} {i : Nat} (h : i ∈ Region.ready md ops l) : l.getD i true = false ∧ ∃ o, ops[i]? = some o ∧ ∀ e ∈ o.after, Region.binds md e = true → l.getD e.on false = true := mem_ready.mp h
/-- Each operation waits for earlier ones alone. -/
def forwardB (md : Region.Mode) (ops : Array Oper) : Bool := (List.range ops.size).all fun i => match ops[i]? with | some o => o.after.all fun e => !Region.binds md e || decide (e.on < i) | none => true
/-- Where nothing is ready all are through. -/
theorem all_listed (hf : forwardB md ops = true) {l : Array Bool} (hs : l.size = ops.size) (hr : Region.ready md ops l = []) : ∀ i, i < ops.size → l.getD i false = true := by
  intro i
  induction i using Nat.strongRecOn with
  | ind i ih =>
    intro hi
    by_cases h : l.getD i false = true
    · exact h
    · exfalso
      have hil : i < l.size := by omega
      have h1 : l.getD i true = false := by
        rw [Array.getD_eq_getD_getElem?, Array.getElem?_eq_getElem hil] at h ⊢
        simpa using h
      have ho : ops[i]? = some ops[i] := Array.getElem?_eq_getElem hi
      have hfi := List.all_eq_true.mp hf i (List.mem_range.mpr hi)
      simp only [ho] at hfi
      have : i ∈ Region.ready md ops l := mem_ready.mpr ⟨h1, ops[i], ho, fun e he hb => by
        have h2 := Array.all_eq_true_iff_forall_mem.mp hfi e he
        rw [hb] at h2
        have h3 : e.on < i := by simpa using h2
        exact ih e.on h3 (by omega)⟩
      rw [hr] at this
      cases this
end
end Go.Proofs.Ytplpmelpoajpdaa.Own
