/- The tree of processors: what the program's walks through it compute. No condition. -/
import Derived.Test.YtplpmelpoajpdaaTlLib3
import Derived.Test.YtplpmelpoajpdaaProg
import Derived.RowKit
namespace Go.Proofs.Ytplpmelpoajpdaa.Ev
open Go
set_option linter.unusedSectionVars false
set_option linter.unusedVariables false
set_option linter.unusedSimpArgs false
section
variable [TVm] {P : Program} {cf : CallF} {kp : FuncId → Bool} {rw' : Bool} {ops : Array Oper}
theorem like_put {o : Oper} {fr : List AV} {d : Option Tmp} {x : AV} (h : ∀ t, d = some t → (looks ops o).contains t = false) : Like ops o (put fr d x) fr := by
  intro t ht
  cases d with
  | none => rfl
  | some d =>
    have hne : d ≠ t := by
      rintro rfl
      have := h d rfl
      rw [List.contains_iff_mem.mpr ht] at this
      cases this
    simp [put, List.getD_eq_getElem?_getD, List.getElem?_set_ne hne]
theorem apart_inv {p q : Oper} (h : apart ops p q = true) : (∀ t, p.dst = some t → (looks ops q).contains t = false) ∧ (∀ t, q.dst = some t → (looks ops p).contains t = false) ∧ (∀ t, p.dst = some t → q.dst ≠ some t) := by
  unfold apart at h
  simp only [Bool.and_eq_true] at h
  obtain ⟨h1, h2⟩ := h
  refine ⟨fun t ht => ?_, fun t ht => ?_, fun t ht => ?_⟩
  · rw [ht] at h1; simp only [Bool.and_eq_true, Bool.not_eq_true'] at h1; exact h1.1
  · rw [ht] at h2; simpa using h2
  · rw [ht] at h1; simp only [Bool.and_eq_true, bne_iff_ne, ne_eq] at h1; exact h1.2
theorem put_put {fr : List AV} {p q : Option Tmp} {x y : AV} (h : ∀ t, p = some t → q ≠ some t) : put (put fr p x) q y = put (put fr q y) p x := by
  cases p with
  | none => rfl
  | some a =>
    cases q with
    | none => rfl
    | some b =>
      have hne : a ≠ b := fun e => h a rfl (by rw [e])
      exact List.set_comm _ _ hne
theorem upX_no {c : Cls} (h : c ≠ .call) (S S' : Obs) : upX c S S' = c := by
  cases c <;> first | rfl | exact absurd rfl h
theorem upX_call (S S' : Obs) : upX .call S S' = .news S.length ∨ upX .call S S' = .all := by
  by_cases hJ : ∃ J, S' = S ++ J
  · exact .inl (by simp only [upX, if_pos hJ])
  · exact .inr (by simp only [upX, if_neg hJ])
theorem commute (hpu : PureF cf kp) {p q : Oper} {s s1 s2 : St} (hp : evG P cf rw' ops p s = some s1) (hq : evG P cf rw' ops q s1 = some s2) (hc : compat (clsX kp (rwO rw' ops p) ops p s s1) (clsX kp (rwO rw' ops q) ops q s1 s2) = true) (ha : apart ops p q = true) :
    ∃ s3, evG P cf rw' ops q s = some s3 ∧ evG P cf rw' ops p s3 = some s2 ∧ clsX kp (rwO rw' ops q) ops q s s3 = clsX kp (rwO rw' ops q) ops q s1 s2 ∧ clsX kp (rwO rw' ops p) ops p s3 s2 = clsX kp (rwO rw' ops p) ops p s s1 := by
  unfold clsX at hc ⊢
  obtain ⟨fr, S, T⟩ := s
  obtain ⟨a1, a2, a3⟩ := apart_inv ha
  obtain ⟨⟨xp, Sp, Tp⟩, hp', rfl⟩ := Option.map_eq_some_iff.1 hp
  obtain ⟨⟨xq, Sq, Tq⟩, hq', rfl⟩ := Option.map_eq_some_iff.1 hq
  simp only at hp' hq' hc ⊢
  have Lq : Like ops q (put fr p.dst xp) fr := like_put a1
  have Lp : Like ops p (put fr q.dst xq) fr := like_put a2
  rw [exO_like Lq] at hq'
  rw [cls_like Lq] at hc ⊢
  have sp := exO_says hpu hp'
  have sq := exO_says hpu hq'
  suffices h : ∃ S3 T3, exO P cf (rwO rw' ops q) ops q ⟨fr, S, T⟩ = some (xq, S3, T3) ∧ cls kp (rwO rw' ops q) ops q ⟨fr, S, T⟩ = cls kp (rwO rw' ops q) ops q ⟨fr, Sp, Tp⟩ ∧ exO P cf (rwO rw' ops p) ops p ⟨fr, S3, T3⟩ = some (xp, Sq, Tq) ∧ cls kp (rwO rw' ops p) ops p ⟨fr, S3, T3⟩ = cls kp (rwO rw' ops p) ops p ⟨fr, S, T⟩ ∧
      (cls kp (rwO rw' ops q) ops q ⟨fr, Sp, Tp⟩ = .call → Sp = S ∧ S3 = Sq) ∧ (cls kp (rwO rw' ops p) ops p ⟨fr, S, T⟩ = .call → S3 = S ∧ Sq = Sp) by
    obtain ⟨S3, T3, h1, h2, h3, h4, h5, h6⟩ := h
    refine ⟨⟨put fr q.dst xq, S3, T3⟩, ?_, ?_, ?_, ?_⟩
    · unfold evG; rw [h1]; rfl
    · unfold evG; rw [exO_like Lp, h3, put_put a3]; rfl
    · show upX _ S S3 = upX _ Sp Sq
      rw [h2]
      by_cases hcall : cls kp (rwO rw' ops q) ops q ⟨fr, Sp, Tp⟩ = .call
      · obtain ⟨e1, e2⟩ := h5 hcall
        rw [e1, e2]
      · rw [upX_no hcall, upX_no hcall]
    · show upX _ S3 Sq = upX _ S Sp
      rw [cls_like Lp, h4]
      by_cases hcall : cls kp (rwO rw' ops p) ops p ⟨fr, S, T⟩ = .call
      · obtain ⟨e1, e2⟩ := h6 hcall
        rw [e1, e2]
      · rw [upX_no hcall, upX_no hcall]
  generalize hcp : cls kp (rwO rw' ops p) ops p ⟨fr, S, T⟩ = cp at sp hc ⊢
  generalize hcq : cls kp (rwO rw' ops q) ops q ⟨fr, Sp, Tp⟩ = cq at sq hc ⊢
  have app1 : ∀ (l : Obs) (o : Ob) (id : Nat), id < l.length → (l ++ [o])[id]? = l[id]? := fun l o id h => List.getElem?_append_left h
  have nocall : ∀ {c : Cls}, c ≠ .call → (c = .call → Sp = S ∧ Sq = Sq) := fun h e => absurd e h
  -- a call that makes objects alone
  have news : ∀ {S S' : Obs} {c : Cls}, (compat (upX .call S S') c = true ∨ compat c (upX .call S S') = true) → c = .quiet ∨ c = .chain ∨ ((∃ id, c = .reads id ∧ id < S.length) ∧ ∃ J, S' = S ++ J) := by
    intro S S' c h
    unfold upX at h
    by_cases hJ : ∃ J, S' = S ++ J
    · simp only [if_pos hJ] at h
      cases c with
      | quiet => exact .inl rfl
      | chain => exact .inr (.inl rfl)
      | reads id => exact .inr (.inr ⟨⟨id, rfl, by simpa [compat] using h⟩, hJ⟩)
      | _ => simp [compat] at h
    · simp only [if_neg hJ] at h
      cases c with
      | quiet => exact .inl rfl
      | _ => simp [compat] at h
  cases cp with
  | quiet =>
    obtain ⟨rfl, rfl, hP⟩ := sp
    exact ⟨Sq, Tq, hq', hcq, (hP Sq Tq).1, (hP Sq Tq).2, fun _ => ⟨rfl, rfl⟩, nofun⟩
  | reads id =>
    obtain ⟨rfl, rfl, hP⟩ := sp
    rw [upX_no (c := .reads id) (by simp)] at hc
    cases cq with
    | quiet => obtain ⟨rfl, rfl, hQ⟩ := sq; exact ⟨_, _, (hQ _ _).1, (hQ _ _).2, hp', hcp, nofun, nofun⟩
    | reads id' => obtain ⟨rfl, rfl, hQ⟩ := sq; exact ⟨_, _, (hQ _ _ rfl).1, (hQ _ _ rfl).2, hp', hcp, nofun, nofun⟩
    | makes n =>
      obtain ⟨rfl, rfl, ob, rfl, rfl, hQ⟩ := sq
      have hid : id < Sp.length := by simpa [compat, upX] using hc
      exact ⟨_, _, hq', hcq, (hP _ _ (app1 _ _ _ hid)).1, (hP _ _ (app1 _ _ _ hid)).2, nofun, nofun⟩
    | chain => obtain ⟨rfl, hQ⟩ := sq; exact ⟨_, _, hq', hcq, (hP _ _ rfl).1, (hP _ _ rfl).2, nofun, nofun⟩
    | writes id' =>
      obtain ⟨rfl, hlt, ob, rfl, hQ⟩ := sq
      have hid : id ≠ id' := by simpa [compat, upX] using hc
      have hg : (Sp.set id' ob)[id]? = Sp[id]? := List.getElem?_set_ne (Ne.symm hid)
      exact ⟨_, _, hq', hcq, (hP _ _ hg).1, (hP _ _ hg).2, nofun, nofun⟩
    | call =>
      obtain ⟨rfl, hQ⟩ := sq
      rcases news (.inr hc) with h | h | ⟨⟨id', h, hlt⟩, J, rfl⟩
      · cases h
      · cases h
      · cases h
        have hg : (Sp ++ J)[id]? = Sp[id]? := List.getElem?_append_left hlt
        exact ⟨_, _, hq', hcq, (hP _ _ hg).1, (hP _ _ hg).2, fun _ => ⟨rfl, rfl⟩, nofun⟩
    | news n => exact sq.elim
    | all => simp [compat, upX] at hc
  | makes n =>
    obtain ⟨rfl, rfl, ob, rfl, rfl, hP⟩ := sp
    rw [upX_no (c := .makes S.length) (by simp)] at hc
    cases cq with
    | quiet => obtain ⟨rfl, rfl, hQ⟩ := sq; exact ⟨_, _, (hQ _ _).1, (hQ _ _).2, hp', hcp, nofun, nofun⟩
    | reads id =>
      obtain ⟨rfl, rfl, hQ⟩ := sq
      have hid : id < S.length := by simpa [compat, upX] using hc
      exact ⟨S, _, (hQ S _ (app1 _ _ _ hid).symm).1, (hQ S _ (app1 _ _ _ hid).symm).2, hp', hcp, nofun, nofun⟩
    | makes n' => simp [compat, upX] at hc
    | chain => obtain ⟨rfl, hQ⟩ := sq; exact ⟨S, Tq, (hQ S).1, (hQ S).2, (hP S Tq).1, (hP S Tq).2, nofun, nofun⟩
    | writes id =>
      obtain ⟨rfl, hlt, ob', rfl, hQ⟩ := sq
      have hid : id < S.length := by simpa [compat, upX] using hc
      have hg := (app1 S ob id hid).symm
      refine ⟨_, _, (hQ S _ hg).1, (hQ S _ hg).2, ?_, ?_, nofun, nofun⟩
      · rw [(hP _ _).1, List.length_set, List.set_append_left _ _ hid]
      · rw [(hP _ _).2, List.length_set]
    | call =>
      rcases news (.inr hc) with h | h | ⟨⟨id', h, hlt⟩, J, rfl⟩ <;> cases h
    | news n => exact sq.elim
    | all => simp [compat, upX] at hc
  | chain =>
    obtain ⟨rfl, hP⟩ := sp
    rw [upX_no (c := .chain) (by simp)] at hc
    cases cq with
    | quiet => obtain ⟨rfl, rfl, hQ⟩ := sq; exact ⟨_, _, (hQ _ _).1, (hQ _ _).2, hp', hcp, nofun, nofun⟩
    | reads id => obtain ⟨rfl, rfl, hQ⟩ := sq; exact ⟨_, _, (hQ _ _ rfl).1, (hQ _ _ rfl).2, hp', hcp, nofun, nofun⟩
    | makes n =>
      obtain ⟨rfl, rfl, ob, rfl, rfl, hQ⟩ := sq
      exact ⟨_, T, (hQ _ T).1, (hQ _ T).2, (hP _).1, (hP _).2, nofun, nofun⟩
    | chain => simp [compat, upX] at hc
    | writes id =>
      obtain ⟨rfl, hlt, ob, rfl, hQ⟩ := sq
      exact ⟨_, T, (hQ _ T rfl).1, (hQ _ T rfl).2, (hP _).1, (hP _).2, nofun, nofun⟩
    | call =>
      obtain ⟨rfl, hQ⟩ := sq
      exact ⟨_, T, (hQ T).1, (hQ T).2 _, (hP _).1, (hP _).2, fun _ => ⟨rfl, rfl⟩, nofun⟩
    | news n => exact sq.elim
    | all => simp [compat, upX] at hc
  | writes id =>
    obtain ⟨rfl, hlt, ob, rfl, hP⟩ := sp
    rw [upX_no (c := .writes id) (by simp)] at hc
    cases cq with
    | quiet => obtain ⟨rfl, rfl, hQ⟩ := sq; exact ⟨_, _, (hQ _ _).1, (hQ _ _).2, hp', hcp, nofun, nofun⟩
    | reads id' =>
      obtain ⟨rfl, rfl, hQ⟩ := sq
      have hid : id ≠ id' := by simpa [compat, upX] using hc
      have hg : S[id']? = (S.set id ob)[id']? := (List.getElem?_set_ne hid).symm
      exact ⟨S, _, (hQ S _ hg).1, (hQ S _ hg).2, hp', hcp, nofun, nofun⟩
    | makes n =>
      obtain ⟨rfl, rfl, ob', rfl, rfl, hQ⟩ := sq
      refine ⟨S ++ [ob'], Tq, ?_, ?_, ?_, (hP _ _ (app1 S ob' id hlt)).2, nofun, nofun⟩
      · rw [(hQ S _).1, List.length_set]
      · rw [(hQ S _).2, List.length_set]
      · rw [(hP _ _ (app1 S ob' id hlt)).1, List.set_append_left _ _ hlt]
    | chain => obtain ⟨rfl, hQ⟩ := sq; exact ⟨S, Tq, (hQ S).1, (hQ S).2, (hP S Tq rfl).1, (hP S Tq rfl).2, nofun, nofun⟩
    | writes id' => simp [compat, upX] at hc
    | call =>
      rcases news (.inr hc) with h | h | ⟨⟨id', h, hlt⟩, J, rfl⟩ <;> cases h
    | news n => exact sq.elim
    | all => simp [compat, upX] at hc
  | call =>
    obtain ⟨rfl, hP⟩ := sp
    by_cases hq0 : cq = .call
    · subst hq0
      exfalso
      rcases news (.inr hc) with h | h | ⟨⟨id', h, _⟩, _⟩ <;> (rcases upX_call S Sp with h2 | h2 <;> rw [h2] at h <;> cases h)
    rw [upX_no hq0] at hc
    rcases news (.inl hc) with rfl | rfl | ⟨⟨id, rfl, hlt⟩, J, rfl⟩
    · obtain ⟨rfl, rfl, hQ⟩ := sq
      exact ⟨_, _, (hQ _ _).1, (hQ _ _).2, hp', hcp, nofun, fun _ => ⟨rfl, rfl⟩⟩
    · obtain ⟨rfl, hQ⟩ := sq
      exact ⟨_, _, (hQ _).1, (hQ _).2, (hP _).1, (hP _).2 _, nofun, fun _ => ⟨rfl, rfl⟩⟩
    · obtain ⟨rfl, rfl, hQ⟩ := sq
      have hg : S[id]? = (S ++ J)[id]? := (List.getElem?_append_left hlt).symm
      exact ⟨S, _, (hQ S _ hg).1, (hQ S _ hg).2, hp', hcp, nofun, fun _ => ⟨rfl, rfl⟩⟩
  | news n => exact sp.elim
  | all =>
    rw [upX_no (c := .all) (by simp)] at hc
    cases cq with
    | quiet => obtain ⟨rfl, rfl, hQ⟩ := sq; exact ⟨_, _, (hQ _ _).1, (hQ _ _).2, hp', hcp, nofun, nofun⟩
    | call => rcases news (.inr hc) with h | h | ⟨⟨id', h, hlt⟩, J, rfl⟩ <;> cases h
    | _ => simp [compat, upX] at hc
/-- An operation that waits for none of those ahead of it may come first. -/
theorem evD_front (hpu : PureF cf kp) {deps : List (List Nat)} : ∀ (pre : List Nat) {i : Nat} {post : List Nat} {s sf : St} {log : List (Nat × Cls)}, evD P cf kp rw' ops deps (pre ++ i :: post) s = some (sf, log) → (∀ p ∈ pre, (deps.getD i []).contains p = false) →
    ∃ o si log', ops[i]? = some o ∧ evG P cf rw' ops o s = some si ∧ evD P cf kp rw' ops deps (pre ++ post) si = some (sf, log') ∧ (∀ q ∈ log', q ∈ log) ∧ (i, clsX kp (rwO rw' ops o) ops o s si) ∈ log
  | [], i, post, s, sf, log, h, _ => by
    simp only [List.nil_append, evD] at h ⊢
    split at h
    · cases h
    rename_i o ho
    split at h
    · cases h
    rename_i si hsi
    split at h
    · cases h
    rename_i sf' log' hlog
    split at h
    case isFalse => cases h
    simp only [Option.some.injEq, Prod.mk.injEq] at h
    obtain ⟨rfl, rfl⟩ := h
    exact ⟨o, si, log', ho, hsi, hlog, fun q hq => List.mem_cons_of_mem _ hq, List.mem_cons_self⟩
  | p :: pre, i, post, s, sf, log, h, hd => by
    simp only [List.cons_append, evD] at h ⊢
    split at h
    · cases h
    rename_i op hop
    split at h
    · cases h
    rename_i s1 hs1
    split at h
    · cases h
    rename_i sf' log1 hlog
    split at h
    case isFalse => cases h
    rename_i hchk
    simp only [Option.some.injEq, Prod.mk.injEq] at h
    obtain ⟨rfl, rfl⟩ := h
    obtain ⟨o, si1, log1', h1, h2, h3, h4, h5⟩ := evD_front hpu pre hlog (fun q hq => hd q (List.mem_cons_of_mem _ hq))
    have hchk' := List.all_eq_true.mp hchk
    have hi := hchk' _ h5
    simp only [hd p List.mem_cons_self, Bool.false_or, Bool.and_eq_true] at hi
    have hgo : ops.getD i default = o := by
      rw [Array.getD_eq_getD_getElem?, h1]; rfl
    rw [hgo] at hi
    obtain ⟨s3, c1, c2, c3, c4⟩ := commute hpu hs1 h2 hi.1 hi.2
    refine ⟨o, s3, (p, clsX kp (rwO rw' ops op) ops op s s1) :: log1', h1, c1, ?_, ?_, ?_⟩
    · simp only [c2, h3, c4]
      rw [if_pos (List.all_eq_true.mpr fun q hq => hchk' q (h4 q hq))]
    · intro q hq
      rcases List.mem_cons.1 hq with rfl | hq
      · exact List.mem_cons_self
      · exact List.mem_cons_of_mem _ (h4 q hq)
    · rw [c3]; exact List.mem_cons_of_mem _ h5
/-! ### What an operation waits for -/
def direct (o : Oper) : List Nat := o.after.toList.filterMap fun e => if Region.binds .any e then some e.on else none
theorem mem_nubM {x : Nat} : ∀ (m : Nat) (l : List Nat), x ∈ nubM m l → x ∈ l
  | _, [], h => h
  | m, a :: l, h => by
    unfold nubM at h
    split at h
    · exact List.mem_cons_of_mem _ (mem_nubM m l h)
    · rcases List.mem_cons.1 h with rfl | h
      · exact List.mem_cons_self
      · exact List.mem_cons_of_mem _ (mem_nubM _ l h)
theorem depsOf_pre : ∀ (os : List Oper) (k : Nat) (acc : List (List Nat)), acc <+: depsOf ops k acc os
  | [], k, acc => List.prefix_rfl
  | o :: os, k, acc => by
    simp only [depsOf]
    exact List.IsPrefix.trans (List.prefix_append _ _) (depsOf_pre os (k + 1) _)
theorem getD_prefix {l m : List (List Nat)} (h : l <+: m) {j x : Nat} (hx : x ∈ l.getD j []) : x ∈ m.getD j [] := by
  obtain ⟨t, rfl⟩ := h
  by_cases hj : j < l.length
  · simpa [List.getD_eq_getElem?_getD, List.getElem?_append_left hj] using hx
  · simp [List.getD_eq_getElem?_getD, List.getElem?_eq_none (Nat.le_of_not_lt hj)] at hx
theorem depsOf_spec : ∀ (os : List Oper) (k : Nat) (acc : List (List Nat)), acc.length = k → ∀ i o, os[i]? = some o → ∀ x ∈ (depsOf ops k acc os).getD (k + i) [], x ∈ direct o ∨ ∃ d ∈ direct o, x ∈ (depsOf ops k acc os).getD d []
  | [], k, acc, hk, i, o, ho, x, hx => by simp at ho
  | o' :: os, k, acc, hk, i, o, ho, x, hx => by
    simp only [depsOf] at hx ⊢
    cases i with
    | zero =>
      simp only [List.getElem?_cons_zero, Option.some.injEq] at ho
      subst ho
      have hp := depsOf_pre (ops := ops) os (k + 1) (acc ++ [nubM 0 ((direct o').flatMap fun j => j :: acc.getD j [])])
      have hx' : x ∈ nubM 0 ((direct o').flatMap fun j => j :: acc.getD j []) := by
        obtain ⟨t, ht⟩ := hp
        have e : (depsOf ops (k + 1) (acc ++ [nubM 0 ((direct o').flatMap fun j => j :: acc.getD j [])]) os).getD (k + 0) [] = nubM 0 ((direct o').flatMap fun j => j :: acc.getD j []) := by
          rw [← ht, Nat.add_zero, List.getD_eq_getElem?_getD, List.getElem?_append_left (by simp [hk]), List.getElem?_append_right (by omega)]
          simp [hk]
        rw [← e]; exact hx
      obtain ⟨j, hj, hxj⟩ := List.mem_flatMap.1 (mem_nubM _ _ hx')
      rcases List.mem_cons.1 hxj with rfl | hxj
      · exact .inl hj
      · exact .inr ⟨j, hj, getD_prefix (List.IsPrefix.trans (List.prefix_append _ _) hp) hxj⟩
    | succ i =>
      have := depsOf_spec os (k + 1) (acc ++ [nubM 0 ((direct o').flatMap fun j => j :: acc.getD j [])]) (by simp [hk]) i o (by simpa using ho) x
      rw [show k + 1 + i = k + (i + 1) from by omega] at this
      exact this hx
theorem deps_spec {i : Nat} {o : Oper} (ho : ops[i]? = some o) {x : Nat} (hx : x ∈ (depsOf ops 0 [] ops.toList).getD i []) : x ∈ direct o ∨ ∃ d ∈ direct o, x ∈ (depsOf ops 0 [] ops.toList).getD d [] := by
  have := depsOf_spec (ops := ops) ops.toList 0 [] rfl i o (by simpa using ho) x
  rw [Nat.zero_add] at this
  exact this hx
/-! ### The region -/
/-- What is still to come. -/
def rem (n : Nat) (l : Array Bool) : List Nat := (List.range n).filter fun i => !l.getD i true
theorem rem_split {n : Nat} {l : Array Bool} {i : Nat} (hi : i < n) (hs : l.size = n) (h : l.getD i true = false) : ∃ pre post, rem n l = pre ++ i :: post ∧ rem n (l.setIfInBounds i true) = pre ++ post ∧ ∀ p ∈ pre, l.getD p true = false := by
  have hr : List.range n = List.range' 0 i ++ (i :: List.range' (i + 1) (n - i - 1)) := by
    have h1 : List.range' i (n - i) = i :: List.range' (i + 1) (n - i - 1) := by
      obtain ⟨m, hm⟩ : ∃ m, n - i = m + 1 := ⟨n - i - 1, by omega⟩
      rw [hm, List.range'_succ]; rfl
    have h2 := List.range'_append_1 (s := 0) (m := i) (n := n - i)
    rw [Nat.zero_add, h1] at h2
    rw [List.range_eq_range', h2]
    congr 1; omega
  have hset : ∀ p, p ≠ i → (l.setIfInBounds i true).getD p true = l.getD p true := fun p hp => by
    simp [Array.getD_eq_getD_getElem?, Array.getElem?_setIfInBounds_ne (Ne.symm hp)]
  have hseti : (l.setIfInBounds i true).getD i true = true := by
    simp [Array.getD_eq_getD_getElem?, hs, hi]
  refine ⟨(List.range' 0 i).filter fun p => !l.getD p true, (List.range' (i + 1) (n - i - 1)).filter fun p => !l.getD p true, ?_, ?_, ?_⟩
  · unfold rem
    rw [hr, List.filter_append, List.filter_cons]
    simp [h]
  · unfold rem
    rw [hr, List.filter_append, List.filter_cons]
    simp only [hseti, Bool.not_true, Bool.false_eq_true, if_false]
    congr 1
    · exact List.filter_congr fun p hp => by
        have : p ≠ i := by have := (List.mem_range'_1.1 hp); omega
        rw [hset p this]
    · exact List.filter_congr fun p hp => by
        have : p ≠ i := by have := (List.mem_range'_1.1 hp); omega
        rw [hset p this]
  · intro p hp
    have := (List.mem_filter.1 hp).2
    simpa using this
variable {w0 : World} {Z0 : Zs} {M0 : Nat → Prop} {Z : Zs} {β : List Bk} {γ : List Value} {w : World}
theorem fwd_ok (h : fwd ops = true) : Own.forwardB .any ops = true := h
theorem EN.drew {S : Obs} {T : Toks} (E : EN P w0 Z0 M0 Z β γ S T w) : EN P w0 Z0 M0 Z β γ S T w.drew ∧ VX Z Z β β γ γ T T w w.drew :=
  E.grow (grow_drew w) (fun _ _ h => h) (fun _ _ h => .inl h) (fun b o h => E.zs b o h)
theorem evR_sound (hcf : OKF P cf) (hpu : PureF cf kp) {id : Nat} {draw : Bool} {s s' : St} {a : Act} {Q : Exit → Act → World → Prop} (E : EN P w0 Z0 M0 Z β γ s.S s.T w) (F : FR P Z β γ s.T w s.fr a) (h : evR P cf kp rw' ops draw s = some s')
    (hQ : ∀ a' w', After P w0 Z0 M0 Z β γ s.T w s' a' w' → Q .normal a' w') : (Code.region id ops draw).wp P Q a w := by
  unfold evR at h
  cases draw with
  | false =>
    simp only [Bool.false_eq_true, if_false] at h
    exact wp_region_list (evOps_sound hcf ops.toList E F h hQ)
  | true =>
    simp only [if_true] at h
    split at h
    case h_2 => cases h
    rename_i r hr
    split at h
    case isFalse => cases h
    rename_i hm
    simp only [Bool.and_eq_true] at hm
    simp only [Option.some.injEq] at h
    subst h
    obtain ⟨sf, log⟩ := r
    have hdeps := fun i o (ho : ops[i]? = some o) x hx => deps_spec (ops := ops) (i := i) ho (x := x) hx
    generalize hD : depsOf ops 0 [] ops.toList = deps at hr hdeps
    obtain ⟨E1, X1⟩ := E.drew
    have hrem0 : rem ops.size (Array.replicate ops.size false) = List.range ops.size := by
      unfold rem
      rw [List.filter_eq_self]
      intro i hi
      have : i < ops.size := by simpa using hi
      simp [Array.getD, this]
    refine Own.region_inv hm.1 (fun l a' wx => l.size = ops.size ∧ (∀ i x, l.getD i false = true → x ∈ deps.getD i [] → l.getD x false = true) ∧
      ∃ s1 Z1 β1 γ1 log, EN P w0 Z0 M0 Z1 β1 γ1 s1.S s1.T wx ∧ FR P Z1 β1 γ1 s1.T wx s1.fr a' ∧ VX Z Z1 β β1 γ γ1 s.T s1.T w.drew wx ∧ evD P cf kp rw' ops deps (rem ops.size l) s1 = some (sf, log)) ?_ ?_ ?_
    · refine ⟨by simp, ?_, s, Z, β, γ, log, E1, F.ext X1, .refl _ _ _ _ _, by rw [hrem0]; exact hr⟩
      intro i x hi
      have : (Array.replicate ops.size false).getD i false = false := by
        by_cases hi' : i < ops.size <;> simp [Array.getD, hi']
      rw [this] at hi; cases hi
    · rintro l a1 w1 i _ ⟨hl, hcl, s1, Z1, β1, γ1, log1, E2, F2, X2, hev⟩ hi
      obtain ⟨hi1, o, ho, hi2⟩ := Own.ready_of hi
      have hin : i < ops.size := (Array.getElem?_eq_some_iff.1 ho).1
      obtain ⟨pre, post, hs1, hs2, hs3⟩ := rem_split hin hl hi1
      have hdir : ∀ d ∈ direct o, l.getD d false = true := by
        intro d hd
        unfold direct at hd
        obtain ⟨e, he, hee⟩ := List.mem_filterMap.1 hd
        split at hee
        · rename_i hb
          simp only [Option.some.injEq] at hee
          subst hee
          exact hi2 e (by simpa using he) hb
        · cases hee
      have hdi : ∀ x ∈ deps.getD i [], l.getD x false = true := by
        intro x hx
        rcases hdeps i o ho x hx with h | ⟨d, hd, hx'⟩
        · exact hdir x h
        · exact hcl d x (hdir d hd) hx'
      rw [hs1] at hev
      have hltt : ∀ p, l.getD p true = false → l.getD p false = false := by
        intro p hp
        rw [Array.getD_eq_getD_getElem?] at hp ⊢
        cases hq : l[p]? with
        | none => rfl
        | some b => rw [hq] at hp; exact hp
      obtain ⟨o', si, log', h1, h2, h3, _, _⟩ := evD_front hpu pre hev (fun p hp => by
        cases hq : (deps.getD i []).contains p with
        | false => rfl
        | true =>
          have h1 := hdi p (List.contains_iff_mem.mp hq)
          have h2 := hltt p (hs3 p hp)
          rw [h1] at h2; cases h2)
      rw [ho] at h1
      obtain rfl := Option.some.inj h1
      have hset : ∀ p, p ≠ i → (l.setIfInBounds i true).getD p false = l.getD p false := fun p hp => by
        simp [Array.getD_eq_getD_getElem?, Array.getElem?_setIfInBounds_ne (Ne.symm hp)]
      have hseti : (l.setIfInBounds i true).getD i false = true := by
        simp [Array.getD_eq_getD_getElem?, hl, hin]
      unfold wpOp
      simp only [ho]
      have := evG_sound (Q := Q) hcf E2 F2 h2 (fun a' w' => (l.setIfInBounds i true).size = ops.size ∧ (∀ j x, (l.setIfInBounds i true).getD j false = true → x ∈ deps.getD j [] → (l.setIfInBounds i true).getD x false = true) ∧
        ∃ s1 Z1 β1 γ1 log, EN P w0 Z0 M0 Z1 β1 γ1 s1.S s1.T w' ∧ FR P Z1 β1 γ1 s1.T w' s1.fr a' ∧ VX Z Z1 β β1 γ γ1 s.T s1.T w.drew w' ∧ evD P cf kp rw' ops deps (rem ops.size (l.setIfInBounds i true)) s1 = some (sf, log)) (fun a' w' hA => by
          obtain ⟨Z3, β3, γ3, E3, F3, X3⟩ := hA
          refine ⟨by simpa using hl, fun j x hj hx => ?_, si, Z3, β3, γ3, log', E3, F3, X2.trans X3, by rw [hs2]; exact h3⟩
          by_cases hxi : x = i
          · subst hxi; exact hseti
          · rw [hset x hxi]
            by_cases hji : j = i
            · subst hji; exact hdi x hx
            · rw [hset j hji] at hj; exact hcl j x hj hx)
      split
      · rename_i hw
        rw [if_pos hw] at this
        exact .inl this
      · rename_i hw
        rw [if_neg hw] at this
        exact this
    · rintro l a1 w1 _ hnone ⟨hl, hcl, s1, Z1, β1, γ1, log1, E2, F2, X2, hev⟩
      have hall := Own.all_listed (fwd_ok hm.2) hl hnone
      have hrem : rem ops.size l = [] := by
        unfold rem
        rw [List.filter_eq_nil_iff]
        intro i hi
        have hi' : i < ops.size := by simpa using hi
        have h1 := hall i hi'
        have h2 : l.getD i true = true := by
          rw [Array.getD_eq_getD_getElem?] at h1 ⊢
          cases hq : l[i]? with
          | none => rfl
          | some b => rw [hq] at h1; exact h1
        simp [h2]
      rw [hrem] at hev
      simp only [evD, Option.some.injEq, Prod.mk.injEq] at hev
      obtain ⟨rfl, _⟩ := hev
      exact hQ _ _ ⟨Z1, β1, γ1, E2, F2, X1.trans X2⟩
end
end Go.Proofs.Ytplpmelpoajpdaa.Ev
namespace Go.Proofs.Ytplpmelpoajpdaa.Ev
open Go
set_option linter.unusedSectionVars false
set_option linter.unusedVariables false
set_option linter.unusedSimpArgs false
def Ex.to : Ex → Exit
  | .normal => .normal
  | .exit id => .exit id
  | .ret => .ret
section
variable [TVm] {P : Program} {cf : CallF} {kp : FuncId → Bool} {rw' : Bool} {w0 : World} {Z0 : Zs} {M0 : Nat → Prop} {Z : Zs} {β : List Bk} {γ : List Value} {w : World}
abbrev Pst (P : Program) (w0 : World) (Z0 : Zs) (M0 : Nat → Prop) (Z : Zs) (β : List Bk) (γ : List Value) (T : Toks) (w : World) (x : Ex) (s' : St) : Exit → Act → World → Prop :=
  fun e a' w' => e = x.to ∧ After P w0 Z0 M0 Z β γ T w s' a' w'
theorem noGoto_of {x : Ex} {Q : Act → World → Prop} {e : Exit} {a : Act} {w : World} (h : e = x.to ∧ Q a w) : Exit.noGoto (fun e a w => e = x.to ∧ Q a w) e a w := by
  obtain ⟨rfl, h⟩ := h
  cases x <;> exact ⟨rfl, h⟩
theorem evC_sound (hcf : OKF P cf) (hpu : PureF cf kp) (k : Nat) : ∀ (c : Code) {s s' : St} {x : Ex} {a : Act} {Z : Zs} {β : List Bk} {γ : List Value} {w : World}, EN P w0 Z0 M0 Z β γ s.S s.T w → FR P Z β γ s.T w s.fr a → evC P cf kp rw' k c s = some (x, s') →
    c.wp P (Pst P w0 Z0 M0 Z β γ s.T w x s') a w := by
  intro c
  induction c with
  | skip =>
    intro s s' x a Z β γ w E F h
    simp only [evC, Option.some.injEq, Prod.mk.injEq] at h
    obtain ⟨rfl, rfl⟩ := h
    exact wp_skip ⟨rfl, Z, β, γ, E, F, .refl _ _ _ _ _⟩
  | label l =>
    intro s s' x a Z β γ w E F h
    simp only [evC, Option.some.injEq, Prod.mk.injEq] at h
    obtain ⟨rfl, rfl⟩ := h
    exact wp_label ⟨rfl, Z, β, γ, E, F, .refl _ _ _ _ _⟩
  | region id ops draw =>
    intro s s' x a Z β γ w E F h
    simp only [evC] at h
    obtain ⟨s1, h1, h⟩ := Option.map_eq_some_iff.1 h
    simp only [Prod.mk.injEq] at h
    obtain ⟨rfl, rfl⟩ := h
    exact evR_sound hcf hpu E F h1 fun a' w' hA => ⟨rfl, hA⟩
  | seq p q ihp ihq =>
    intro s s' x a Z β γ w E F h
    simp only [evC] at h
    split at h
    · rename_i s1 h1
      refine wp_seq (wp_mono (ihp E F h1) ?_)
      rintro e a1 w1 ⟨rfl, Z1, β1, γ1, E1, F1, X1⟩
      refine wp_mono (ihq E1 F1 h) ?_
      rintro e2 a2 w2 ⟨he, hA⟩
      exact ⟨he, hA.trans X1⟩
    · rename_i hne
      refine wp_seq (wp_mono (ihp E F h) ?_)
      rintro e a1 w1 ⟨rfl, hA⟩
      cases x with
      | normal => exact absurd h (hne s')
      | exit id => exact ⟨rfl, hA⟩
      | ret => exact ⟨rfl, hA⟩
  | cond c p q ihp ihq =>
    intro s s' x a Z β γ w E F h
    simp only [evC] at h
    have hc := opd_r F c
    split at h
    · rename_i b hb
      rw [hb] at hc
      cases b with
      | true => exact wp_cond_true hc.v_inv.1 (ihp E F (by simpa using h))
      | false => exact wp_cond_false hc.v_inv.1 (ihq E F (by simpa using h))
    · cases h
  | block id c ih =>
    intro s s' x a Z β γ w E F h
    simp only [evC] at h
    split at h
    · rename_i i s1 h1
      refine wp_block (wp_mono (ih E F h1) ?_)
      rintro e a1 w1 ⟨rfl, hA⟩
      by_cases hi : i = id
      · rw [if_pos hi] at h
        simp only [Option.some.injEq, Prod.mk.injEq] at h
        obtain ⟨rfl, rfl⟩ := h
        simp only [Ex.to, Exit.inBlock, if_pos hi]
        exact ⟨rfl, hA⟩
      · rw [if_neg hi] at h
        simp only [Option.some.injEq, Prod.mk.injEq] at h
        obtain ⟨rfl, rfl⟩ := h
        simp only [Ex.to, Exit.inBlock, if_neg hi]
        exact ⟨rfl, hA⟩
    · rename_i hne
      refine wp_block (wp_mono (ih E F h) ?_)
      rintro e a1 w1 ⟨rfl, hA⟩
      cases x with
      | normal => exact ⟨rfl, hA⟩
      | exit i => exact absurd h (hne i s')
      | ret => exact ⟨rfl, hA⟩
  | loop c ih =>
    intro s s' x a Z β γ w E F h
    simp only [evC] at h
    have key : ∀ (n : Nat) {s : St} {a : Act} {Z : Zs} {β : List Bk} {γ : List Value} {w : World}, EN P w0 Z0 M0 Z β γ s.S s.T w → FR P Z β γ s.T w s.fr a → iter (evC P cf kp rw' k c) n s = some (x, s') →
        Code.rounds P c (Pst P w0 Z0 M0 Z β γ s.T w x s') n a w := by
      intro n
      induction n with
      | zero => intro s a Z β γ w E F h; cases h
      | succ n ihn =>
        intro s a Z β γ w E F h
        simp only [iter] at h
        rw [rounds_succ]
        split at h
        · rename_i s1 h1
          refine wp_mono (ih E F h1) ?_
          rintro e a1 w1 ⟨rfl, Z1, β1, γ1, E1, F1, X1⟩
          have hr := ihn E1 F1 h
          have hmono : ∀ (n : Nat) {Q Q' : Exit → Act → World → Prop} (hq : ∀ e a w, Q e a w → Q' e a w) {a : Act} {w : World}, Code.rounds P c Q n a w → Code.rounds P c Q' n a w := by
            intro n
            induction n with
            | zero => intro Q Q' _ a w h; exact h
            | succ n ih2 =>
              intro Q Q' hq a w h
              rw [rounds_succ] at h ⊢
              refine wp_mono h fun e a w h' => ?_
              cases e <;> first | exact hq _ _ _ h' | exact ih2 hq h'
          exact hmono n (fun e a2 w2 hh => ⟨hh.1, hh.2.trans X1⟩) hr
        · rename_i hne
          refine wp_mono (ih E F h) ?_
          rintro e a1 w1 ⟨rfl, hA⟩
          cases x with
          | normal => exact absurd h (hne s')
          | exit id => exact ⟨rfl, hA⟩
          | ret => exact ⟨rfl, hA⟩
    exact wp_loop_rounds k (key k E F h)
  | scope c ih =>
    intro s s' x a Z β γ w E F h
    simp only [evC] at h
    exact wp_scope_straight (wp_mono (ih E F h) fun e a w h => noGoto_of h)
  | exit id =>
    intro s s' x a Z β γ w E F h
    simp only [evC, Option.some.injEq, Prod.mk.injEq] at h
    obtain ⟨rfl, rfl⟩ := h
    exact wp_exit ⟨rfl, Z, β, γ, E, F, .refl _ _ _ _ _⟩
  | ret =>
    intro s s' x a Z β γ w E F h
    simp only [evC, Option.some.injEq, Prod.mk.injEq] at h
    obtain ⟨rfl, rfl⟩ := h
    exact wp_ret ⟨rfl, Z, β, γ, E, F, .refl _ _ _ _ _⟩
  | _ => intro s s' x a Z β γ w E F h; simp [evC] at h
theorem fun_ok {f : FuncId} {fn : Func} (h : fun? P f = some fn) : P.funcs[f]? = some fn ∧ fn.name ≠ "runtime.NumGoroutine" := by
  unfold fun? at h
  split at h
  · rename_i fn' hf
    split at h
    · cases h
    · rename_i hne
      simp only [Option.some.injEq] at h
      subst h
      exact ⟨hf, hne⟩
  · cases h
end
section
attribute [local instance] offTV
variable {P : Program} {cf : CallF} {kp : FuncId → Bool} {rw' : Bool} {w0 : World} {Z0 : Zs} {M0 : Nat → Prop} {Z : Zs} {β : List Bk} {γ : List Value} {w : World}
theorem evFn_off (hcf : OKF P cf) (hpu : PureF cf kp) (k : Nat) {kf : Bool} {f : FuncId} {fn : Func} (hf : fun? P f = some fn) {args : List AV} {S S' : Obs} {r : AV} (h : evFn P cf kp rw' k kf fn args S = some (r, S')) : Fun P f ∧ FC P f args S r S' := by
  obtain ⟨hf1, hf2⟩ := fun_ok hf
  unfold evFn at h
  split at h
  · cases h
  rename_i c hc
  refine ⟨⟨fn, hf1, hf2, by rw [hc]; rfl⟩, ?_⟩
  split at h
  case h_2 => cases h
  rename_i x s1 hev
  split at h
  case isFalse => cases h
  rename_i hx
  have hfin : ∃ l, resL P s1 fn.results.toList = some l ∧ fin kf S (rt l) s1.S = (r, S') := by
    split at h
    · rename_i q hq
      have h : some (fin kf S q s1.S) = some (r, S') := h
      exact ⟨_, hq, by simpa [rt] using h⟩
    · rename_i l hne hq
      refine ⟨l, hq, ?_⟩
      have e : rt l = .tup l := by
        match l, hne with
        | [], _ => rfl
        | [q], hne => exact absurd rfl (hne q)
        | _ :: _ :: _, _ => rfl
      have h : some (fin kf S (.tup l) s1.S) = some (r, S') := h
      rw [e]; simpa using h
    · cases h
  obtain ⟨l, hl, hfin⟩ := hfin
  intro w0 Z0 M0 Z β w vs E hlen hR
  refine calls_of_wp hf1 hc ?_
  have F : FR P Z β [] [] w (args ++ List.replicate (fn.ntmps - args.length) (AV.tup [])) { tmps := vs ++ Array.replicate (fn.ntmps - vs.size) undef, defers := [] } := by
    refine ⟨by simp [hlen], rfl, fun t ht => ?_⟩
    by_cases h1 : t < args.length
    · have e1 : (args ++ List.replicate (fn.ntmps - args.length) (AV.tup [])).getD t .dead = args.getD t .dead := by
        simp [List.getD_eq_getElem?_getD, List.getElem?_append_left h1]
      have e2 : (vs ++ Array.replicate (fn.ntmps - vs.size) undef).getD t undef = vs.getD t undef := by
        simp [Array.getD_eq_getD_getElem?, Array.getElem?_append_left (show t < vs.size by omega)]
      simp only [e1, e2]
      exact hR t h1
    · have ht' : t - args.length < fn.ntmps - args.length := by simp at ht; omega
      have e1 : (args ++ List.replicate (fn.ntmps - args.length) (AV.tup [])).getD t .dead = .tup [] := by
        simp [List.getD_eq_getElem?_getD, List.getElem?_append_right (Nat.le_of_not_lt h1), ht']
      have e2 : (vs ++ Array.replicate (fn.ntmps - vs.size) undef).getD t undef = undef := by
        have h3 : t - vs.size < fn.ntmps - vs.size := by omega
        simp [Array.getD_eq_getD_getElem?, Array.getElem?_append_right (show vs.size ≤ t by omega), h3]
      simp only [e1, e2]
      exact .undef
  have hw := evC_sound (rw' := rw') (w0 := w0) (Z0 := Z0) (M0 := M0) hcf hpu k c (s := ⟨args ++ List.replicate (fn.ntmps - args.length) (AV.tup []), S, []⟩) E F hev
  refine wp_mono hw ?_
  rintro e a' w' ⟨rfl, Z', β', γ', E', F', X'⟩
  obtain ⟨fr', S1, T1⟩ := s1
  obtain ⟨v, hv, hRv⟩ := results_run E' F' (fn := fn) hl
  obtain ⟨Z'', β'', E'', X'', hR''⟩ := fin_sound hfin E.bl E' X' hRv
  have hpost : a'.defers = [] ∧ ∃ v, (results fn a'.tmps).run P w' = .ok v w' ∧ (fun e w' => ∃ v Z' β', e = Ending.returned v ∧ EN P w0 Z0 M0 Z' β' [] S' [] w' ∧ VX Z Z' β β' [] [] [] [] w w' ∧ R3 Z' β' [] [] w' P r v) (.returned v) w' :=
    ⟨F'.df, v, hv, v, Z'', β'', rfl, E'', X'', hR''⟩
  rcases hx with rfl | rfl
  · exact hpost
  · exact hpost
theorem evFn_on (hcf : OKF P cf) (hpu : PureF cf kp) (k : Nat) {kf : Bool} {f : FuncId} {fn : Func} (hf : fun? P f = some fn) {args : List AV} {S S' : Obs} {r : AV} (h : @evFn onTV P cf kp rw' k kf fn args S = some (r, S')) : Fun P f ∧ FC P f args S r S' := by
  obtain ⟨hf1, hf2⟩ := fun_ok hf
  unfold evFn at h
  split at h
  · cases h
  rename_i c hc
  refine ⟨⟨fn, hf1, hf2, by rw [hc]; rfl⟩, ?_⟩
  split at h
  case h_2 => cases h
  rename_i x s1 hev
  split at h
  case isFalse => cases h
  rename_i hx
  have hfin : ∃ l, resL P s1 fn.results.toList = some l ∧ finT S (rt l) = some (r, S') := by
    split at h
    · rename_i q hq
      have h : finT S q = some (r, S') := h
      exact ⟨_, hq, h⟩
    · rename_i l hne hq
      refine ⟨l, hq, ?_⟩
      have e : rt l = .tup l := by
        match l, hne with
        | [], _ => rfl
        | [q], hne => exact absurd rfl (hne q)
        | _ :: _ :: _, _ => rfl
      rw [e]; exact h
    · cases h
  obtain ⟨l, hl, hfin⟩ := hfin
  unfold finT at hfin
  split at hfin
  case isFalse => cases hfin
  rename_i hc2
  rw [Bool.and_eq_true, List.isEmpty_iff] at hc2
  obtain ⟨rfl, hd3⟩ := hc2
  cases hfin
  intro w0 Z0 M0 Z β w vs E hlen hR
  refine calls_of_wp hf1 hc ?_
  have F : FR P Z β [] [] w (args ++ List.replicate (fn.ntmps - args.length) (AV.tup [])) { tmps := vs ++ Array.replicate (fn.ntmps - vs.size) undef, defers := [] } := by
    refine ⟨by simp [hlen], rfl, fun t ht => ?_⟩
    by_cases h1 : t < args.length
    · have e1 : (args ++ List.replicate (fn.ntmps - args.length) (AV.tup [])).getD t .dead = args.getD t .dead := by
        simp [List.getD_eq_getElem?_getD, List.getElem?_append_left h1]
      have e2 : (vs ++ Array.replicate (fn.ntmps - vs.size) undef).getD t undef = vs.getD t undef := by
        simp [Array.getD_eq_getD_getElem?, Array.getElem?_append_left (show t < vs.size by omega)]
      simp only [e1, e2]
      exact hR t h1
    · have ht' : t - args.length < fn.ntmps - args.length := by simp at ht; omega
      have e1 : (args ++ List.replicate (fn.ntmps - args.length) (AV.tup [])).getD t .dead = .tup [] := by
        simp [List.getD_eq_getElem?_getD, List.getElem?_append_right (Nat.le_of_not_lt h1), ht']
      have e2 : (vs ++ Array.replicate (fn.ntmps - vs.size) undef).getD t undef = undef := by
        have h3 : t - vs.size < fn.ntmps - vs.size := by omega
        simp [Array.getD_eq_getD_getElem?, Array.getElem?_append_right (show vs.size ≤ t by omega), h3]
      simp only [e1, e2]
      exact .undef
  have E0 : @EN onTV P w0 Z0 M0 Z β [] [] [] w := @EN.mk onTV P w0 Z0 M0 Z β [] [] [] w E.kp E.zc E.zn E.zs E.bl rfl (fun id o h => absurd h (by simp)) (fun i j oi oj bi bj h => absurd h (by simp)) (fun τ e h => absurd h (by simp)) (fun τ σ e f u v g h => absurd h (by simp))
  have hw := @evC_sound onTV P cf kp rw' w0 Z0 M0 hcf hpu k c ⟨args ++ List.replicate (fn.ntmps - args.length) (AV.tup []), [], []⟩ s1 x _ Z β [] w E0 F hev
  refine wp_mono hw ?_
  rintro e a' w' ⟨rfl, Z', β', γ', E', F', X'⟩
  obtain ⟨fr', S1, T1⟩ := s1
  obtain ⟨v, hv, hRv⟩ := @results_run onTV _ _ _ _ _ _ _ _ _ _ E' _ _ F' fn _ hl
  have E2 : @EN offTV P w0 Z0 M0 Z' [] [] [] [] w' := ⟨@EN.kp onTV _ _ _ _ _ _ _ _ _ _ E', @EN.zc onTV _ _ _ _ _ _ _ _ _ _ E', @EN.zn onTV _ _ _ _ _ _ _ _ _ _ E', @EN.zs onTV _ _ _ _ _ _ _ _ _ _ E', rfl, rfl, (fun id o h => absurd h (by simp)), (fun i j oi oj bi bj h => absurd h (by simp)), (fun τ e h => absurd h (by simp)), (fun τ σ e f u v g h => absurd h (by simp))⟩
  have hb0 : β = [] := List.eq_nil_of_length_eq_zero E.bl
  subst hb0
  have X2 : VX Z Z' [] [] [] [] [] [] w w' := ⟨X'.z, fun id b h => by simp at h, Nat.le_refl _, fun τ e h => absurd h (Nat.not_lt_zero τ)⟩
  have hpost : a'.defers = [] ∧ ∃ v, (results fn a'.tmps).run P w' = .ok v w' ∧ (fun e w' => ∃ v Z' β', e = Ending.returned v ∧ EN P w0 Z0 M0 Z' β' [] [] [] w' ∧ VX Z Z' [] β' [] [] [] [] w w' ∧ R3 Z' β' [] [] w' P (s3 (rt l)) v) (.returned v) w' :=
    ⟨F'.df, v, hv, v, Z', [], rfl, E2, X2, (R3.dr hRv (of_decide_eq_true hd3)).r3⟩
  rcases hx with rfl | rfl
  · exact hpost
  · exact hpost
theorem evFn_sound (hcf : OKF P cf) (hpu : PureF cf kp) (k : Nat) {tv kf : Bool} {f : FuncId} {fn : Func} (hf : fun? P f = some fn) {args : List AV} {S S' : Obs} {r : AV} (h : @evFn ⟨tv⟩ P cf kp rw' k kf fn args S = some (r, S')) : Fun P f ∧ FC P f args S r S' := by
  cases tv with
  | false => exact evFn_off hcf hpu k hf h
  | true => exact evFn_on hcf hpu k hf h
/-- The contracts of what is known otherwise. -/
def OKX (P : Program) (X : Prims) : Prop := ∀ f g args S r S', X.prim f = some g → g args S = some (r, S') → Fun P f ∧ FC P f args S r S'
theorem evF_pure {X : Prims} : ∀ k, PureF (evF P X k) X.keep
  | 0 => fun f args S r S' _ _ h => by cases h
  | k + 1 => fun f args S r S' hd hk h => by
    simp only [evF, hd, hk, Bool.not_false, Bool.and_self, if_true] at h ⊢
    split at h
    · rename_i r0 S0 hb
      split at h
      · rename_i hd3
        simp only [Option.some.injEq, Prod.mk.injEq] at h
        obtain ⟨rfl, rfl⟩ := h
        exact ⟨rfl, fun S2 => by simp only [hd3, if_true]⟩
      · cases h
    · cases h
theorem d2_nt1 {a : AV} (h : d2 a = true) : nt a = true := by cases a <;> first | rfl | exact absurd h (by simp [d2, d1, d0])
/-- WHAT THE EVALUATOR TELLS IS SO. -/
theorem evF_sound {X : Prims} (hX : OKX P X) : ∀ k, OKF P (evF P X k)
  | 0 => fun f args S r S' h => by cases h
  | k + 1 => fun f args S r S' h => by
    have hB : ∀ a S r S', evB P X k (evF P X k) f a S = some (r, S') → Fun P f ∧ FC P f a S r S' := by
      intro a S r S' h
      unfold evB at h
      split at h
      · rename_i g hg
        obtain ⟨q, hq, h⟩ := Option.map_eq_some_iff.1 h
        simp only [Prod.mk.injEq] at h
        obtain ⟨rfl, rfl⟩ := h
        obtain ⟨h1, h2⟩ := hX f g a S q.1 q.2 hg hq
        refine ⟨h1, fun w0 Z0 M0 Z β w vs E hl hR => (h2 w0 Z0 M0 Z β w vs E hl hR).mono ?_⟩
        rintro e w' ⟨v, Z', β', rfl, E', X', hR'⟩
        exact ⟨v, Z', β', rfl, E', X', hR'.t3⟩
      · split at h
        · rename_i fn hf
          exact evFn_sound (evF_sound hX k) (evF_pure k) k hf h
        · cases h
    simp only [evF] at h
    split at h
    · rename_i ha
      simp only [Bool.and_eq_true, Bool.not_eq_true'] at ha
      split at h
      case h_2 => cases h
      rename_i r0 S1 hb
      split at h
      case isFalse => cases h
      rename_i hd
      simp only [Option.some.injEq, Prod.mk.injEq] at h
      obtain ⟨rfl, rfl⟩ := h
      obtain ⟨h1, h2⟩ := hB _ _ _ _ hb
      have ha2 : (args.map s2).all d2 = true := by
        simp only [List.all_map, List.all_eq_true]
        exact fun x hx => d2_s2 (List.all_eq_true.mp ha.1 x hx)
      refine ⟨List.all_eq_true.mpr fun x hx => d2_nt1 (List.all_eq_true.mp ha.1 x hx), h1, .inl (PC.fc (h2.pure ha2 (fun i hi => ?_) hd) ha2 S)⟩
      have hi' : i < args.length := by simpa using hi
      rw [getD_map_lt hi', s2_idem]
    · split at h
      · rename_i hnt
        obtain ⟨h1, h2⟩ := hB _ _ _ _ h
        exact ⟨hnt, h1, .inr h2⟩
      · cases h
theorem evB_sound {X : Prims} (hX : OKX P X) {k : Nat} {f : FuncId} {a : List AV} {S S' : Obs} {r : AV} (h : evB P X k (evF P X k) f a S = some (r, S')) : Fun P f ∧ FC P f a S r S' := by
  unfold evB at h
  split at h
  · rename_i g hg
    obtain ⟨q, hq, h⟩ := Option.map_eq_some_iff.1 h
    simp only [Prod.mk.injEq] at h
    obtain ⟨rfl, rfl⟩ := h
    obtain ⟨h1, h2⟩ := hX f g a S q.1 q.2 hg hq
    refine ⟨h1, fun w0 Z0 M0 Z β w vs E hl hR => (h2 w0 Z0 M0 Z β w vs E hl hR).mono ?_⟩
    rintro e w' ⟨v, Z', β', rfl, E', X', hR'⟩
    exact ⟨v, Z', β', rfl, E', X', hR'.t3⟩
  · split at h
    · rename_i fn hf
      exact evFn_sound (evF_sound hX k) (evF_pure k) k hf h
    · cases h
end
end Go.Proofs.Ytplpmelpoajpdaa.Ev
namespace Go.Proofs.Ytplpmelpoajpdaa.Ev
open Go
set_option linter.unusedSectionVars false
set_option linter.unusedVariables false
set_option linter.unusedSimpArgs false
section
variable [TVm] {P : Program} {cf cf' : CallF} {kp : FuncId → Bool} {rw' : Bool}
def LeF (cf cf' : CallF) : Prop := ∀ f a S r, cf f a S = some r → cf' f a S = some r
theorem exO_mono (h : LeF cf cf') {ops : Array Oper} {o : Oper} {s : St} {r : AV × Obs × Toks} (he : exO P cf rw' ops o s = some r) : exO P cf' rw' ops o s = some r := by
  unfold exO at he ⊢
  split at he
  · rename_i b hw
    cases b with
    | false => simpa using he
    | true =>
      simp only [if_true] at he ⊢
      unfold run1 at he ⊢
      split at he
      · split at he
        · split at he
          · rename_i hc
            simp only [hc, if_true]
            by_cases htv : TVm.tv = true
            · rw [if_pos htv] at he ⊢
              unfold callT at he ⊢
              split at he
              case isFalse => cases he
              rename_i hd
              rw [if_pos hd]
              split at he
              case h_2 => cases he
              rename_i x1 r0 hr0
              rw [h _ _ _ _ hr0]; exact he
            · rw [if_neg htv] at he ⊢
              obtain ⟨q, hq, he⟩ := Option.map_eq_some_iff.1 he
              rw [h _ _ _ _ hq, ← he]; rfl
          · cases he
        · cases he
      · exact he
  · cases he
theorem evG_mono (h : LeF cf cf') {ops : Array Oper} {o : Oper} {s s' : St} (he : evG P cf rw' ops o s = some s') : evG P cf' rw' ops o s = some s' := by
  obtain ⟨r, hr, rfl⟩ := Option.map_eq_some_iff.1 he
  unfold evG
  rw [exO_mono h hr]; rfl
theorem evOps_mono (h : LeF cf cf') {ops : Array Oper} : ∀ (l : List Oper) {s s' : St}, evOps P cf rw' ops l s = some s' → evOps P cf' rw' ops l s = some s'
  | [], s, s', he => he
  | o :: l, s, s', he => by
    simp only [evOps] at he ⊢
    split at he
    · rename_i s1 h1
      rw [evG_mono h h1]; exact evOps_mono h l he
    · cases he
theorem evD_mono (h : LeF cf cf') {ops : Array Oper} {deps : List (List Nat)} : ∀ (l : List Nat) {s : St} {r : St × List (Nat × Cls)}, evD P cf kp rw' ops deps l s = some r → evD P cf' kp rw' ops deps l s = some r
  | [], s, r, he => he
  | i :: l, s, r, he => by
    simp only [evD] at he ⊢
    split at he
    · cases he
    split at he
    · cases he
    rename_i s1 h1
    split at he
    · cases he
    rename_i sf log h2
    rw [evG_mono h h1]
    simp only [evD_mono h l h2]
    exact he
theorem evR_mono (h : LeF cf cf') {ops : Array Oper} {draw : Bool} {s s' : St} (he : evR P cf kp rw' ops draw s = some s') : evR P cf' kp rw' ops draw s = some s' := by
  unfold evR at he ⊢
  cases draw with
  | false => exact evOps_mono h _ he
  | true =>
    simp only [if_true] at he ⊢
    split at he
    · rename_i r hr
      rw [evD_mono h _ hr]; exact he
    · cases he
theorem iter_mono {f f' : St → Option (Ex × St)} (h : ∀ s r, f s = some r → f' s = some r) : ∀ (n m : Nat), n ≤ m → ∀ {s : St} {r : Ex × St}, iter f n s = some r → iter f' m s = some r
  | 0, m, _, s, r, he => by cases he
  | n + 1, 0, hm, s, r, he => by omega
  | n + 1, m + 1, hm, s, r, he => by
    simp only [iter] at he ⊢
    split at he
    · rename_i s1 h1
      rw [h _ _ h1]; exact iter_mono h n m (by omega) he
    · rename_i hne
      rw [h _ _ he]
      obtain ⟨x, s1⟩ := r
      cases x with
      | normal => exact absurd he (hne s1)
      | _ => rfl
theorem evC_mono (h : LeF cf cf') {k k' : Nat} (hk : k ≤ k') : ∀ (c : Code) {s : St} {r : Ex × St}, evC P cf kp rw' k c s = some r → evC P cf' kp rw' k' c s = some r := by
  intro c
  induction c with
  | region id ops draw =>
    intro s r he
    simp only [evC] at he ⊢
    obtain ⟨s1, h1, rfl⟩ := Option.map_eq_some_iff.1 he
    rw [evR_mono h h1]; rfl
  | seq p q ihp ihq =>
    intro s r he
    simp only [evC] at he ⊢
    split at he
    · rename_i s1 h1
      rw [ihp h1]; exact ihq he
    · rename_i hne
      rw [ihp he]
      obtain ⟨x, s1⟩ := r
      cases x with
      | normal => exact absurd he (hne s1)
      | _ => rfl
  | cond c p q ihp ihq =>
    intro s r he
    simp only [evC] at he ⊢
    split at he
    · split at he
      · rename_i hb; rw [if_pos hb]; exact ihp he
      · rename_i hb; rw [if_neg hb]; exact ihq he
    · cases he
  | block id c ih =>
    intro s r he
    simp only [evC] at he ⊢
    split at he
    · rename_i i s1 h1
      rw [ih h1]; exact he
    · rename_i hne
      rw [ih he]
      obtain ⟨x, s1⟩ := r
      cases x with
      | exit i => exact absurd he (hne i s1)
      | _ => rfl
  | loop c ih =>
    intro s r he
    simp only [evC] at he ⊢
    exact iter_mono (fun s r => ih) k k' hk he
  | scope c ih => intro s r he; simp only [evC] at he ⊢; exact ih he
  | _ => intro s r; simp [evC]
theorem evFn_mono (h : LeF cf cf') {k k' : Nat} (hk : k ≤ k') {kf : Bool} {fn : Func} {a : List AV} {S : Obs} {r : AV × Obs} (he : evFn P cf kp rw' k kf fn a S = some r) : evFn P cf' kp rw' k' kf fn a S = some r := by
  unfold evFn at he ⊢
  split at he
  · cases he
  rename_i c hc
  split at he
  · rename_i x s1 h1
    rw [evC_mono h hk c h1]; exact he
  · cases he
end
section
variable {P : Program} {cf cf' : CallF} {kp : FuncId → Bool} {rw' : Bool}
theorem evB_mono {X : Prims} (h : LeF cf cf') {k k' : Nat} (hk : k ≤ k') {f : FuncId} {a : List AV} {S : Obs} {r : AV × Obs} (he : evB P X k cf f a S = some r) : evB P X k' cf' f a S = some r := by
  unfold evB at he ⊢
  split at he
  · exact he
  · split at he
    · letI : TVm := ⟨X.vars f⟩
      exact evFn_mono h hk he
    · cases he
theorem evF_succ {X : Prims} : ∀ k, LeF (evF P X k) (evF P X (k + 1))
  | 0, f, a, S, r, he => by cases he
  | k + 1, f, a, S, r, he => by
    rw [evF] at he ⊢
    split at he
    · rename_i hc
      simp only [hc, if_true]
      split at he
      · rename_i r0 S1 hb
        rw [evB_mono (evF_succ k) (Nat.le_succ k) hb]
        exact he
      · cases he
    · rename_i hc
      rw [if_neg hc]
      split at he
      · rename_i hn
        rw [if_pos hn]
        exact evB_mono (evF_succ k) (Nat.le_succ k) he
      · cases he
theorem evF_mono {X : Prims} {k k' : Nat} (hk : k ≤ k') : LeF (evF P X k) (evF P X k') := by
  induction hk with
  | refl => exact fun _ _ _ _ h => h
  | step _ ih => exact fun f a S r h => evF_succ _ _ _ _ _ (ih f a S r h)
end
end Go.Proofs.Ytplpmelpoajpdaa.Ev
namespace Go.Proofs.Ytplpmelpoajpdaa.Ev
open Go
set_option linter.unusedSectionVars false
set_option linter.unusedVariables false
set_option linter.unusedSimpArgs false
/-- A call on values alone: what it gives. -/
def Gv (P : Program) (X : Prims) (f : FuncId) (args : List AV) (r : AV) : Prop := X.keep f = false ∧ ∃ k, ∀ k', k ≤ k' → ∃ r0 S', evB P X k' (evF P X k') f args [] = some (r0, S') ∧ d3 r0 = true ∧ s3 r0 = r
/-- A call with objects: what it gives, and what becomes of them. -/
def Gs (P : Program) (X : Prims) (f : FuncId) (args : List AV) (S : Obs) (Q : AV → Obs → Prop) : Prop := ∃ k r S', (∀ k', k ≤ k' → evB P X k' (evF P X k') f args S = some (r, S')) ∧ Q r S'
theorem Gs.mono {P : Program} {X : Prims} {f : FuncId} {args : List AV} {S : Obs} {Q Q' : AV → Obs → Prop} (h : Gs P X f args S Q) (hq : ∀ r S', Q r S' → Q' r S') : Gs P X f args S Q' := by
  obtain ⟨k, r, S', h1, h2⟩ := h
  exact ⟨k, r, S', h1, hq r S' h2⟩
/-- What an operation may have to do with objects, by its text. -/
inductive Kd where
  | q | r | m | c | w | s | n
  deriving DecidableEq
/-- How a region that draws its order is walked: with rows; the object that is written late; objects that are read lie below this one; calls of these functions make objects alone. -/
structure Md where
  m : Bool
  lt : Option Nat
  bd : Option Nat
  nw : List FuncId
def isNw (md : Md) (o : Oper) : Bool := match isCall o with
  | some (.func f, _) => md.nw.contains f
  | _ => false
def kind (rw : Bool) (md : Md) (o : Oper) : Kd := if isNw md o = true then .n else match o.op with
  | .load _ _ => .r
  | .alloc _ => .m
  | .box _ _ => .m
  | .store _ _ _ => if md.lt.isSome = true then .s else .w
  | .indexAddr _ _ _ => if md.m = true then .r else .q
  | .lookup _ _ _ _ => .r
  | .makeSlice _ _ _ => .w
  | .buildSlice _ n _ => if (rw && n != 0) = true then .w else .q
  | .makeMap _ _ => .w
  | .insert _ _ _ _ => .w
  | .mapUpdate _ _ _ _ => .w
  | .range _ _ => .w
  | .next _ _ => .w
  | _ => match isApp o with
    | some _ => if (rw || md.m) = true then .w else .c
    | none => match isDel o with
      | some _ => .w
      | none => match isClr o with
        | some _ => .w
        | none => match isLen o with
        | some _ => if md.m = true then .r else .q
        | none => .q
/-- In such a function what is to be a list is no row. -/
def mdO (rw : Bool) (md : Md) (ops : Array Oper) (o : Oper) : Md := ⟨md.m && !lit rw ops o, md.lt, md.bd, md.nw⟩
def kindO (rw : Bool) (md : Md) (ops : Array Oper) (o : Oper) : Kd := kind (rwO rw ops o) (mdO rw md ops o) o
def kcompat (md : Md) : Kd → Kd → Bool
  | .q, _ => true
  | _, .q => true
  | .r, .r => true
  | .r, .c => true
  | .c, .r => true
  | .m, .c => true
  | .c, .m => true
  | .r, .s => true
  | .s, .r => true
  | .m, .s => true
  | .s, .m => true
  | .s, .c => true
  | .c, .s => true
  | .r, .n => true
  | .n, .r => true
  | .n, .c => true
  | .c, .n => true
  | .r, .m => md.bd.isSome
  | .m, .r => md.bd.isSome
  | _, _ => false
/-- Of a region that draws its order: may its operations change places, by their text alone? -/
def drawOK (rw : Bool) (md : Md) (ops : Array Oper) : Bool :=
  let deps := depsOf ops 0 [] ops.toList
  fwd ops && (List.range ops.size).all fun j => (List.range j).all fun i => (deps.getD j []).contains i || (kcompat md (kindO rw md ops (ops.getD i default)) (kindO rw md ops (ops.getD j default)) && apart ops (ops.getD i default) (ops.getD j default))
def isMsA : AV → Bool
  | .ms _ _ _ => true
  | _ => false
def isMpA : AV → Bool
  | .mp _ => true
  | _ => false
/-- Which object is read. -/
def rdId (o : Oper) (fr : List AV) : Option Nat := match o.op with
  | .load _ a => (match opd fr a with
    | .ptr id _ => some id
    | .ep id _ _ _ => some id
    | _ => none)
  | .indexAddr _ x _ => (match opd fr x with
    | .ms id _ _ => some id
    | _ => none)
  | .lookup _ x _ _ => (match opd fr x with
    | .mp id => some id
    | _ => none)
  | _ => match isLen o with
    | some (x, _) => (match opd fr x with
      | .mp id => some id
      | _ => none)
    | none => none
def rdOK (md : Md) : Option Nat → Bool
  | none => true
  | some i => (match md.lt with
    | some l => l != i
    | none => true) && (match md.bd with
    | some b => decide (i < b)
    | none => true)
def wrOK (lt : Option Nat) (o : Oper) (s : St) : Bool := match lt with
  | none => true
  | some l => match o.op with
    | .store _ a _ => (match opd s.fr a with
      | .ptr id _ => id == l
      | _ => false)
    | .alloc _ => decide (l < s.S.length)
    | .box _ _ => decide (l < s.S.length)
    | _ => true
/-- What is made lies behind what is read. -/
def mkOK (bd : Option Nat) (o : Oper) (s : St) : Bool := match bd with
  | none => true
  | some b => match o.op with
    | .alloc _ => decide (b ≤ s.S.length)
    | .box _ _ => decide (b ≤ s.S.length)
    | _ => true
def mdOK (md : Md) (o : Oper) (s : St) : Bool := rdOK md (rdId o s.fr) && (wrOK md.lt o s && mkOK md.bd o s)
def nwOK (md : Md) (o : Oper) (s : St) : Bool := isNw md o && (match md.bd with
  | some b => decide (b ≤ s.S.length)
  | none => false)
/-- Has an operation to do with values alone, if it is a call; and (where m is false) with no rows that are written? -/
def pureAt (kp : FuncId → Bool) (q : Option Md) (ops : Array Oper) (o : Oper) (s : St) : Bool := match q with
  | none => true
  | some md => (wantA ops o s.fr == some false) || match isCall o with
    | some (f, args) => match opd s.fr f with
      | .fn g cap => ((args.map (opd s.fr) ++ cap).all d2 && !kp g) || nwOK md o s
      | _ => true
    | none => (md.m || match o.op with
      | .indexAddr _ x _ => !isMsA (opd s.fr x)
      | _ => match isApp o with
        | some (a, x, _) => isSl (opd s.fr a) && isSl (opd s.fr x)
        | none => match isLen o with
          | some (x, _) => !isMpA (opd s.fr x)
          | none => true) && mdOK md o s
/-- A call that is said to make objects alone does so. -/
def postAt (q : Option Md) (o : Oper) (s s' : St) : Prop := ∀ md, q = some md → isNw md o = true → ∃ J, s'.S = s.S ++ J
/-- In such a function what is to be a list is no row. -/
def qO (rw : Bool) (q : Option Md) (ops : Array Oper) (o : Oper) : Option Md := q.map fun md => mdO rw md ops o
open Classical in
noncomputable def evOpsQ [TVm] (P : Program) (cf : CallF) (kp : FuncId → Bool) (rw : Bool) (q : Option Md) (ops : Array Oper) : List Oper → St → Option St
  | [], s => some s
  | o :: rest, s => if pureAt kp (qO rw q ops o) ops o s = true then match evG P cf rw ops o s with
    | some s' => if postAt q o s s' then evOpsQ P cf kp rw q ops rest s' else none
    | none => none
    else none
/-- What is still to be done: code; the end of a block. -/
inductive Kx where
  | c (c : Code)
  | b (id : Nat)
noncomputable def runK [TVm] (P : Program) (cf : CallF) (kp : FuncId → Bool) (rw : Bool) (n : Nat) : List Kx → Ex → St → Option (Ex × St)
  | [], x, s => some (x, s)
  | .c c :: k, .normal, s => match evC P cf kp rw n c s with
    | some (x, s1) => runK P cf kp rw n k x s1
    | none => none
  | .c _ :: k, x, s => runK P cf kp rw n k x s
  | .b id :: k, .exit i, s => if i = id then runK P cf kp rw n k .normal s else runK P cf kp rw n k (.exit i) s
  | .b _ :: k, x, s => runK P cf kp rw n k x s
def WX [TVm] (P : Program) (X : Prims) (rw : Bool) (k : List Kx) (x : Ex) (s : St) (Q : Ex → St → Prop) : Prop := ∃ n x' s', (∀ n', n ≤ n' → runK P (evF P X n') X.keep rw n' k x s = some (x', s')) ∧ Q x' s'
def W [TVm] (P : Program) (X : Prims) (rw : Bool) (k : List Kx) (s : St) (Q : Ex → St → Prop) : Prop := WX P X rw k .normal s Q
/-- .. in the middle of a region. -/
def WO [TVm] (P : Program) (X : Prims) (rw : Bool) (q : Option Md) (ops : Array Oper) (l : List Oper) (k : List Kx) (s : St) (Q : Ex → St → Prop) : Prop :=
  ∃ n x' s', (∀ n', n ≤ n' → (match evOpsQ P (evF P X n') X.keep rw q ops l s with | some s1 => runK P (evF P X n') X.keep rw n' k .normal s1 | none => none) = some (x', s')) ∧ Q x' s'
/-- A step of an operation that is no call. -/
def stepQ [TVm] (P : Program) (rw : Bool) (ops : Array Oper) (o : Oper) (s : St) : Option St := match wantA ops o s.fr with
  | some b => if b = true then (core P rw o (opd s.fr) s.S s.T).map fun r => ⟨put s.fr o.dst r.1, r.2.1, r.2.2⟩ else some ⟨put s.fr o.dst (.tup []), s.S, s.T⟩
  | none => none
theorem d3_s3 {a : AV} (h : d3 a = true) : d3 (s3 a) = true := by
  cases a with
  | tup l =>
    simp only [s3, d3, List.all_map]
    refine List.all_eq_true.mpr fun z hz => d2_s2 (List.all_eq_true.mp h z hz)
  | agg c => exact d2_s2 (a := .agg c) h
  | fn f c => exact d2_s2 (a := .fn f c) h
  | _ => exact h
theorem s3_idem (a : AV) : s3 (s3 a) = s3 a := by
  cases a with
  | tup l => simp only [s3, List.map_map]; congr 1; exact List.map_congr_left fun x _ => s2_idem x
  | agg c => exact s2_idem (.agg c)
  | fn f c => exact s2_idem (.fn f c)
  | _ => rfl
section
variable [TVm] {P : Program} {X : Prims} {rw : Bool} {Q : Ex → St → Prop} {s : St} {k : List Kx}
theorem runK_congr {cf : CallF} {kp : FuncId → Bool} {n : Nat} {k k' : List Kx} (h : ∀ x s, runK P cf kp rw n k x s = runK P cf kp rw n k' x s) (c : Kx) : ∀ x s, runK P cf kp rw n (c :: k) x s = runK P cf kp rw n (c :: k') x s := by
  intro x s
  cases c with
  | c c =>
    cases x with
    | normal => simp only [runK]; split <;> first | exact h _ _ | rfl
    | exit i => simp only [runK]; exact h _ _
    | ret => simp only [runK]; exact h _ _
  | b id =>
    cases x with
    | exit i => simp only [runK]; split <;> exact h _ _
    | normal => simp only [runK]; exact h _ _
    | ret => simp only [runK]; exact h _ _
theorem W_nil : W P X rw [] s Q = Q .normal s := by
  apply propext
  constructor
  · rintro ⟨n, x, s', h, hq⟩
    have := h n (Nat.le_refl _)
    simp only [runK, Option.some.injEq, Prod.mk.injEq] at this
    obtain ⟨rfl, rfl⟩ := this
    exact hq
  · intro h; exact ⟨0, _, _, fun _ _ => rfl, h⟩
theorem WX_of {x : Ex} {k' : List Kx} {x' : Ex} {s' : St} (h : ∀ cf kp n, runK P cf kp rw n k x s = runK P cf kp rw n k' x' s') : WX P X rw k x s Q = WX P X rw k' x' s' Q := by
  unfold WX
  simp only [h]
theorem runK_ret {cf : CallF} {kp : FuncId → Bool} {n : Nat} : ∀ (k : List Kx) (s : St), runK P cf kp rw n k .ret s = some (.ret, s)
  | [], s => rfl
  | .c _ :: k, s => by simp only [runK]; exact runK_ret k s
  | .b _ :: k, s => by simp only [runK]; exact runK_ret k s
theorem WX_ret : WX P X rw k .ret s Q = Q .ret s := by
  apply propext
  constructor
  · rintro ⟨n, x, s', h, hq⟩
    have := h n (Nat.le_refl _)
    rw [runK_ret] at this
    simp only [Option.some.injEq, Prod.mk.injEq] at this
    obtain ⟨rfl, rfl⟩ := this
    exact hq
  · intro h; exact ⟨0, _, _, fun _ _ => runK_ret k s, h⟩
theorem WX_c {c : Code} {i : Nat} : WX P X rw (.c c :: k) (.exit i) s Q = WX P X rw k (.exit i) s Q := WX_of fun cf kp n => by simp only [runK]
theorem WX_b {i id : Nat} : WX P X rw (.b id :: k) (.exit i) s Q = if i = id then W P X rw k s Q else WX P X rw k (.exit i) s Q := by
  split
  · rename_i h; exact WX_of fun cf kp n => by simp only [runK, if_pos h]
  · rename_i h; exact WX_of fun cf kp n => by simp only [runK, if_neg h]
theorem W_skip : W P X rw (.c .skip :: k) s Q = W P X rw k s Q := WX_of fun cf kp n => by simp only [runK, evC]
theorem W_label {l : Nat} : W P X rw (.c (.label l) :: k) s Q = W P X rw k s Q := WX_of fun cf kp n => by simp only [runK, evC]
theorem W_b {id : Nat} : W P X rw (.b id :: k) s Q = W P X rw k s Q := WX_of fun cf kp n => by simp only [runK]
theorem W_ret : W P X rw (.c .ret :: k) s Q = Q .ret s := (WX_of (k' := k) (x' := .ret) (s' := s) fun cf kp n => by simp only [runK, evC]).trans WX_ret
theorem W_exit {id : Nat} : W P X rw (.c (.exit id) :: k) s Q = WX P X rw k (.exit id) s Q := WX_of fun cf kp n => by simp only [runK, evC]
theorem W_scope {c : Code} : W P X rw (.c (.scope c) :: k) s Q = W P X rw (.c c :: k) s Q := WX_of fun cf kp n => by simp only [runK, evC]
theorem W_seq {a b : Code} : W P X rw (.c (.seq a b) :: k) s Q = W P X rw (.c a :: .c b :: k) s Q := WX_of fun cf kp n => by
  simp only [runK, evC]
  split
  · rename_i x s1 h
    split at h
    · rename_i s2 h2
      rw [h2]
      simp only [runK, h]
    · rename_i hne
      rw [h]
      cases x with
      | normal => exact absurd h (hne s1)
      | exit i => simp only [runK]
      | ret => simp only [runK]
  · rename_i h
    split at h
    · rename_i s2 h2
      rw [h2]
      simp only [runK, h]
    · rw [h]
theorem W_block {id : Nat} {c : Code} : W P X rw (.c (.block id c) :: k) s Q = W P X rw (.c c :: .b id :: k) s Q := WX_of fun cf kp n => by
  simp only [runK, evC]
  split
  · rename_i x s1 h
    split at h
    · rename_i i s2 h2
      rw [h2]
      split at h
      · rename_i hi
        simp only [Option.some.injEq, Prod.mk.injEq] at h
        obtain ⟨rfl, rfl⟩ := h
        simp only [runK, if_pos hi]
      · rename_i hi
        simp only [Option.some.injEq, Prod.mk.injEq] at h
        obtain ⟨rfl, rfl⟩ := h
        simp only [runK, if_neg hi]
    · rename_i hne
      rw [h]
      cases x with
      | exit i => exact absurd h (hne i s1)
      | normal => simp only [runK]
      | ret => simp only [runK]
  · rename_i h
    split at h
    · split at h <;> cases h
    · rw [h]
theorem W_cond_t {c : Operand} {a b : Code} (h : opd s.fr c = .v (.bool true)) : W P X rw (.c (.cond c a b) :: k) s Q = W P X rw (.c a :: k) s Q := WX_of fun cf kp n => by simp only [runK, evC, h, if_true]
theorem W_cond_f {c : Operand} {a b : Code} (h : opd s.fr c = .v (.bool false)) : W P X rw (.c (.cond c a b) :: k) s Q = W P X rw (.c b :: k) s Q := WX_of fun cf kp n => by simp only [runK, evC, h, Bool.false_eq_true, if_false]
/-- A test, and its two ways. -/
def Wif [TVm] (P : Program) (X : Prims) (rw : Bool) (t : Bool) (a b : Code) (k : List Kx) (s : St) (Q : Ex → St → Prop) : Prop := if t = true then W P X rw (.c a :: k) s Q else W P X rw (.c b :: k) s Q
theorem Wif_t {a b : Code} : Wif P X rw true a b k s Q = W P X rw (.c a :: k) s Q := rfl
theorem Wif_f {a b : Code} : Wif P X rw false a b k s Q = W P X rw (.c b :: k) s Q := rfl
theorem Wif_of {t : Bool} {a b : Code} (h1 : t = true → W P X rw (.c a :: k) s Q) (h2 : t = false → W P X rw (.c b :: k) s Q) : Wif P X rw t a b k s Q := by
  cases t with
  | true => exact h1 rfl
  | false => exact h2 rfl
theorem W_test {c : Operand} {a b : Code} : W P X rw (.c (.cond c a b) :: k) s Q = (match opd s.fr c with
    | .v (.bool t) => Wif P X rw t a b k s Q
    | _ => False) := by
  cases hc : opd s.fr c with
  | v x =>
    cases x with
    | bool t =>
      cases t with
      | true => exact WX_of fun cf kp n => by simp only [runK, evC, hc, if_true]
      | false => exact WX_of fun cf kp n => by simp only [runK, evC, hc, Bool.false_eq_true, if_false]
    | _ =>
      simp only [eq_iff_iff, iff_false]
      rintro ⟨n, x', s', h1, _⟩
      have := h1 n (Nat.le_refl _)
      simp only [runK, evC, hc] at this
      cases this
  | _ =>
    simp only [eq_iff_iff, iff_false]
    rintro ⟨n, x', s', h1, _⟩
    have := h1 n (Nat.le_refl _)
    simp only [runK, evC, hc] at this
    cases this
/-- Two ways. -/
theorem W_cond {c : Operand} {a b : Code} {t : Bool} (h : opd s.fr c = .v (.bool t)) (h1 : t = true → W P X rw (.c a :: k) s Q) (h2 : t = false → W P X rw (.c b :: k) s Q) : W P X rw (.c (.cond c a b) :: k) s Q := by
  cases t with
  | true => rw [W_cond_t h]; exact h1 rfl
  | false => rw [W_cond_f h]; exact h2 rfl
theorem W_unroll {c : Code} (h : W P X rw (.c c :: .c (.loop c) :: k) s Q) : W P X rw (.c (.loop c) :: k) s Q := by
  obtain ⟨n, x, s', h, hq⟩ := h
  refine ⟨n + 1, x, s', fun n' hn' => ?_, hq⟩
  have h1 := h n' (by omega)
  simp only [runK, evC] at h1 ⊢
  obtain ⟨m, rfl⟩ : ∃ m, n' = m + 1 := ⟨n' - 1, by omega⟩
  simp only [iter]
  have h0 := h m (by omega)
  simp only [runK, evC] at h0
  cases h2 : evC P (evF P X m) X.keep rw m c s with
  | none => rw [h2] at h0; cases h0
  | some p =>
    obtain ⟨y, s1⟩ := p
    have h2' := evC_mono (evF_mono (X := X) (Nat.le_succ m)) (Nat.le_succ m) c h2
    rw [h2']
    rw [h2] at h0
    rw [h2'] at h1
    cases y with
    | exit i => simpa only [runK] using h1
    | ret => simpa only [runK] using h1
    | normal =>
      simp only [runK, evC] at h0 ⊢
      cases h3 : iter (evC P (evF P X m) X.keep rw m c) m s1 with
      | none => rw [h3] at h0; cases h0
      | some p =>
        obtain ⟨z, s2⟩ := p
        have h3' := iter_mono (f' := evC P (evF P X (m + 1)) X.keep rw (m + 1) c) (fun s r hh => evC_mono (evF_mono (X := X) (Nat.le_succ m)) (Nat.le_succ m) c hh) m m (Nat.le_refl _) h3
        have h3'' := iter_mono (f' := evC P (evF P X (m + 1)) X.keep rw (m + 1) c) (fun s r hh => evC_mono (evF_mono (X := X) (Nat.le_succ m)) (Nat.le_succ m) c hh) m (m + 1) (by omega) h3
        rw [h3']
        simp only [runK, evC] at h1
        rw [h3''] at h1
        exact h1
/-- Loops by what holds at each round's head. -/
theorem W_loop {c : Code} (I : Nat → St → Prop) {n : Nat} (h0 : I n s) (hr : ∀ n s, I n s → W P X rw (.c c :: .c (.loop c) :: k) s Q ∨ (∀ Q' : Ex → St → Prop, (∀ m s1, m < n → I m s1 → Q' .normal s1) → (∀ x s1, x ≠ .normal → WX P X rw k x s1 Q → Q' x s1) → W P X rw [.c c] s Q')) : W P X rw (.c (.loop c) :: k) s Q := by
  have key : ∀ (b n : Nat), n < b → ∀ s, I n s → W P X rw (.c (.loop c) :: k) s Q := by
    intro b
    induction b with
    | zero => intro n hn; omega
    | succ b ih =>
      intro n hn s hI
      rcases hr n s hI with h | h
      · exact W_unroll h
      · have := h (fun x s1 => WX P X rw (.c (.loop c) :: k) x s1 Q) (fun m s1 hm hI' => ih m (by omega) s1 hI') (fun x s1 hx hw => by
          cases x with
          | normal => exact absurd rfl hx
          | exit i => rw [WX_c]; exact hw
          | ret => rw [WX_ret] at hw ⊢; exact hw)
        refine W_unroll ?_
        obtain ⟨n1, x1, s1, g1, n2, x2, s2, g2, g3⟩ := this
        refine ⟨max n1 n2, x2, s2, fun n' hn' => ?_, g3⟩
        have e1 := g1 n' (by omega)
        have e2 := g2 n' (by omega)
        simp only [runK] at e1 ⊢
        cases hh : evC P (evF P X n') X.keep rw n' c s with
        | none => rw [hh] at e1; cases e1
        | some p =>
          obtain ⟨y, s3⟩ := p
          rw [hh] at e1
          simp only [runK, Option.some.injEq, Prod.mk.injEq] at e1
          obtain ⟨rfl, rfl⟩ := e1
          exact e2
  exact key (n + 1) n (by omega) s h0
/-- .. in another dress: what holds at a round's head, and the rounds to come. -/
theorem W_ind {c : Code} (I : Nat → St → Prop) (hr : ∀ n s, (∀ m s1, m < n → I m s1 → W P X rw (.c (.loop c) :: k) s1 Q) → I n s → W P X rw (.c c :: .c (.loop c) :: k) s Q) {n : Nat} (h0 : I n s) : W P X rw (.c (.loop c) :: k) s Q := by
  have key : ∀ (b n : Nat), n < b → ∀ s, I n s → W P X rw (.c (.loop c) :: k) s Q := by
    intro b
    induction b with
    | zero => intro n hn; omega
    | succ b ih => exact fun n hn s hI => W_unroll (hr n s (fun m s1 hm hI' => ih m (by omega) s1 hI') hI)
  exact key (n + 1) n (by omega) s h0
/-- A frame of n places, of which some are known. -/
def jl : Nat → Nat → (Nat → AV) → List AV
  | 0, _, _ => []
  | n + 1, i, j => j i :: jl n (i + 1) j
def fr (n : Nat) (l : List (Nat × AV)) (j : Nat → AV) : List AV := l.foldl (fun L p => L.set p.1 p.2) (jl n 0 j)
def FrL (L : List AV) : List (Nat × AV) → Prop
  | [] => True
  | p :: l => L.getD p.1 .dead = p.2 ∧ FrL L l
def FrIs (n : Nat) (l : List (Nat × AV)) (L : List AV) : Prop := L.length = n ∧ FrL L l
theorem jl_len : ∀ (n i : Nat) (j : Nat → AV), (jl n i j).length = n
  | 0, _, _ => rfl
  | n + 1, i, j => by simp [jl, jl_len n]
theorem jl_get : ∀ (n i : Nat) (j : Nat → AV) (m : Nat), m < n → (jl n i j)[m]? = some (j (i + m))
  | n + 1, i, j, 0, _ => rfl
  | n + 1, i, j, m + 1, h => by
    simp only [jl, List.getElem?_cons_succ]
    rw [jl_get n (i + 1) j m (by omega)]
    congr 2; omega
theorem set_self {L : List AV} {i : Nat} {a : AV} (h : L.getD i .dead = a) : L.set i a = L := by
  apply List.ext_getElem?
  intro m
  by_cases hm : i = m
  · subst hm
    by_cases hl : i < L.length
    · rw [List.getElem?_set_self hl, ← h]
      simp [List.getD_eq_getElem?_getD, hl]
    · rw [List.getElem?_eq_none (by simp; omega), List.getElem?_eq_none (by omega)]
  · rw [List.getElem?_set_ne hm]
theorem FrIs.ex {n : Nat} {l : List (Nat × AV)} {L : List AV} (h : FrIs n l L) : ∃ j, L = fr n l j := by
  refine ⟨fun i => L.getD i .dead, ?_⟩
  have h0 : jl n 0 (fun i => L.getD i .dead) = L := by
    apply List.ext_getElem?
    intro m
    by_cases hm : m < n
    · rw [jl_get _ _ _ _ hm, Nat.zero_add]
      have : m < L.length := by rw [h.1]; exact hm
      simp [List.getD_eq_getElem?_getD, this]
    · rw [List.getElem?_eq_none (by rw [jl_len]; omega), List.getElem?_eq_none (by rw [h.1]; omega)]
  have key : ∀ l : List (Nat × AV), FrL L l → l.foldl (fun L p => L.set p.1 p.2) L = L := by
    intro l
    induction l with
    | nil => intro _; rfl
    | cons p l ih =>
      intro hp
      rw [List.foldl_cons, set_self hp.1]
      exact ih hp.2
  unfold fr
  rw [h0]
  exact (key l h.2).symm
/-! ### Regions -/
theorem WO_nil {q : Option Md} {ops : Array Oper} : WO P X rw q ops [] k s Q = W P X rw k s Q := by unfold WO W WX; simp only [evOpsQ]
theorem evG_step {cf : CallF} {ops : Array Oper} {o : Oper} (h : isCall o = none) : evG P cf rw ops o s = stepQ P (rwO rw ops o) ops o s := by
  unfold evG exO stepQ run1
  simp only [h]
  cases wantA ops o s.fr with
  | none => rfl
  | some b => cases b <;> rfl
theorem WO_step {q : Option Md} {ops : Array Oper} {o : Oper} {l : List Oper} (h : isCall o = none) : WO P X rw q ops (o :: l) k s Q = (if pureAt X.keep (qO rw q ops o) ops o s = true then (match stepQ P (rwO rw ops o) ops o s with
    | some s1 => WO P X rw q ops l k s1 Q
    | none => False) else False) := by
  have hpost : ∀ s', postAt q o s s' := fun s' md _ hn => by unfold isNw at hn; rw [h] at hn; cases hn
  by_cases hp : pureAt X.keep (qO rw q ops o) ops o s = true
  · rw [if_pos hp]
    cases hs : stepQ P (rwO rw ops o) ops o s with
    | some s1 =>
      simp only []
      unfold WO
      simp only [evOpsQ, hp, evG_step h, hs, if_true, if_pos (hpost _)]
    | none =>
      simp only [eq_iff_iff, iff_false]
      rintro ⟨n, x', s', h1, _⟩
      have := h1 n (Nat.le_refl _)
      simp only [evOpsQ, hp, evG_step h, hs, if_true] at this
      cases this
  · rw [if_neg hp]
    simp only [eq_iff_iff, iff_false]
    rintro ⟨n, x', s', h1, _⟩
    have := h1 n (Nat.le_refl _)
    simp only [evOpsQ, hp, Bool.false_eq_true, if_false] at this
    cases this
/-- .. at a call of a function. -/
def WOc [TVm] (P : Program) (X : Prims) (rw : Bool) (q : Option Md) (ops : Array Oper) (o : Oper) (c : Operand × List Operand) (l : List Oper) (k : List Kx) (s : St) (Q : Ex → St → Prop) : Prop := WO P X rw q ops (o :: l) k s Q
theorem pureAt_none {kp : FuncId → Bool} {ops : Array Oper} {o : Oper} : pureAt kp none ops o s = true := rfl
theorem qO_none {ops : Array Oper} {o : Oper} : qO rw none ops o = none := rfl
theorem qO_false {q : Option Md} {ops : Array Oper} {o : Oper} : qO false q ops o = q := by
  cases q with
  | none => rfl
  | some md => cases md; simp only [qO, mdO, lit, Bool.false_and, Bool.not_false, Bool.and_true, Option.map_some]
theorem mdOK_def {m : Bool} {o : Oper} : mdOK ⟨m, none, none, []⟩ o s = true := by
  unfold mdOK rdOK
  cases rdId o s.fr <;> rfl
theorem rwO_false {ops : Array Oper} {o : Oper} : rwO false ops o = false := rfl
theorem WO_cons {q : Option Md} {ops : Array Oper} {o : Oper} {l : List Oper} : WO P X rw q ops (o :: l) k s Q = (match isCall o with
    | none => (if pureAt X.keep (qO rw q ops o) ops o s = true then (match stepQ P (rwO rw ops o) ops o s with
      | some s1 => WO P X rw q ops l k s1 Q
      | none => False) else False)
    | some c => WOc P X rw q ops o c l k s Q) := by
  cases h : isCall o with
  | none => exact WO_step h
  | some c => rfl
theorem Gv.run {g : FuncId} {args : List AV} {r : AV} (h : Gv P X g args r) : ∃ k, ∀ k', k ≤ k' → ∀ (a : List AV) (S : Obs), a.map s2 = args → a.all d2 = true → evF P X k' g a S = some (r, S) := by
  obtain ⟨hk, k, h1⟩ := h
  refine ⟨k + 1, fun k' hk' a S ha hd => ?_⟩
  obtain ⟨m, rfl⟩ : ∃ m, k' = m + 1 := ⟨k' - 1, by omega⟩
  obtain ⟨r0, S', h2, h3, rfl⟩ := h1 m (by omega)
  simp only [evF, hd, hk, Bool.not_false, Bool.and_self, if_true, ha, h2, h3]
theorem Gs.run {g : FuncId} {args : List AV} {S : Obs} {K : AV → Obs → Prop} (h : Gs P X g args S K) : ∃ k r S', (∀ k', k ≤ k' → ∀ (a : List AV), a.map t2 = args → a.all nt = true → (a.all d2 && !X.keep g) = false → evF P X k' g a S = some (r, S')) ∧ K r S' := by
  obtain ⟨k, r, S', h1, h2⟩ := h
  refine ⟨k + 1, r, S', fun k' hk' a ha hn hd => ?_, h2⟩
  obtain ⟨m, rfl⟩ : ∃ m, k' = m + 1 := ⟨k' - 1, by omega⟩
  simp only [evF, hd, hn, Bool.false_eq_true, if_false, if_true, ha, h1 m (by omega)]
/-- A call of a function on values alone. -/
theorem WO_call {q : Option Md} {ops : Array Oper} {o : Oper} {l : List Oper} {f : Operand} {args : List Operand} {g : FuncId} {cap : List AV} {r : AV} (h : isCall o = some (f, args)) (hw : wantA ops o s.fr = some true) (hf : opd s.fr f = .fn g cap) (hc : cap.all capOk = true)
    (ha : (args.map (opd s.fr) ++ cap).all d2 = true) (hg : Gv P X g ((args.map (opd s.fr) ++ cap).map s2) r) (hk : WO P X rw q ops l k ⟨put s.fr o.dst r, s.S, s.T⟩ Q) : WOc P X rw q ops o (f, args) l k s Q := by
  show WO P X rw q ops (o :: l) k s Q
  have hkp := hg.1
  have h1d : d3 r = true ∧ s3 r = r := by
    obtain ⟨_, k, h⟩ := hg
    obtain ⟨r0, S', _, h4, rfl⟩ := h k (Nat.le_refl _)
    exact ⟨d3_s3 h4, s3_idem r0⟩
  obtain ⟨n1, h1⟩ := hg.run
  obtain ⟨n2, x', s', h2, hq⟩ := hk
  refine ⟨max n1 n2, x', s', fun n' hn' => ?_, hq⟩
  have h3 := h1 n' (by omega) _ s.S rfl ha
  have h3T : callT (evF P X n') g (args.map (opd s.fr) ++ cap) s = some (r, s.S, s.T) := by
    have ha2 : ((args.map (opd s.fr) ++ cap).map s2).all d2 = true := by rw [List.all_map]; exact List.all_eq_true.mpr fun z hz => d2_s2 (List.all_eq_true.mp ha z hz)
    have hs2 : ((args.map (opd s.fr) ++ cap).map s2).map s2 = (args.map (opd s.fr) ++ cap).map s2 := by rw [List.map_map]; exact List.map_congr_left fun x _ => s2_idem x
    have h4 := h1 n' (by omega) _ [] hs2 ha2
    unfold callT
    rw [if_pos ha, h4]
    obtain ⟨hd, hss⟩ := h1d
    simp only [hd, if_true, hss]
  have hp : pureAt X.keep (qO rw q ops o) ops o s = true := by
    cases q with
    | none => rfl
    | some m => unfold pureAt qO; simp only [Option.map, h, hf, hw, ha, hkp]; rfl
  have he : evG P (evF P X n') rw ops o s = some ⟨put s.fr o.dst r, s.S, s.T⟩ := by
    unfold evG exO run1
    simp only [hw, if_true, h, hf, hc, h3, h3T]
    split <;> rfl
  have hpost : postAt q o s ⟨put s.fr o.dst r, s.S, s.T⟩ := fun _ _ _ => ⟨[], (List.append_nil _).symm⟩
  simp only [evOpsQ, hp, he, if_true, if_pos hpost]
  exact h2 n' (by omega)
/-- A call that makes objects alone. -/
theorem WO_calln {md : Md} {ops : Array Oper} {o : Oper} {l : List Oper} {args : List Operand} {g : FuncId} {b : Nat} (h : isCall o = some (.func g, args)) (hw : wantA ops o s.fr = some true) (hnw : md.nw.contains g = true) (hb : md.bd = some b) (hle : b ≤ s.S.length)
    (ha : ((args.map (opd s.fr) ++ []).all d2 && !X.keep g) = false) (hn : (args.map (opd s.fr) ++ []).all nt = true) (hg : Gs P X g ((args.map (opd s.fr) ++ []).map t2) s.S fun r S' => (∃ J, S' = s.S ++ J) ∧ WO P X rw (some md) ops l k ⟨put s.fr o.dst r, S', s.T⟩ Q) (htv : TVm.tv = false := by rfl) : WOc P X rw (some md) ops o (.func g, args) l k s Q := by
  show WO P X rw (some md) ops (o :: l) k s Q
  obtain ⟨n1, r, S', h1, hJ, n2, x', s', h2, hq⟩ := hg.run
  refine ⟨max n1 n2, x', s', fun n' hn' => ?_, hq⟩
  have h3 := h1 n' (by omega) _ rfl hn ha
  have hf : opd s.fr (.func g) = .fn g [] := rfl
  have hp : pureAt X.keep (qO rw (some md) ops o) ops o s = true := by
    have hnw2 : nwOK (mdO rw md ops o) o s = true := by
      unfold nwOK isNw mdO
      simp only [h, hnw, hb, decide_eq_true hle, Bool.and_self]
    unfold pureAt qO
    simp only [Option.map, h, hf, hw, hnw2, Bool.or_true]
  have he : evG P (evF P X n') rw ops o s = some ⟨put s.fr o.dst r, S', s.T⟩ := by
    unfold evG exO run1
    simp only [hw, if_true, h, hf, h3, htv, Bool.false_eq_true, if_false]; rfl
  have hpost : postAt (some md) o s ⟨put s.fr o.dst r, S', s.T⟩ := fun _ _ _ => hJ
  simp only [evOpsQ, hp, he, if_true, if_pos hpost]
  exact h2 n' (by omega)
/-- A call of a function that has to do with objects. -/
theorem WO_calls {ops : Array Oper} {o : Oper} {l : List Oper} {f : Operand} {args : List Operand} {g : FuncId} {cap : List AV} (h : isCall o = some (f, args)) (hw : wantA ops o s.fr = some true) (hf : opd s.fr f = .fn g cap) (hc : cap.all capOk = true)
    (ha : ((args.map (opd s.fr) ++ cap).all d2 && !X.keep g) = false) (hn : (args.map (opd s.fr) ++ cap).all nt = true) (hg : Gs P X g ((args.map (opd s.fr) ++ cap).map t2) s.S fun r S' => WO P X rw none ops l k ⟨put s.fr o.dst r, S', s.T⟩ Q) (htv : TVm.tv = false := by rfl) : WOc P X rw none ops o (f, args) l k s Q := by
  show WO P X rw none ops (o :: l) k s Q
  obtain ⟨n1, r, S', h1, n2, x', s', h2, hq⟩ := hg.run
  refine ⟨max n1 n2, x', s', fun n' hn' => ?_, hq⟩
  have h3 := h1 n' (by omega) _ rfl hn ha
  have he : evG P (evF P X n') rw ops o s = some ⟨put s.fr o.dst r, S', s.T⟩ := by
    unfold evG exO run1
    simp only [hw, if_true, h, hf, hc, h3, htv, Bool.false_eq_true, if_false]; rfl
  have hpost : postAt none o s ⟨put s.fr o.dst r, S', s.T⟩ := fun _ h _ => by cases h
  simp only [evOpsQ, he, qO_none, pureAt_none, if_true, if_pos hpost]
  exact h2 n' (by omega)
/-- A call that is not made. -/
theorem WO_not {q : Option Md} {ops : Array Oper} {o : Oper} {c : Operand × List Operand} {l : List Oper} (hw : wantA ops o s.fr = some false) (hk : WO P X rw q ops l k ⟨put s.fr o.dst (.tup []), s.S, s.T⟩ Q) : WOc P X rw q ops o c l k s Q := by
  show WO P X rw q ops (o :: l) k s Q
  obtain ⟨n2, x', s', h2, hq⟩ := hk
  refine ⟨n2, x', s', fun n' hn' => ?_, hq⟩
  have he : evG P (evF P X n') rw ops o s = some ⟨put s.fr o.dst (.tup []), s.S, s.T⟩ := by
    unfold evG exO
    simp only [hw, Bool.false_eq_true, if_false]; rfl
  have hqp : pureAt X.keep (qO rw q ops o) ops o s = true := by
    cases q with
    | none => rfl
    | some m => simp [pureAt, qO, hw]
  have hpost : postAt q o s ⟨put s.fr o.dst (.tup []), s.S, s.T⟩ := fun _ _ _ => ⟨[], (List.append_nil _).symm⟩
  simp only [evOpsQ, he, hqp, if_true, if_pos hpost]
  exact h2 n' (by omega)
theorem evOpsQ_none {cf : CallF} {kp : FuncId → Bool} {ops : Array Oper} : ∀ (l : List Oper) (s : St), evOpsQ P cf kp rw none ops l s = evOps P cf rw ops l s
  | [], s => rfl
  | o :: l, s => by
    simp only [evOpsQ, evOps, qO_none, pureAt_none, if_true]
    cases evG P cf rw ops o s with
    | none => rfl
    | some s1 =>
      have hpost : postAt none o s s1 := fun _ h _ => by cases h
      simp only [if_pos hpost]
      exact evOpsQ_none l s1
theorem W_region {id : Nat} {ops : Array Oper} : W P X rw (.c (.region id ops false) :: k) s Q = WO P X rw none ops ops.toList k s Q := by
  unfold W WX WO
  have e : ∀ cf kp n, runK P cf kp rw n (.c (.region id ops false) :: k) .normal s = (match evOpsQ P cf kp rw none ops ops.toList s with | some s1 => runK P cf kp rw n k .normal s1 | none => none) := by
    intro cf kp n
    simp only [runK, evC, evR, Bool.false_eq_true, if_false, evOpsQ_none]
    cases evOps P cf rw ops ops.toList s <;> rfl
  simp only [e]
def KC (md : Md) : Kd → Cls → Prop
  | .q, c => c = .quiet
  | .r, c => c = .quiet ∨ ∃ id, c = .reads id ∧ rdOK md (some id) = true
  | .m, c => c = .quiet ∨ ∃ n, c = .makes n ∧ (∀ l, md.lt = some l → l < n) ∧ ∀ b, md.bd = some b → b ≤ n
  | .c, c => c = .quiet ∨ c = .chain
  | .s, c => c = .quiet ∨ ∃ id, c = .writes id ∧ md.lt = some id
  | .n, c => c = .quiet ∨ ∃ n b, c = .news n ∧ md.bd = some b ∧ b ≤ n
  | .w, _ => True
theorem compat_quiet (c : Cls) : compat c .quiet = true := by cases c <;> rfl
theorem quiet_compat (c : Cls) : compat .quiet c = true := by cases c <;> rfl
theorem rdOK_lt {md : Md} {i l : Nat} (h : rdOK md (some i) = true) (hl : md.lt = some l) : i ≠ l := by
  unfold rdOK at h
  simp only [hl, Bool.and_eq_true, bne_iff_ne, ne_eq] at h
  exact fun e => h.1 e.symm
theorem rdOK_bd {md : Md} {i b : Nat} (h : rdOK md (some i) = true) (hb : md.bd = some b) : i < b := by
  unfold rdOK at h
  simp only [hb, Bool.and_eq_true, decide_eq_true_eq] at h
  exact h.2
theorem KC.compat {md : Md} {k k' : Kd} {c c' : Cls} (h : KC md k c) (h' : KC md k' c') (hk : kcompat md k k' = true) : Ev.compat c c' = true := by
  cases k <;> cases k' <;> first | (cases hk; done) | skip
  all_goals simp only [KC] at h h'
  all_goals (first | (subst h; exact quiet_compat _) | (subst h'; exact compat_quiet _) | skip)
  all_goals (rcases h with rfl | h <;> first | exact quiet_compat _ | skip)
  all_goals (rcases h' with rfl | h' <;> first | exact compat_quiet _ | skip)
  case r.r => obtain ⟨a, rfl, _⟩ := h; obtain ⟨b, rfl, _⟩ := h'; rfl
  case r.c => obtain ⟨a, rfl, _⟩ := h; subst h'; rfl
  case c.r => subst h; obtain ⟨a, rfl, _⟩ := h'; rfl
  case m.c => obtain ⟨a, rfl, _⟩ := h; subst h'; rfl
  case c.m => subst h; obtain ⟨a, rfl, _⟩ := h'; rfl
  case r.s => obtain ⟨a, rfl, h1⟩ := h; obtain ⟨l, rfl, h2⟩ := h'; exact decide_eq_true (rdOK_lt h1 h2)
  case s.r => obtain ⟨a, rfl, h1⟩ := h'; obtain ⟨l, rfl, h2⟩ := h; exact decide_eq_true (Ne.symm (rdOK_lt h1 h2))
  case r.m =>
    obtain ⟨a, rfl, h1⟩ := h
    obtain ⟨n, rfl, _, h3⟩ := h'
    cases hb : md.bd with
    | none => simp only [kcompat, hb] at hk; cases hk
    | some b => exact decide_eq_true (Nat.lt_of_lt_of_le (rdOK_bd h1 hb) (h3 b hb))
  case m.r =>
    obtain ⟨a, rfl, h1⟩ := h'
    obtain ⟨n, rfl, _, h3⟩ := h
    cases hb : md.bd with
    | none => simp only [kcompat, hb] at hk; cases hk
    | some b => exact decide_eq_true (Nat.lt_of_lt_of_le (rdOK_bd h1 hb) (h3 b hb))
  case m.s => obtain ⟨a, rfl, h1, _⟩ := h; obtain ⟨l, rfl, h2⟩ := h'; exact decide_eq_true (h1 l h2)
  case s.m => obtain ⟨a, rfl, h1, _⟩ := h'; obtain ⟨l, rfl, h2⟩ := h; exact decide_eq_true (h1 l h2)
  case s.c => obtain ⟨l, rfl, h2⟩ := h; subst h'; rfl
  case c.s => obtain ⟨l, rfl, h2⟩ := h'; subst h; rfl
  case r.n => obtain ⟨a, rfl, h1⟩ := h; obtain ⟨n, b, rfl, h2, h3⟩ := h'; exact decide_eq_true (Nat.lt_of_lt_of_le (rdOK_bd h1 h2) h3)
  case n.r => obtain ⟨a, rfl, h1⟩ := h'; obtain ⟨n, b, rfl, h2, h3⟩ := h; exact decide_eq_true (Nat.lt_of_lt_of_le (rdOK_bd h1 h2) h3)
  case n.c => obtain ⟨n, b, rfl, h2, h3⟩ := h; subst h'; rfl
  case c.n => obtain ⟨n, b, rfl, h2, h3⟩ := h'; subst h; rfl
theorem cls_kind {kp : FuncId → Bool} {md : Md} {ops : Array Oper} {o : Oper} {s s' : St} (hp : pureAt kp (some md) ops o s = true) (hpo : isNw md o = true → ∃ J, s'.S = s.S ++ J) (hc : ∀ f args, isCall o = some (f, args) → wantA ops o s.fr = some true → ∃ g cap, opd s.fr f = .fn g cap) :
    KC md (kind rw md o) (clsX kp rw ops o s s') := by
  unfold clsX
  have hq : cls kp rw ops o s = .quiet → KC md (kind rw md o) (upX (cls kp rw ops o s) s.S s'.S) := by
    intro h
    rw [h]
    show KC md (kind rw md o) .quiet
    cases kind rw md o <;> first | rfl | exact .inl rfl | trivial
  cases hw : wantA ops o s.fr with
  | none => apply hq; unfold cls; simp only [hw]
  | some b =>
    cases b with
    | false => apply hq; unfold cls; simp only [hw]
    | true =>
      cases hic : isCall o with
      | some p =>
        obtain ⟨f, args⟩ := p
        obtain ⟨g, cap, hf⟩ := hc f args hic hw
        unfold pureAt at hp
        simp only [hw, hic, hf] at hp
        have hp' : (((args.map (opd s.fr) ++ cap).all d2 && !kp g) || nwOK md o s) = true := by simpa using hp
        by_cases hpu : ((args.map (opd s.fr) ++ cap).all d2 && !kp g) = true
        · apply hq
          unfold cls
          simp only [hw, hic, hf, hpu, if_true]
        · have hcl : cls kp rw ops o s = .call := by
            unfold cls
            simp only [hw, hic, hf, if_neg hpu]
          have hpu2 : ((args.map (opd s.fr) ++ cap).all d2 && !kp g) = false := by simpa using hpu
          rw [hpu2, Bool.false_or] at hp'
          unfold nwOK at hp'
          rw [Bool.and_eq_true] at hp'
          obtain ⟨h1, h2⟩ := hp'
          have hk : kind rw md o = .n := by unfold kind; rw [if_pos h1]
          rw [hcl, hk]
          have hx : upX .call s.S s'.S = .news s.S.length := by simp only [upX, if_pos (hpo h1)]
          rw [hx]
          cases hb : md.bd with
          | none => rw [hb] at h2; cases h2
          | some b => rw [hb] at h2; exact .inr ⟨_, b, rfl, hb, of_decide_eq_true h2⟩
      | none =>
        have hnn : isNw md o = false := by unfold isNw; simp only [hic]
        have hknd : kind rw md o = (match o.op with
          | .load _ _ => .r
          | .alloc _ => .m
          | .box _ _ => .m
          | .store _ _ _ => if md.lt.isSome = true then .s else .w
          | .indexAddr _ _ _ => if md.m = true then .r else .q
          | .lookup _ _ _ _ => .r
          | .makeSlice _ _ _ => .w
          | .buildSlice _ n _ => if (rw && n != 0) = true then .w else .q
          | .makeMap _ _ => .w
          | .insert _ _ _ _ => .w
          | .mapUpdate _ _ _ _ => .w
          | .range _ _ => .w
          | .next _ _ => .w
          | _ => match isApp o with
            | some _ => if (rw || md.m) = true then .w else .c
            | none => match isDel o with
              | some _ => .w
              | none => match isClr o with
                | some _ => .w
                | none => match isLen o with
                | some _ => if md.m = true then .r else .q
                | none => .q : Kd) := by
          unfold kind
          rw [if_neg (by rw [hnn]; decide)]
        unfold pureAt at hp
        simp only [hw, hic] at hp
        have hpa : ((md.m || match o.op with
            | .indexAddr _ x _ => !isMsA (opd s.fr x)
            | _ => match isApp o with
              | some (a, x, _) => isSl (opd s.fr a) && isSl (opd s.fr x)
              | none => match isLen o with
                | some (x, _) => !isMpA (opd s.fr x)
                | none => true) && mdOK md o s) = true := by simpa using hp
        rw [Bool.and_eq_true] at hpa
        obtain ⟨hp2, hok⟩ := hpa
        unfold mdOK at hok
        rw [Bool.and_eq_true] at hok
        obtain ⟨hrd, hwr⟩ := hok
        rw [Bool.and_eq_true] at hwr
        obtain ⟨hwr, hmk⟩ := hwr
        have wild : kind rw md o = .w → KC md (kind rw md o) (upX (cls kp rw ops o s) s.S s'.S) := fun h => by rw [h]; trivial
        have rest : plainOp o.op = true → KC md (kind rw md o) (upX (cls kp rw ops o s) s.S s'.S) := by
          intro hpl
          have hk : kind rw md o = (match isApp o with
            | some _ => if (rw || md.m) = true then .w else .c
            | none => match isDel o with
              | some _ => .w
              | none => match isClr o with
                | some _ => .w
                | none => match isLen o with
                | some _ => if md.m = true then .r else .q
                | none => .q) := by
            rw [hknd]
            obtain ⟨dst, op, ty, pos, after, guard⟩ := o
            cases op <;> first | rfl | cases hpl
          have hcl : cls kp rw ops o s = (match isApp o with
            | some (a, x, _) => if (!rw && isSl (opd s.fr a) && isSl (opd s.fr x)) = true then .chain else .all
            | none => match isDel o with
              | some _ => .all
              | none => match isClr o with
                | some _ => .all
                | none => match isLen o with
                | some (m, _) => match opd s.fr m with
                  | .mp id => .reads id
                  | _ => .quiet
                | none => .quiet) := by
            obtain ⟨dst, op, ty, pos, after, guard⟩ := o
            unfold cls
            simp only [hw, hic]
            cases op <;> first | rfl | cases hpl
          have hp3 : (md.m || match isApp o with
              | some (a, x, _) => isSl (opd s.fr a) && isSl (opd s.fr x)
              | none => match isLen o with
                | some (x, _) => !isMpA (opd s.fr x)
                | none => true) = true := by
            obtain ⟨dst, op, ty, pos, after, guard⟩ := o
            cases op <;> first | exact hp2 | cases hpl
          have hrd3 : rdOK md (match isLen o with
              | some (x, _) => (match opd s.fr x with
                | .mp id => some id
                | _ => none)
              | none => none) = true := by
            obtain ⟨dst, op, ty, pos, after, guard⟩ := o
            cases op <;> first | exact hrd | cases hpl
          rw [hk, hcl]
          cases ha : isApp o with
          | some q =>
            obtain ⟨a, x, t⟩ := q
            simp only [ha] at hp3 ⊢
            by_cases hrm : (rw || md.m) = true
            · rw [if_pos hrm]; trivial
            · rw [if_neg hrm]
              have hrm2 : (rw || md.m) = false := by simpa using hrm
              rw [Bool.or_eq_false_iff] at hrm2
              obtain ⟨hrw, hm⟩ := hrm2
              rw [hm, Bool.false_or] at hp3
              rw [if_pos (by rw [hrw]; simpa using hp3)]
              exact .inr rfl
          | none =>
            simp only [ha] at hp3 ⊢
            cases hd : isDel o with
            | some q => trivial
            | none =>
              simp only []
              cases hck : isClr o with
              | some q => trivial
              | none =>
              simp only []
              cases hl : isLen o with
              | none => rfl
              | some q =>
                obtain ⟨x, t⟩ := q
                simp only [hl] at hp3 hrd3 ⊢
                cases hmm : md.m with
                | true =>
                  simp only [if_true]
                  cases hv : opd s.fr x <;> rw [hv] at hrd3 <;> first | exact .inl rfl | exact .inr ⟨_, rfl, hrd3⟩
                | false =>
                  simp only [hmm, Bool.false_or] at hp3
                  cases hv : opd s.fr x <;> first | rfl | (rw [hv] at hp3; simp [isMpA] at hp3)
        cases ho : o.op with
        | load t y =>
          have h2 : kind rw md o = .r := by rw [hknd]; simp only [ho]
          unfold rdId at hrd
          simp only [ho] at hrd
          cases hy : opd s.fr y with
          | ptr id off =>
            have h1 : cls kp rw ops o s = .reads id := by unfold cls; simp only [hw, hic, ho, hy]
            rw [hy] at hrd
            rw [h1, h2]; exact .inr ⟨id, rfl, hrd⟩
          | ep id ver i off =>
            have h1 : cls kp rw ops o s = .reads id := by unfold cls; simp only [hw, hic, ho, hy]
            rw [hy] at hrd
            rw [h1, h2]; exact .inr ⟨id, rfl, hrd⟩
          | _ => apply hq; unfold cls; simp only [hw, hic, ho, hy]
        | alloc t =>
          have h1 : cls kp rw ops o s = .makes s.S.length := by unfold cls; simp only [hw, hic, ho]
          have h2 : kind rw md o = .m := by rw [hknd]; simp only [ho]
          unfold wrOK at hwr
          unfold mkOK at hmk
          simp only [ho] at hwr hmk
          rw [h1, h2]; exact .inr ⟨_, rfl, fun l hl => by rw [hl] at hwr; exact of_decide_eq_true hwr, fun b hb => by rw [hb] at hmk; exact of_decide_eq_true hmk⟩
        | box t y =>
          have h1 : cls kp rw ops o s = .makes s.S.length := by unfold cls; simp only [hw, hic, ho]
          have h2 : kind rw md o = .m := by rw [hknd]; simp only [ho]
          unfold wrOK at hwr
          unfold mkOK at hmk
          simp only [ho] at hwr hmk
          rw [h1, h2]; exact .inr ⟨_, rfl, fun l hl => by rw [hl] at hwr; exact of_decide_eq_true hwr, fun b hb => by rw [hb] at hmk; exact of_decide_eq_true hmk⟩
        | store t y z =>
          unfold wrOK at hwr
          simp only [ho] at hwr
          cases hl : md.lt with
          | none => exact wild (by rw [hknd]; simp only [ho, hl]; rfl)
          | some l =>
            rw [hl] at hwr
            have h2 : kind rw md o = .s := by rw [hknd]; simp only [ho, hl]; rfl
            cases hy : opd s.fr y with
            | ptr id off =>
              have h1 : cls kp rw ops o s = .writes id := by unfold cls; simp only [hw, hic, ho, hy]
              simp only [hy] at hwr
              rw [h1, h2]; exact .inr ⟨id, rfl, by rw [hl, eq_of_beq hwr]⟩
            | _ => simp only [hy] at hwr; cases hwr
        | indexAddr t y i =>
          have h1 : cls kp rw ops o s = (match opd s.fr y with
            | .ms id _ _ => .reads id
            | _ => .quiet) := by unfold cls; simp only [hw, hic, ho]; rfl
          have h2 : kind rw md o = if md.m = true then .r else .q := by rw [hknd]; simp only [ho]
          simp only [ho] at hp2
          unfold rdId at hrd
          simp only [ho] at hrd
          rw [h1, h2]
          cases hmm : md.m with
          | true =>
            simp only [if_true]
            cases hv : opd s.fr y <;> rw [hv] at hrd <;> first | exact .inl rfl | exact .inr ⟨_, rfl, hrd⟩
          | false =>
            simp only [hmm, Bool.false_or] at hp2
            cases hv : opd s.fr y <;> first | rfl | (rw [hv] at hp2; simp [isMsA] at hp2)
        | lookup t y i ok =>
          have h1 : cls kp rw ops o s = (match opd s.fr y with
            | .mp id => .reads id
            | _ => .quiet) := by unfold cls; simp only [hw, hic, ho]; rfl
          have h2 : kind rw md o = .r := by rw [hknd]; simp only [ho]
          unfold rdId at hrd
          simp only [ho] at hrd
          rw [h1, h2]
          cases hv : opd s.fr y <;> rw [hv] at hrd <;> first | exact .inl rfl | exact .inr ⟨_, rfl, hrd⟩
        | makeSlice t y z => exact wild (by rw [hknd]; simp only [ho])
        | buildSlice t n ps =>
          cases hrw : (rw && n != 0) with
          | true => exact wild (by rw [hknd]; simp only [ho, hrw, if_true])
          | false =>
            have h1 : cls kp rw ops o s = .quiet := by unfold cls; simp only [hw, hic, ho, hrw, Bool.false_eq_true, if_false]
            exact hq h1
        | makeMap t y => exact wild (by rw [hknd]; simp only [ho])
        | insert t y z q => exact wild (by rw [hknd]; simp only [ho])
        | mapUpdate t y z q => exact wild (by rw [hknd]; simp only [ho])
        | range t y => exact wild (by rw [hknd]; simp only [ho])
        | next t y => exact wild (by rw [hknd]; simp only [ho])
        | _ => exact rest (by rw [ho]; rfl)
theorem KC_m {md : Md} {ops : Array Oper} {o : Oper} {k : Kd} {c : Cls} (h : KC (mdO rw md ops o) k c) : KC md k c := by cases k <;> exact h
theorem evD_of {cf : CallF} {kp : FuncId → Bool} {md : Md} {ops : Array Oper} {deps : List (List Nat)} (hd : ∀ j, j < ops.size → ∀ i, i < j → ((deps.getD j []).contains i || (kcompat md (kindO rw md ops (ops.getD i default)) (kindO rw md ops (ops.getD j default)) && apart ops (ops.getD i default) (ops.getD j default))) = true) :
    ∀ (l : List Oper) (i : Nat) {s s' : St}, ops.toList.drop i = l → evOpsQ P cf kp rw (some md) ops l s = some s' →
      ∃ log, evD P cf kp rw ops deps (List.range' i l.length) s = some (s', log) ∧ ∀ p ∈ log, i ≤ p.1 ∧ p.1 < ops.size ∧ KC md (kindO rw md ops (ops.getD p.1 default)) p.2
  | [], i, s, s', hl, h => by
    simp only [evOpsQ, Option.some.injEq] at h
    subst h
    exact ⟨[], rfl, fun p hp => absurd hp (by simp)⟩
  | o :: l, i, s, s', hl, h => by
    have hi : i < ops.size := by
      rcases Nat.lt_or_ge i ops.size with h | h
      · exact h
      · rw [List.drop_eq_nil_of_le (by simpa using h)] at hl; cases hl
    have hoi : ops[i]? = some o := by
      have := congrArg List.head? hl
      simpa [List.head?_drop] using this
    have hgo : ops.getD i default = o := by rw [Array.getD_eq_getD_getElem?, hoi]; rfl
    simp only [evOpsQ] at h
    split at h
    case isFalse => cases h
    rename_i hp
    split at h
    case h_2 => cases h
    rename_i s1 h1
    split at h
    case isFalse => cases h
    rename_i hpo
    obtain ⟨log, h4, h6⟩ := evD_of hd l (i + 1) (by rw [← List.tail_drop, hl]; rfl) h
    have hck := KC_m (cls_kind (rw := rwO rw ops o) (s' := s1) hp (fun hn => hpo md rfl (by
      have e : isNw (mdO rw md ops o) o = isNw md o := by unfold isNw mdO; rfl
      rwa [e] at hn)) (fun f args hic hwt => by
      unfold evG exO run1 at h1
      simp only [hwt, if_true, hic] at h1
      cases hf : opd s.fr f with
      | fn g cap => exact ⟨g, cap, rfl⟩
      | _ => rw [hf] at h1; simp at h1))
    refine ⟨(i, clsX kp (rwO rw ops o) ops o s s1) :: log, ?_, fun p hp => ?_⟩
    · rw [List.length_cons, List.range'_succ]
      simp only [evD, hoi, h1, h4]
      rw [if_pos]
      refine List.all_eq_true.mpr fun p hp => ?_
      obtain ⟨p1, p2, p3⟩ := h6 p hp
      have hdd := hd p.1 p2 i (by omega)
      cases hcon : (deps.getD p.1 []).contains i with
      | true => rfl
      | false =>
        rw [hcon, Bool.false_or, hgo, Bool.and_eq_true] at hdd
        rw [Bool.false_or, Bool.and_eq_true]
        exact ⟨hck.compat p3 hdd.1, hdd.2⟩
    · rcases List.mem_cons.1 hp with rfl | hp
      · exact ⟨Nat.le_refl _, hi, by simp only [hgo]; exact hck⟩
      · obtain ⟨p1, p2, p3⟩ := h6 p hp
        exact ⟨by omega, p2, p3⟩
/-- A region that draws its order. -/
theorem W_drawL (md : Md) {id : Nat} {ops : Array Oper} (hm : P.follows .mixedOrders = true) (hok : drawOK rw md ops = true) (h : WO P X rw (some md) ops ops.toList k s Q) : W P X rw (.c (.region id ops true) :: k) s Q := by
  obtain ⟨n, x', s', h1, hq⟩ := h
  refine ⟨n, x', s', fun n' hn' => ?_, hq⟩
  have h2 := h1 n' hn'
  unfold drawOK at hok
  simp only [Bool.and_eq_true, List.all_eq_true, List.mem_range] at hok
  obtain ⟨hf, hd⟩ := hok
  simp only [runK, evC, evR, if_true]
  cases h3 : evOpsQ P (evF P X n') X.keep rw (some md) ops ops.toList s with
  | none => rw [h3] at h2; cases h2
  | some s1 =>
    rw [h3] at h2
    obtain ⟨log, h4, _⟩ := evD_of (deps := depsOf ops 0 [] ops.toList) (fun j hj i hi => by
      have := hd j hj i hi
      simpa using this) ops.toList 0 rfl h3
    rw [Array.length_toList, ← List.range_eq_range'] at h4
    simp only [h4, hm, hf, Bool.and_self, if_true]
    exact h2
theorem W_drawM (m : Bool) {id : Nat} {ops : Array Oper} (hm : P.follows .mixedOrders = true) (hok : drawOK rw ⟨m, none, none, []⟩ ops = true) (h : WO P X rw (some ⟨m, none, none, []⟩) ops ops.toList k s Q) : W P X rw (.c (.region id ops true) :: k) s Q := W_drawL _ hm hok h
theorem W_draw {id : Nat} {ops : Array Oper} (hm : P.follows .mixedOrders = true) (hok : drawOK rw ⟨false, none, none, []⟩ ops = true) (h : WO P X rw (some ⟨false, none, none, []⟩) ops ops.toList k s Q) : W P X rw (.c (.region id ops true) :: k) s Q := W_drawL _ hm hok h
/-- A region whose last store is late: to object l. -/
theorem W_drawS (l : Nat) {id : Nat} {ops : Array Oper} (hm : P.follows .mixedOrders = true) (hok : drawOK rw ⟨true, some l, none, []⟩ ops = true) (h : WO P X rw (some ⟨true, some l, none, []⟩) ops ops.toList k s Q) : W P X rw (.c (.region id ops true) :: k) s Q := W_drawL _ hm hok h
/-! ### Chains -/
/-- A slice that may be appended to. -/
def App (P : Program) (e : TypeId) (T : Toks) (v : AV) (l : List AV) : Prop := (v = .sl .nil [] ∧ l = []) ∨ (v = .sl .full l ∧ uni ((tsz P e).getD 0) l = true) ∨ ∃ τ, v = .sl (.own τ) l ∧ T[τ]? = some (some e)
theorem App.nil {e : TypeId} {T : Toks} : App P e T (.sl .nil []) [] := .inl ⟨rfl, rfl⟩
/-- An append: what it gives may be appended to. -/
theorem App.goA {e t : TypeId} {T : Toks} {v : AV} {l m : List AV} {o : Tok} {n b : Nat} {z : List AV} (h : App P e T v l) (ht : tel P t = some e) (hn : tsz P e = some n) (hb : tby P e = some b) (hz : tzero P e = some z)
    (hc : (decide (0 < n) && (z.length == n && (uni n m && m.all d2))) = true) (hs : (l.length + m.length) * b ≤ 140737488355328) (hl : l.length + m.length ≤ maxLen) :
    ∃ v' T', appA P t v (.sl o m) T = some (v', T') ∧ App P e T' v' (l ++ m) := by
  simp only [Bool.and_eq_true, decide_eq_true_eq, beq_iff_eq] at hc
  obtain ⟨c1, c2, c3, c4⟩ := hc
  rcases h with ⟨rfl, rfl⟩ | ⟨rfl, hu⟩ | ⟨τ, rfl, hτ⟩
  · refine ⟨.sl (.own T.length) m, T ++ [some e], ?_, .inr (.inr ⟨T.length, by simp, by simp⟩)⟩
    simp only [appA, ht, hn, hb, hz]
    rw [if_pos ⟨c1, c2, c3, c4, hs, hl⟩]
    simp
  · refine ⟨.sl (.own T.length) (l ++ m), T ++ [some e], ?_, .inr (.inr ⟨T.length, rfl, by simp⟩)⟩
    simp only [appA, ht, hn, hb, hz]
    rw [if_pos ⟨c1, c2, c3, c4, hs, hl⟩]
    simp only [hn, Option.getD_some] at hu
    simp [hu]
  · refine ⟨.sl (.own T.length) (l ++ m), T.set τ none ++ [some e], ?_, .inr (.inr ⟨T.length, rfl, by simp⟩)⟩
    simp only [appA, ht, hn, hb, hz]
    rw [if_pos ⟨c1, c2, c3, c4, hs, hl⟩]
    simp [hτ]
theorem App.go {e t : TypeId} {T : Toks} {v : AV} {l m : List AV} {o : Tok} {n b : Nat} {z : List AV} (h : App P e T v l) (ht : tel P t = some e) (hn : tsz P e = some n) (hb : tby P e = some b) (hz : tzero P e = some z)
    (hc : (decide (0 < n) && (z.length == n && (uni n m && m.all d2))) = true) (hs : (l.length + m.length) * b ≤ 140737488355328) (hl : l.length + m.length ≤ maxLen) :
    ∃ v' T', (∀ S, appX P false t v (.sl o m) S T = some (v', S, T')) ∧ App P e T' v' (l ++ m) := by
  obtain ⟨v', T', h1, h2⟩ := h.goA (o := o) ht hn hb hz hc hs hl
  refine ⟨v', T', fun S => ?_, h2⟩
  obtain ⟨o', rfl⟩ : ∃ o', v = .sl o' l := by rcases h with ⟨rfl, rfl⟩ | ⟨rfl, _⟩ | ⟨τ, rfl, _⟩ <;> exact ⟨_, rfl⟩
  simp [appX, isSl, h1]
theorem App.s0 {e : TypeId} {T : Toks} {v : AV} {l : List AV} (h : App P e T v l) : Ev.s0 v = .sl .no l := by
  rcases h with ⟨rfl, rfl⟩ | ⟨rfl, _⟩ | ⟨τ, rfl, _⟩ <;> rfl
theorem App.is {e : TypeId} {T : Toks} {v : AV} {l : List AV} (h : App P e T v l) : ∃ o, v = .sl o l := by
  rcases h with ⟨rfl, rfl⟩ | ⟨rfl, _⟩ | ⟨τ, rfl, _⟩ <;> exact ⟨_, rfl⟩
/-! ### Functions -/
theorem d0_fz {S : Obs} {n : Nat} {a : AV} (h : d0 a = true) : fz0 S n a = a := by cases a <;> first | rfl | cases h
theorem d1_fz {S : Obs} {n : Nat} {a : AV} (h : d1 a = true) : fz0 S n a = a := by cases a <;> first | rfl | cases h
theorem map_id' {f : AV → AV} : ∀ {l : List AV}, (∀ x ∈ l, f x = x) → l.map f = l
  | [], _ => rfl
  | a :: l, h => by rw [List.map_cons, h a (by simp), map_id' fun x hx => h x (by simp [hx])]
theorem d2_fz {S : Obs} {n : Nat} {a : AV} (h : d2 a = true) : fz2 S n a = a := by
  cases a with
  | agg cs => simp only [fz2]; rw [map_id' fun x hx => d1_fz (List.all_eq_true.mp h x hx)]
  | ms id v n => cases h
  | _ => rfl
theorem d3_fz {S : Obs} {n : Nat} {a : AV} (h : d3 a = true) : fz3 S n a = a := by
  cases a with
  | tup cs => simp only [fz3]; rw [map_id' fun x hx => d2_fz (List.all_eq_true.mp h x hx)]
  | agg cs => exact d2_fz (a := .agg cs) h
  | ms id v n => cases h
  | _ => rfl
theorem s0_t0 (a : AV) : s0 (t0 a) = s0 a := by
  cases a with
  | sl o l => cases o <;> rfl
  | _ => rfl
theorem s1_t1 (a : AV) : s1 (t1 a) = s1 a := by
  cases a with
  | fn f c => simp [s1, t1, s0_t0]
  | sl o l => cases o <;> rfl
  | _ => rfl
theorem s2_t2 (a : AV) : s2 (t2 a) = s2 a := by
  cases a with
  | agg c => simp [s2, t2, s1_t1]
  | fn f c => exact s1_t1 (.fn f c)
  | sl o l => cases o <;> rfl
  | _ => rfl
theorem s3_t3 (a : AV) : s3 (t3 a) = s3 a := by
  cases a with
  | tup c => simp [s3, t3, s2_t2]
  | agg c => exact s2_t2 (.agg c)
  | fn f c => exact s1_t1 (.fn f c)
  | sl o l => cases o <;> rfl
  | _ => rfl
theorem d0_t0 (a : AV) : d0 (t0 a) = d0 a := by
  cases a with
  | sl o l => cases o <;> rfl
  | _ => rfl
theorem all_map' {f : AV → AV} {p : AV → Bool} (h : ∀ a, p (f a) = p a) (l : List AV) : (l.map f).all p = l.all p := by
  induction l with
  | nil => rfl
  | cons a l ih => simp only [List.map_cons, List.all_cons, h, ih]
theorem d1_t1 (a : AV) : d1 (t1 a) = d1 a := by
  cases a with
  | fn f c => exact all_map' d0_t0 c
  | sl o l => cases o <;> rfl
  | _ => rfl
theorem d2_t2 (a : AV) : d2 (t2 a) = d2 a := by
  cases a with
  | agg c => exact all_map' d1_t1 c
  | fn f c => exact d1_t1 (.fn f c)
  | sl o l => cases o <;> rfl
  | _ => rfl
theorem d3_t3 (a : AV) : d3 (t3 a) = d3 a := by
  cases a with
  | tup c => exact all_map' d2_t2 c
  | agg c => exact d2_t2 (.agg c)
  | fn f c => exact d1_t1 (.fn f c)
  | sl o l => cases o <;> rfl
  | _ => rfl
end
section
attribute [local instance] offTV
variable {P : Program} {X : Prims} {rw : Bool} {Q : Ex → St → Prop} {s : St} {k : List Kx}
/-- What stands at the end of a function that has to do with objects. -/
def ResS (P : Program) (rs : List ResultVar) (kf : Bool) (S0 : Obs) (K : AV → Obs → Prop) (x : Ex) (s : St) : Prop := (x = .normal ∨ x = .ret) ∧ ∃ l, resL P s rs = some l ∧ K (fin kf S0 (rt l) s.S).1 (fin kf S0 (rt l) s.S).2
/-- A function's contract. -/
theorem gs_of {f : FuncId} {kf : Bool} (hX : X.prim f = none ∧ X.keep f = kf ∧ X.rows f = rw ∧ X.vars f = false) {fn : Func} (hf : fun? P f = some fn) {c : Code} (hc : fn.body = some c) {args : List AV} {S : Obs} {K : AV → Obs → Prop}
    (h : @W offTV P X rw [.c c] ⟨args ++ List.replicate (fn.ntmps - args.length) (.tup []), S, []⟩ (ResS P fn.results.toList kf S K)) : Gs P X f args S K := by
  obtain ⟨n, x, s', h1, hx, l, hl, hK⟩ := h
  refine ⟨n, _, _, fun n' hn' => ?_, hK⟩
  have h2 := h1 n' hn'
  simp only [runK] at h2
  unfold evB
  simp only [hX.1, hf, hX.2.1, hX.2.2.1]
  rw [hX.2.2.2]
  show @evFn offTV P (evF P X n') X.keep rw n' kf fn args S = _
  unfold evFn
  simp only [hc]
  cases h3 : @evC offTV P (evF P X n') X.keep rw n' c ⟨args ++ List.replicate (fn.ntmps - args.length) (.tup []), S, []⟩ with
  | none => rw [h3] at h2; cases h2
  | some p =>
    obtain ⟨y, s1⟩ := p
    rw [h3] at h2
    simp only [Option.some.injEq, Prod.mk.injEq] at h2
    obtain ⟨rfl, rfl⟩ := h2
    simp only [if_pos hx, hl]
    match l with
    | [] => rfl
    | [r] => rfl
    | _ :: _ :: _ => rfl
/-- What stands at the end of a function that has to do with values alone. -/
def ResV (P : Program) (rs : List ResultVar) (r : AV) (x : Ex) (s : St) : Prop := (x = .normal ∨ x = .ret) ∧ ∃ l, resL P s rs = some l ∧ d3 (rt l) = true ∧ s3 (rt l) = r
/-- .. of one that hands out rows of its own. -/
def ResM (P : Program) (rs : List ResultVar) (r : AV) (x : Ex) (s : St) : Prop := (x = .normal ∨ x = .ret) ∧ ∃ l, resL P s rs = some l ∧ d3 (fz3 s.S 0 (rt l)) = true ∧ s3 (fz3 s.S 0 (rt l)) = r
theorem gm_of {f : FuncId} (hX : X.prim f = none ∧ X.keep f = false ∧ X.rows f = rw ∧ X.vars f = false) {fn : Func} (hf : fun? P f = some fn) {c : Code} (hc : fn.body = some c) {args : List AV} {r : AV}
    (h : @W offTV P X rw [.c c] ⟨args ++ List.replicate (fn.ntmps - args.length) (.tup []), [], []⟩ (ResM P fn.results.toList r)) : Gv P X f args r := by
  obtain ⟨n0, x, s', h1, hx, l, hl, hd, hr⟩ := h
  obtain ⟨n, r', S', hn, h2, h3⟩ := gs_of (S := []) (K := fun r' _ => d3 r' = true ∧ s3 r' = r) hX hf hc ⟨n0, x, s', h1, hx, l, hl, by
    simp only [fin, Bool.false_eq_true, if_false, List.length_nil, d3_t3, s3_t3]; exact ⟨hd, hr⟩⟩
  exact ⟨hX.2.1, n, fun n' hn' => ⟨r', S', hn n' hn', h2, h3⟩⟩
/-- A function's contract on values alone. -/
theorem gv_of {f : FuncId} (hX : X.prim f = none ∧ X.keep f = false ∧ X.rows f = false ∧ X.vars f = false) {fn : Func} (hf : fun? P f = some fn) {c : Code} (hc : fn.body = some c) {args : List AV} {r : AV}
    (h : @W offTV P X false [.c c] ⟨args ++ List.replicate (fn.ntmps - args.length) (.tup []), [], []⟩ (ResV P fn.results.toList r)) : Gv P X f args r := by
  refine gm_of hX hf hc ?_
  obtain ⟨n0, x, s', h1, hx, l, hl, hd, hr⟩ := h
  exact ⟨n0, x, s', h1, hx, l, hl, by rw [d3_fz hd]; exact hd, by rw [d3_fz hd]; exact hr⟩
/-- A function's contract on values alone, where its variables keep rights to append. -/
theorem gt_of {f : FuncId} (hX : X.prim f = none ∧ X.keep f = false ∧ X.rows f = rw ∧ X.vars f = true) {fn : Func} (hf : fun? P f = some fn) {c : Code} (hc : fn.body = some c) {args : List AV} {r : AV}
    (h : @W onTV P X rw [.c c] ⟨args ++ List.replicate (fn.ntmps - args.length) (.tup []), [], []⟩ (ResV P fn.results.toList r)) : Gv P X f args r := by
  obtain ⟨n, x, s', h1, hx, l, hl, hd, hr⟩ := h
  refine ⟨hX.2.1, n, fun n' hn' => ⟨s3 (rt l), [], ?_, d3_s3 hd, by rw [s3_idem, hr]⟩⟩
  have h2 := h1 n' hn'
  simp only [runK] at h2
  unfold evB
  simp only [hX.1, hf, hX.2.1, hX.2.2.1]
  rw [hX.2.2.2]
  show @evFn onTV P (evF P X n') X.keep rw n' false fn args [] = _
  unfold evFn
  simp only [hc]
  cases h3 : @evC onTV P (evF P X n') X.keep rw n' c ⟨args ++ List.replicate (fn.ntmps - args.length) (.tup []), [], []⟩ with
  | none => rw [h3] at h2; cases h2
  | some p =>
    obtain ⟨y, s1⟩ := p
    rw [h3] at h2
    simp only [Option.some.injEq, Prod.mk.injEq] at h2
    obtain ⟨rfl, rfl⟩ := h2
    simp only [if_pos hx, hl]
    have hfT : finT [] (rt l) = some (s3 (rt l), []) := by unfold finT; rw [hd]; rfl
    match l with
    | [] => exact hfT
    | [r] => exact hfT
    | _ :: _ :: _ => exact hfT
end
end Go.Proofs.Ytplpmelpoajpdaa.Ev
namespace Go.Proofs.Ytplpmelpoajpdaa.Ev
open Go
set_option linter.unusedVariables false
set_option linter.unusedSimpArgs false
set_option maxRecDepth 100000
instance defTV : TVm := offTV
theorem tv_off : @TVm.tv offTV = false := rfl
theorem tv_def : @TVm.tv defTV = false := rfl
theorem tv_on : @TVm.tv onTV = true := rfl
theorem cellsT_off {cs : List AV} : @cellsT offTV cs = cs.map t1 := rfl
theorem cellsT_def {cs : List AV} : @cellsT defTV cs = cs.map t1 := rfl
theorem cellsT_on {cs : List AV} : @cellsT onTV cs = cs := rfl
attribute [go_sem] tv_off tv_def tv_on cellsT_off cellsT_def cellsT_on
abbrev I (n : Int) : AV := .v (.int .i64 n)
abbrev B (b : Bool) : AV := .v (.bool b)
attribute [go_sem] mdOK_def mdO qO_none qO_false rwO_false pureAt_none pureAt isSl isMsA isMpA isDel isClr isLen isConstO keyV t0 t1 t2 t3 isAgg' W_nil W_skip W_label W_b W_ret W_exit W_seq W_block W_scope WX_c WX_b WX_ret W_region W_test Wif_t Wif_f WO_nil WO_cons stepQ
attribute [go_sem] decide_true decide_false Bool.and_true Bool.true_and Bool.and_false Bool.false_and Bool.or_true Bool.true_or Bool.or_false Bool.false_or Bool.not_true Bool.not_false Bool.and_self and_true true_and and_self List.all_cons List.all_nil List.foldl_cons List.foldl_nil List.drop_succ_cons List.drop_zero List.take_succ_cons List.take_zero List.take_nil List.getElem?_map Int.toNat_natCast List.length_map beq_self_eq_true Int.natCast_nonneg or_true true_or List.getElem?_cons_zero List.getElem?_cons_succ AV.cells s0 s1 s2 s3 d0 d1 d2 d3
attribute [go_sem] ite_true if_true if_false Option.map_some Option.map_none List.replicate_succ List.replicate_zero List.cons_append List.nil_append List.length_cons List.length_nil List.set_cons_zero List.set_cons_succ List.getD_cons_zero List.getD_cons_succ List.map_nil List.map_cons
attribute [go_sem] unA mmA bndA eqA List.getElem?_toArray ge_iff_le gt_iff_lt wantA isCall core isApp coreQ put opd toAV toAV0 binA intA elA idxV fdA rdc ofC one ResV resL resA nt rt reduceCtorEq false_or
theorem wrap64_of {n : Int} (h : -9223372036854775808 ≤ n ∧ n ≤ 9223372036854775807) : IntKind.i64.wrap n = n := by
  simp [IntKind.wrap, IntKind.bits, IntKind.signed]; omega
theorem wrap_nat (i : Nat) (h : i < 9223372036854775807) : IntKind.i64.wrap ((i : Int) + 1) = ((i + 1 : Nat) : Int) := wrap64_of (by omega)
theorem uniI (l : List Int) : uni 1 (l.map I) = true := by simp [uni, AV.cells]
theorem allI (l : List Int) : (l.map I).all d2 = true := by simp [d2, d1, d0]
/-! New objects behind those that are there. -/
theorem gA {S l : Obs} {k : Nat} : (S ++ l)[S.length + k]? = l[k]? := by rw [List.getElem?_append_right (by omega)]; congr 1; omega
theorem gA0 {S l : Obs} : (S ++ l)[S.length]? = l[0]? := by rw [List.getElem?_append_right (Nat.le_refl _)]; simp
theorem sA {S l : Obs} {k : Nat} {x : Ob} : (S ++ l).set (S.length + k) x = S ++ l.set k x := by rw [List.set_append_right _ _ (by omega)]; congr 2; omega
theorem sA0 {S l : Obs} {x : Ob} : (S ++ l).set S.length x = S ++ l.set 0 x := by rw [List.set_append_right _ _ (Nat.le_refl _)]; simp
theorem gOld {S l : Obs} {i : Nat} {o : Ob} (h : S[i]? = some o) : (S ++ l)[i]? = some o := by rw [List.getElem?_append_left (List.getElem?_eq_some_iff.1 h).1]; exact h
attribute [go_sem] gA gA0 sA sA0 ResS ResM fin fz3 fz2 fz0 fzI3 fzI2 fzI killIds rowA List.flatMap_cons List.flatMap_nil
end Go.Proofs.Ytplpmelpoajpdaa.Ev
namespace Go.Proofs.Ytplpmelpoajpdaa.Ev
open Go Go.Proofs
set_option linter.unusedVariables false
set_option linter.unusedSimpArgs false
set_option maxRecDepth 100000
noncomputable abbrev P := Try.prog
theorem hmx : P.follows .mixedOrders = true := by kernel_rfl
theorem ty2 : tsz P 2 = some 1 ∧ tagg P 2 = some false ∧ tby P 2 = some 8 ∧ tzero P 2 = some [I 0] := by and_intros <;> kernel_rfl
theorem za2 : zeroA P 2 = some (I 0) ∧ isIfT P 2 = some false := by and_intros <;> kernel_rfl
theorem ty3 : tsz P 3 = some 1 ∧ tagg P 3 = some false ∧ tby P 3 = some 8 ∧ tzero P 3 = some [I 0] := by and_intros <;> kernel_rfl
theorem za3 : zeroA P 3 = some (I 0) ∧ isIfT P 3 = some false := by and_intros <;> kernel_rfl
theorem ty4 : tsz P 4 = some 1 ∧ tagg P 4 = some false ∧ tby P 4 = some 1 ∧ tzero P 4 = some [.v (.bool false)] := by and_intros <;> kernel_rfl
theorem eq4 (c : Bool) (a0 b0 : Bool) : eqN P c 10 4 (AV.v (.bool a0)) (AV.v (.bool b0)) = some (a0 == b0) := by kernel_rfl
theorem za4 : zeroA P 4 = some (.v (.bool false)) ∧ isIfT P 4 = some false := by and_intros <;> kernel_rfl
theorem ty5 : tsz P 5 = some 1 ∧ tagg P 5 = some false ∧ tby P 5 = some 1 ∧ tzero P 5 = some [.v (.int .u8 0)] := by and_intros <;> kernel_rfl
theorem za5 : zeroA P 5 = some (.v (.int .u8 0)) ∧ isIfT P 5 = some false := by and_intros <;> kernel_rfl
theorem ty9 : tsz P 9 = some 1 ∧ tagg P 9 = some false ∧ tby P 9 = some 16 ∧ tzero P 9 = some [.v (.string ⟨#[]⟩)] := by and_intros <;> kernel_rfl
theorem ty12 : tsz P 12 = some 1 ∧ tagg P 12 = some false ∧ tby P 12 = some 8 ∧ tzero P 12 = some [.v (.int .u64 0)] := by and_intros <;> kernel_rfl
theorem za12 : zeroA P 12 = some (.v (.int .u64 0)) ∧ isIfT P 12 = some false := by and_intros <;> kernel_rfl
theorem ty13 : tsz P 13 = some 2 ∧ tagg P 13 = some true ∧ tby P 13 = some 24 ∧ tzero P 13 = some [.v (.string ⟨#[]⟩), .v (.int .u64 0)] ∧ fld P 13 0 = some (0, 1, false) ∧ fld P 13 1 = some (1, 1, false) := by and_intros <;> kernel_rfl
theorem bo13 : bok P 13 = true := by kernel_rfl
theorem ty20 : tsz P 20 = some 1 ∧ tagg P 20 = some false ∧ tby P 20 = some 16 ∧ tzero P 20 = some [.v .nilIface] := by and_intros <;> kernel_rfl
theorem eq20 (t : TypeId) (x : AV) : (∀ c, eqN P c 10 20 (.ifc t x) (.v .nilIface) = some false) ∧ eqN P true 10 20 (.v .nilIface) (.v .nilIface) = some true := ⟨fun _ => by kernel_rfl, by kernel_rfl⟩
theorem ty21 : tsz P 21 = some 1 ∧ tagg P 21 = some false ∧ tby P 21 = some 4 ∧ tzero P 21 = some [.v (.int .i32 0)] := by and_intros <;> kernel_rfl
theorem za21 : zeroA P 21 = some (.v (.int .i32 0)) ∧ isIfT P 21 = some false := by and_intros <;> kernel_rfl
theorem ty22 : tsz P 22 = some 1 ∧ tagg P 22 = some false ∧ tby P 22 = some 24 ∧ tzero P 22 = some [.sl .nil []] ∧ tel P 22 = some 61 := by and_intros <;> kernel_rfl
theorem eq22 (c : Bool) (o : Tok) (y : AV) (l : List AV) : eqN P c 10 22 (.sl o (y :: l)) (.sl .nil []) = some false := by cases o <;> kernel_rfl
theorem eqz22 (c : Bool) : eqN P c 10 22 (.sl .nil []) (.sl .nil []) = some true ∧ eqN P c 10 22 (.sl .sm []) (.sl .nil []) = some false := by and_intros <;> kernel_rfl
theorem ty23 : tsz P 23 = some 1 ∧ tagg P 23 = some false ∧ tby P 23 = some 24 ∧ tzero P 23 = some [.sl .nil []] ∧ tel P 23 = some 66 := by and_intros <;> kernel_rfl
theorem eq23 (c : Bool) (o : Tok) (y : AV) (l : List AV) : eqN P c 10 23 (.sl o (y :: l)) (.sl .nil []) = some false := by cases o <;> kernel_rfl
theorem eqz23 (c : Bool) : eqN P c 10 23 (.sl .nil []) (.sl .nil []) = some true ∧ eqN P c 10 23 (.sl .sm []) (.sl .nil []) = some false := by and_intros <;> kernel_rfl
theorem ty24 : tsz P 24 = some 1 ∧ tagg P 24 = some false ∧ tby P 24 = some 24 ∧ tzero P 24 = some [.sl .nil []] ∧ tel P 24 = some 48 := by and_intros <;> kernel_rfl
theorem eq24 (c : Bool) (o : Tok) (y : AV) (l : List AV) : eqN P c 10 24 (.sl o (y :: l)) (.sl .nil []) = some false := by cases o <;> kernel_rfl
theorem eqz24 (c : Bool) : eqN P c 10 24 (.sl .nil []) (.sl .nil []) = some true ∧ eqN P c 10 24 (.sl .sm []) (.sl .nil []) = some false := by and_intros <;> kernel_rfl
theorem ty25 : tsz P 25 = some 1 ∧ tagg P 25 = some false ∧ tby P 25 = some 8 ∧ tzero P 25 = some [.v (.int .u64 0)] := by and_intros <;> kernel_rfl
theorem za25 : zeroA P 25 = some (.v (.int .u64 0)) ∧ isIfT P 25 = some false := by and_intros <;> kernel_rfl
theorem ty26 : tsz P 26 = some 5 ∧ tagg P 26 = some true ∧ tby P 26 = some 88 ∧ tzero P 26 = some [.sl .nil [], I 0, .sl .nil [], .sl .nil [], .v (.int .u64 0)] ∧ fld P 26 0 = some (0, 1, false) ∧ fld P 26 1 = some (1, 1, false) ∧ fld P 26 2 = some (2, 1, false) ∧ fld P 26 3 = some (3, 1, false) ∧ fld P 26 4 = some (4, 1, false) := by and_intros <;> kernel_rfl
theorem bo26 : bok P 26 = true := by kernel_rfl
theorem ty27 : tsz P 27 = some 5 ∧ tagg P 27 = some true ∧ tby P 27 = some 88 ∧ tzero P 27 = some [.sl .nil [], I 0, .sl .nil [], .sl .nil [], .v (.int .u64 0)] ∧ fld P 27 0 = some (0, 1, false) ∧ fld P 27 1 = some (1, 1, false) ∧ fld P 27 2 = some (2, 1, false) ∧ fld P 27 3 = some (3, 1, false) ∧ fld P 27 4 = some (4, 1, false) := by and_intros <;> kernel_rfl
theorem sq27 : P.stoodInHeld 27 = false ∧ P.eqGuardType P.depth 27 = false ∧ isIfT P 27 = some false ∧ zeroA P 27 = some (.agg [.sl .nil [], I 0, .sl .nil [], .sl .nil [], .v (.int .u64 0)]) := by and_intros <;> kernel_rfl
theorem bo27 : bok P 27 = true := by kernel_rfl
theorem ty30 : tsz P 30 = some 1 ∧ tagg P 30 = some false ∧ tby P 30 = some 24 ∧ tzero P 30 = some [.sl .nil []] ∧ tel P 30 = some 56 := by and_intros <;> kernel_rfl
theorem eq30 (c : Bool) (o : Tok) (y : AV) (l : List AV) : eqN P c 10 30 (.sl o (y :: l)) (.sl .nil []) = some false := by cases o <;> kernel_rfl
theorem eqz30 (c : Bool) : eqN P c 10 30 (.sl .nil []) (.sl .nil []) = some true ∧ eqN P c 10 30 (.sl .sm []) (.sl .nil []) = some false := by and_intros <;> kernel_rfl
theorem ty31 : tsz P 31 = some 1 ∧ tagg P 31 = some false ∧ tby P 31 = some 8 ∧ tzero P 31 = some [.v (.int .u64 0)] := by and_intros <;> kernel_rfl
theorem za31 : zeroA P 31 = some (.v (.int .u64 0)) ∧ isIfT P 31 = some false := by and_intros <;> kernel_rfl
theorem ty32 : tsz P 32 = some 5 ∧ tagg P 32 = some true ∧ tby P 32 = some 88 ∧ tzero P 32 = some [.sl .nil [], I 0, .sl .nil [], .sl .nil [], .v (.int .u64 0)] ∧ fld P 32 0 = some (0, 1, false) ∧ fld P 32 1 = some (1, 1, false) ∧ fld P 32 2 = some (2, 1, false) ∧ fld P 32 3 = some (3, 1, false) ∧ fld P 32 4 = some (4, 1, false) := by and_intros <;> kernel_rfl
theorem bo32 : bok P 32 = true := by kernel_rfl
theorem ty33 : tsz P 33 = some 5 ∧ tagg P 33 = some true ∧ tby P 33 = some 88 ∧ tzero P 33 = some [.sl .nil [], I 0, .sl .nil [], .sl .nil [], .v (.int .u64 0)] ∧ fld P 33 0 = some (0, 1, false) ∧ fld P 33 1 = some (1, 1, false) ∧ fld P 33 2 = some (2, 1, false) ∧ fld P 33 3 = some (3, 1, false) ∧ fld P 33 4 = some (4, 1, false) := by and_intros <;> kernel_rfl
theorem sq33 : P.stoodInHeld 33 = false ∧ P.eqGuardType P.depth 33 = false ∧ isIfT P 33 = some false ∧ zeroA P 33 = some (.agg [.sl .nil [], I 0, .sl .nil [], .sl .nil [], .v (.int .u64 0)]) := by and_intros <;> kernel_rfl
theorem bo33 : bok P 33 = true := by kernel_rfl
theorem ty48 : tsz P 48 = some 1 ∧ tagg P 48 = some false ∧ tby P 48 = some 24 ∧ tzero P 48 = some [.sl .nil []] ∧ tel P 48 = some 3 := by and_intros <;> kernel_rfl
theorem eq48 (c : Bool) (o : Tok) (y : AV) (l : List AV) : eqN P c 10 48 (.sl o (y :: l)) (.sl .nil []) = some false := by cases o <;> kernel_rfl
theorem eqz48 (c : Bool) : eqN P c 10 48 (.sl .nil []) (.sl .nil []) = some true ∧ eqN P c 10 48 (.sl .sm []) (.sl .nil []) = some false := by and_intros <;> kernel_rfl
theorem ty55 : tsz P 55 = some 2 ∧ tagg P 55 = some true ∧ tby P 55 = some 32 ∧ tzero P 55 = some [I 0, .sl .nil []] ∧ fld P 55 0 = some (0, 1, false) ∧ fld P 55 1 = some (1, 1, false) := by and_intros <;> kernel_rfl
theorem bo55 : bok P 55 = true := by kernel_rfl
theorem ty56 : tsz P 56 = some 2 ∧ tagg P 56 = some true ∧ tby P 56 = some 32 ∧ tzero P 56 = some [I 0, .sl .nil []] ∧ fld P 56 0 = some (0, 1, false) ∧ fld P 56 1 = some (1, 1, false) := by and_intros <;> kernel_rfl
theorem sq56 : P.stoodInHeld 56 = false ∧ P.eqGuardType P.depth 56 = false ∧ isIfT P 56 = some false ∧ zeroA P 56 = some (.agg [I 0, .sl .nil []]) := by and_intros <;> kernel_rfl
theorem bo56 : bok P 56 = true := by kernel_rfl
theorem ty60 : tsz P 60 = some 2 ∧ tagg P 60 = some true ∧ tby P 60 = some 16 ∧ tzero P 60 = some [I 0, I 0] ∧ fld P 60 0 = some (0, 1, false) ∧ fld P 60 1 = some (1, 1, false) := by and_intros <;> kernel_rfl
theorem bo60 : bok P 60 = true := by kernel_rfl
theorem ty61 : tsz P 61 = some 2 ∧ tagg P 61 = some true ∧ tby P 61 = some 16 ∧ tzero P 61 = some [I 0, I 0] ∧ fld P 61 0 = some (0, 1, false) ∧ fld P 61 1 = some (1, 1, false) := by and_intros <;> kernel_rfl
theorem eq61 (c : Bool) (a0 b0 : Int) (a1 b1 : Int) : eqN P c 10 61 (.agg [AV.v (.int .i64 a0), AV.v (.int .i64 a1)]) (.agg [AV.v (.int .i64 b0), AV.v (.int .i64 b1)]) = some ((a0 == b0) && ((a1 == b1) && (true))) := by kernel_rfl
theorem sq61 : P.stoodInHeld 61 = false ∧ P.eqGuardType P.depth 61 = false ∧ isIfT P 61 = some false ∧ zeroA P 61 = some (.agg [I 0, I 0]) := by and_intros <;> kernel_rfl
theorem bo61 : bok P 61 = true := by kernel_rfl
theorem ty62 : tsz P 62 = some 1 ∧ tagg P 62 = some false ∧ tby P 62 = some 8 ∧ tzero P 62 = some [I 0] := by and_intros <;> kernel_rfl
theorem za62 : zeroA P 62 = some (I 0) ∧ isIfT P 62 = some false := by and_intros <;> kernel_rfl
theorem ty66 : tsz P 66 = some 2 ∧ tagg P 66 = some true ∧ tby P 66 = some 32 ∧ tzero P 66 = some [I 0, .sl .nil []] ∧ fld P 66 0 = some (0, 1, false) ∧ fld P 66 1 = some (1, 1, false) := by and_intros <;> kernel_rfl
theorem sq66 : P.stoodInHeld 66 = false ∧ P.eqGuardType P.depth 66 = false ∧ isIfT P 66 = some false ∧ zeroA P 66 = some (.agg [I 0, .sl .nil []]) := by and_intros <;> kernel_rfl
theorem bo66 : bok P 66 = true := by kernel_rfl
theorem ty94 : tsz P 94 = some 1 ∧ tagg P 94 = some false ∧ tby P 94 = some 24 ∧ tzero P 94 = some [.sl .nil []] ∧ tel P 94 = some 93 := by and_intros <;> kernel_rfl
theorem eq94 (c : Bool) (o : Tok) (y : AV) (l : List AV) : eqN P c 10 94 (.sl o (y :: l)) (.sl .nil []) = some false := by cases o <;> kernel_rfl
theorem eqz94 (c : Bool) : eqN P c 10 94 (.sl .nil []) (.sl .nil []) = some true ∧ eqN P c 10 94 (.sl .sm []) (.sl .nil []) = some false := by and_intros <;> kernel_rfl
theorem ty109 : tsz P 109 = some 1 ∧ tagg P 109 = some false ∧ tby P 109 = some 8 ∧ tzero P 109 = some [.v (.int .u64 0)] := by and_intros <;> kernel_rfl
theorem za109 : zeroA P 109 = some (.v (.int .u64 0)) ∧ isIfT P 109 = some false := by and_intros <;> kernel_rfl
theorem ty114 : tsz P 114 = some 1 ∧ tagg P 114 = some false ∧ tby P 114 = some 8 ∧ tzero P 114 = some [I 0] := by and_intros <;> kernel_rfl
theorem za114 : zeroA P 114 = some (I 0) ∧ isIfT P 114 = some false := by and_intros <;> kernel_rfl
theorem ty122 : tsz P 122 = some 1 ∧ tagg P 122 = some false ∧ tby P 122 = some 4 ∧ tzero P 122 = some [.v (.int .u32 0)] := by and_intros <;> kernel_rfl
theorem za122 : zeroA P 122 = some (.v (.int .u32 0)) ∧ isIfT P 122 = some false := by and_intros <;> kernel_rfl
theorem ty124 : tsz P 124 = some 1 ∧ tagg P 124 = some false ∧ tby P 124 = some 8 ∧ tzero P 124 = some [.v (.int .u64 0)] := by and_intros <;> kernel_rfl
theorem za124 : zeroA P 124 = some (.v (.int .u64 0)) ∧ isIfT P 124 = some false := by and_intros <;> kernel_rfl
theorem ty128 : tsz P 128 = some 1 ∧ tagg P 128 = some false ∧ tby P 128 = some 8 ∧ tzero P 128 = some [.v (.pointer none)] := by and_intros <;> kernel_rfl
theorem eq128 (c : Bool) (i o : Nat) : eqN P c 10 128 (.ptr i o) (.v (.pointer none)) = some false ∧ eqN P c 10 128 (.v (.pointer none)) (.v (.pointer none)) = some true := by and_intros <;> kernel_rfl
theorem ty130 : tsz P 130 = some 1 ∧ tagg P 130 = some false ∧ tby P 130 = some 8 ∧ tzero P 130 = some [.v (.pointer none)] := by and_intros <;> kernel_rfl
theorem eq130 (c : Bool) (i o : Nat) : eqN P c 10 130 (.ptr i o) (.v (.pointer none)) = some false ∧ eqN P c 10 130 (.v (.pointer none)) (.v (.pointer none)) = some true := by and_intros <;> kernel_rfl
theorem ty142 : tsz P 142 = some 1 ∧ tagg P 142 = some false ∧ tby P 142 = some 8 ∧ tzero P 142 = some [.v (.pointer none)] := by and_intros <;> kernel_rfl
theorem eq142 (c : Bool) (i o : Nat) : eqN P c 10 142 (.ptr i o) (.v (.pointer none)) = some false ∧ eqN P c 10 142 (.v (.pointer none)) (.v (.pointer none)) = some true := by and_intros <;> kernel_rfl
theorem fun3 : fun? P 3 = some Try.f3 := by kernel_rfl
theorem fun4 : fun? P 4 = some Try.f4 := by kernel_rfl
theorem fun5 : fun? P 5 = some Try.f5 := by kernel_rfl
theorem fun6 : fun? P 6 = some Try.f6 := by kernel_rfl
theorem fun7 : fun? P 7 = some Try.f7 := by kernel_rfl
theorem fun8 : fun? P 8 = some Try.f8 := by kernel_rfl
theorem fun9 : fun? P 9 = some Try.f9 := by kernel_rfl
theorem fun10 : fun? P 10 = some Try.f10 := by kernel_rfl
theorem fun11 : fun? P 11 = some Try.f11 := by kernel_rfl
theorem fun12 : fun? P 12 = some Try.f12 := by kernel_rfl
theorem fun13 : fun? P 13 = some Try.f13 := by kernel_rfl
theorem fun14 : fun? P 14 = some Try.f14 := by kernel_rfl
theorem fun15 : fun? P 15 = some Try.f15 := by kernel_rfl
theorem fun16 : fun? P 16 = some Try.f16 := by kernel_rfl
theorem fun17 : fun? P 17 = some Try.f17 := by kernel_rfl
theorem fun18 : fun? P 18 = some Try.f18 := by kernel_rfl
theorem fun19 : fun? P 19 = some Try.f19 := by kernel_rfl
theorem fun20 : fun? P 20 = some Try.f20 := by kernel_rfl
theorem fun21 : fun? P 21 = some Try.f21 := by kernel_rfl
theorem fun22 : fun? P 22 = some Try.f22 := by kernel_rfl
theorem fun23 : fun? P 23 = some Try.f23 := by kernel_rfl
theorem fun24 : fun? P 24 = some Try.f24 := by kernel_rfl
theorem fun25 : fun? P 25 = some Try.f25 := by kernel_rfl
theorem fun26 : fun? P 26 = some Try.f26 := by kernel_rfl
theorem fun27 : fun? P 27 = some Try.f27 := by kernel_rfl
theorem fun28 : fun? P 28 = some Try.f28 := by kernel_rfl
theorem fun29 : fun? P 29 = some Try.f29 := by kernel_rfl
theorem fun30 : fun? P 30 = some Try.f30 := by kernel_rfl
theorem fun31 : fun? P 31 = some Try.f31 := by kernel_rfl
theorem fun32 : fun? P 32 = some Try.f32 := by kernel_rfl
theorem fun33 : fun? P 33 = some Try.f33 := by kernel_rfl
theorem fun34 : fun? P 34 = some Try.f34 := by kernel_rfl
theorem fun35 : fun? P 35 = some Try.f35 := by kernel_rfl
theorem fun36 : fun? P 36 = some Try.f36 := by kernel_rfl
theorem fun37 : fun? P 37 = some Try.f37 := by kernel_rfl
theorem fun38 : fun? P 38 = some Try.f38 := by kernel_rfl
theorem fun39 : fun? P 39 = some Try.f39 := by kernel_rfl
theorem fun40 : fun? P 40 = some Try.f40 := by kernel_rfl
theorem fun41 : fun? P 41 = some Try.f41 := by kernel_rfl
theorem fun42 : fun? P 42 = some Try.f42 := by kernel_rfl
theorem fun43 : fun? P 43 = some Try.f43 := by kernel_rfl
theorem fun44 : fun? P 44 = some Try.f44 := by kernel_rfl
theorem fun45 : fun? P 45 = some Try.f45 := by kernel_rfl
theorem fun46 : fun? P 46 = some Try.f46 := by kernel_rfl
theorem fun47 : fun? P 47 = some Try.f47 := by kernel_rfl
theorem fun48 : fun? P 48 = some Try.f48 := by kernel_rfl
theorem fun49 : fun? P 49 = some Try.f49 := by kernel_rfl
theorem fun50 : fun? P 50 = some Try.f50 := by kernel_rfl
theorem fun51 : fun? P 51 = some Try.f51 := by kernel_rfl
theorem fun52 : fun? P 52 = some Try.f52 := by kernel_rfl
theorem fun53 : fun? P 53 = some Try.f53 := by kernel_rfl
theorem fun54 : fun? P 54 = some Try.f54 := by kernel_rfl
theorem fun55 : fun? P 55 = some Try.f55 := by kernel_rfl
theorem fun56 : fun? P 56 = some Try.f56 := by kernel_rfl
theorem fun57 : fun? P 57 = some Try.f57 := by kernel_rfl
theorem fun58 : fun? P 58 = some Try.f58 := by kernel_rfl
theorem fun59 : fun? P 59 = some Try.f59 := by kernel_rfl
theorem fun60 : fun? P 60 = some Try.f60 := by kernel_rfl
theorem fun61 : fun? P 61 = some Try.f61 := by kernel_rfl
theorem fun62 : fun? P 62 = some Try.f62 := by kernel_rfl
theorem fun63 : fun? P 63 = some Try.f63 := by kernel_rfl
theorem fun64 : fun? P 64 = some Try.f64 := by kernel_rfl
theorem fun65 : fun? P 65 = some Try.f65 := by kernel_rfl
theorem fun66 : fun? P 66 = some Try.f66 := by kernel_rfl
theorem fun67 : fun? P 67 = some Try.f67 := by kernel_rfl
theorem fun68 : fun? P 68 = some Try.f68 := by kernel_rfl
theorem fun69 : fun? P 69 = some Try.f69 := by kernel_rfl
theorem fun70 : fun? P 70 = some Try.f70 := by kernel_rfl
theorem fun71 : fun? P 71 = some Try.f71 := by kernel_rfl
theorem fun72 : fun? P 72 = some Try.f72 := by kernel_rfl
theorem fun73 : fun? P 73 = some Try.f73 := by kernel_rfl
theorem fun74 : fun? P 74 = some Try.f74 := by kernel_rfl
theorem fun75 : fun? P 75 = some Try.f75 := by kernel_rfl
theorem fun76 : fun? P 76 = some Try.f76 := by kernel_rfl
theorem fun77 : fun? P 77 = some Try.f77 := by kernel_rfl
theorem fun78 : fun? P 78 = some Try.f78 := by kernel_rfl
theorem fun79 : fun? P 79 = some Try.f79 := by kernel_rfl
theorem fun80 : fun? P 80 = some Try.f80 := by kernel_rfl
theorem fun81 : fun? P 81 = some Try.f81 := by kernel_rfl
theorem fun82 : fun? P 82 = some Try.f82 := by kernel_rfl
theorem fun83 : fun? P 83 = some Try.f83 := by kernel_rfl
theorem fun84 : fun? P 84 = some Try.f84 := by kernel_rfl
theorem fun85 : fun? P 85 = some Try.f85 := by kernel_rfl
theorem fun86 : fun? P 86 = some Try.f86 := by kernel_rfl
theorem fun87 : fun? P 87 = some Try.f87 := by kernel_rfl
theorem fun88 : fun? P 88 = some Try.f88 := by kernel_rfl
theorem fun89 : fun? P 89 = some Try.f89 := by kernel_rfl
theorem fun90 : fun? P 90 = some Try.f90 := by kernel_rfl
theorem fun91 : fun? P 91 = some Try.f91 := by kernel_rfl
theorem fun92 : fun? P 92 = some Try.f92 := by kernel_rfl
theorem fun93 : fun? P 93 = some Try.f93 := by kernel_rfl
theorem fun94 : fun? P 94 = some Try.f94 := by kernel_rfl
theorem fun95 : fun? P 95 = some Try.f95 := by kernel_rfl
theorem fun96 : fun? P 96 = some Try.f96 := by kernel_rfl
theorem fun97 : fun? P 97 = some Try.f97 := by kernel_rfl
theorem fun98 : fun? P 98 = some Try.f98 := by kernel_rfl
theorem fun100 : fun? P 100 = some Try.f100 := by kernel_rfl
theorem fun101 : fun? P 101 = some Try.f101 := by kernel_rfl
theorem fun102 : fun? P 102 = some Try.f102 := by kernel_rfl
theorem fun103 : fun? P 103 = some Try.f103 := by kernel_rfl
theorem fun112 : fun? P 112 = some Try.f112 := by kernel_rfl
theorem fun113 : fun? P 113 = some Try.f113 := by kernel_rfl
theorem fun115 : fun? P 115 = some Try.f115 := by kernel_rfl
theorem fun135 : fun? P 135 = some Try.f135 := by kernel_rfl
def keepF (f : FuncId) : Bool := [45, 69, 85, 86, 88, 103].contains f
def rowsF (f : FuncId) : Bool := [14, 22, 26, 36, 49, 54, 55, 69, 85, 86, 88].contains f
def primF (f : FuncId) : Bool := [45, 69, 85, 86, 88, 103].contains f
def varsF (f : FuncId) : Bool := [24].contains f
/-- Nothing else is known otherwise. -/
def Low (X : Prims) : Prop := ∀ f, primF f = false → X.prim f = none ∧ X.keep f = keepF f ∧ X.rows f = rowsF f ∧ X.vars f = varsF f
abbrev X0 : Prims := ⟨fun _ => none, keepF, rowsF, varsF⟩
theorem low0 : Low X0 := fun _ _ => ⟨rfl, rfl, rfl, rfl⟩
theorem okx0 : OKX P X0 := fun f g args S r S' h => by cases h
attribute [go_sem] Try.underlying2 za2 ty2 Try.underlying3 za3 ty3 Try.underlying4 eq4 za4 ty4 Try.underlying5 za5 ty5 Try.underlying9 ty9 Try.underlying12 za12 ty12 bo13 ty13 eq20 ty20 Try.underlying21 za21 ty21 Try.underlying22 eq22 eqz22 ty22 Try.underlying23 eq23 eqz23 ty23 Try.underlying24 eq24 eqz24 ty24 Try.underlying25 za25 ty25 bo26 ty26 sq27 bo27 ty27 Try.underlying30 eq30 eqz30 ty30 Try.underlying31 za31 ty31 bo32 ty32 sq33 bo33 ty33 Try.underlying48 eq48 eqz48 ty48 bo55 ty55 sq56 bo56 ty56 bo60 ty60 eq61 sq61 bo61 ty61 Try.underlying62 za62 ty62 sq66 bo66 ty66 Try.underlying94 eq94 eqz94 ty94 Try.underlying109 za109 ty109 Try.underlying114 za114 ty114 Try.underlying122 za122 ty122 Try.underlying124 za124 ty124 eq128 ty128 eq130 ty130 eq142 ty142
end Go.Proofs.Ytplpmelpoajpdaa.Ev
namespace Go.Proofs.Ytplpmelpoajpdaa.Ev
open Go Go.Proofs
set_option linter.unusedVariables false
set_option linter.unusedSimpArgs false
open Go.RowKit (wrap64)
set_option maxRecDepth 100000
structure SVtx where
  f0 : Int
  f1 : Int
  deriving Inhabited, DecidableEq
abbrev z_Vtx : SVtx := ⟨0, 0⟩
def rd (l : List Int) (i : Int) : Int := l.getD i.toNat 0
theorem wrap_eq (n : Int) : IntKind.i64.wrap n = wrap64 n := by simp [IntKind.wrap, IntKind.bits, IntKind.signed, wrap64]; split <;> omega
def encV (x : SVtx) : AV := .agg [I x.f0, I x.f1]
def encT (t : List SVtx) : AV := .sl .no (t.map encV)
/-- Whole numbers, as a slice. -/
abbrev L (l : List Int) : AV := .sl .no (l.map I)

def par (t : List SVtx) (i : Nat) : Int := (t.getD i z_Vtx).f0
def lev (t : List SVtx) (i : Nat) : Int := (t.getD i z_Vtx).f1
/-- The numbers i .. i+m-1 at which P holds. -/
def pick (P : Nat → Bool) : Nat → Nat → List Int
  | 0, _ => []
  | m + 1, i => if P i then (i : Int) :: pick P m (i + 1) else pick P m (i + 1)
theorem pick_len {P : Nat → Bool} : ∀ {m i : Nat}, (pick P m i).length ≤ m
  | 0, _ => by simp [pick]
  | m + 1, i => by
    have := @pick_len P m (i + 1)
    unfold pick
    split
    · simp; omega
    · omega
theorem pick_mem {P : Nat → Bool} {x : Int} : ∀ {m i : Nat}, x ∈ pick P m i ↔ ∃ j : Nat, x = (j : Int) ∧ i ≤ j ∧ j < i + m ∧ P j = true
  | 0, i => by simp [pick]; omega
  | m + 1, i => by
    unfold pick
    by_cases h : P i = true
    · rw [if_pos h, List.mem_cons, pick_mem]
      constructor
      · rintro (rfl | ⟨j, rfl, h1, h2, h3⟩)
        · exact ⟨i, rfl, by omega, by omega, h⟩
        · exact ⟨j, rfl, by omega, by omega, h3⟩
      · rintro ⟨j, rfl, h1, h2, h3⟩
        by_cases hj : j = i
        · subst hj; exact .inl rfl
        · exact .inr ⟨j, rfl, by omega, by omega, h3⟩
    · rw [if_neg h, pick_mem]
      constructor
      · rintro ⟨j, rfl, h1, h2, h3⟩
        exact ⟨j, rfl, by omega, by omega, h3⟩
      · rintro ⟨j, rfl, h1, h2, h3⟩
        by_cases hj : j = i
        · subst hj; exact absurd h3 h
        · exact ⟨j, rfl, by omega, by omega, h3⟩
theorem pick_sorted {P : Nat → Bool} : ∀ {m i : Nat}, (pick P m i).Pairwise (· < ·)
  | 0, _ => by simp [pick]
  | m + 1, i => by
    unfold pick
    split
    · refine List.Pairwise.cons ?_ pick_sorted
      intro x hx
      obtain ⟨j, rfl, h1, _, _⟩ := pick_mem.mp hx
      omega
    · exact pick_sorted
theorem pick_ext {P Q : Nat → Bool} : ∀ {m i : Nat}, (∀ j, i ≤ j → j < i + m → P j = Q j) → pick P m i = pick Q m i
  | 0, _, _ => rfl
  | m + 1, i, h => by
    unfold pick
    rw [h i (by omega) (by omega), pick_ext (m := m) (i := i + 1) (fun j h1 h2 => h j (by omega) (by omega))]
theorem get_pick {P : Nat → Bool} {m i : Nat} {a : Int} (h0 : 0 ≤ a) (h1 : a < ((pick P m i).length : Int)) : ∃ j : Nat, rd (pick P m i) a = (j : Int) ∧ i ≤ j ∧ j < i + m ∧ P j = true := by
  have : rd (pick P m i) a ∈ pick P m i := by
    unfold rd
    rw [List.getD_eq_getElem?_getD, List.getElem?_eq_getElem (by omega)]
    exact List.getElem_mem _
  exact pick_mem.mp this
/-- The vertices of a level; those below one. -/
def vsOf (t : List SVtx) (x : Int) : List Int := pick (fun j => decide (lev t j = x)) t.length 0
def kidsOf (t : List SVtx) (v : Int) : List Int := pick (fun j => decide (par t j = v)) t.length 0

/-- A vertex stands rightly. -/
def belowB (t : List SVtx) (i : Nat) : Bool :=
  if i = 0 then decide (par t 0 = -1) && decide (lev t 0 = 0)
  else decide (0 ≤ par t i) && decide (par t i < (i : Int)) && decide (lev t i = wrap64 (lev t (par t i).toNat + 1)) && decide (lev t i ≤ 3)
def okAt (t : List SVtx) (i : Nat) : Bool := belowB t i && ((lev t i == 3) == ((kidsOf t (i : Int)).length == 0)) && decide ((kidsOf t (i : Int)).length ≤ 8)
def Valid (t : List SVtx) : Prop := 1 ≤ t.length ∧ t.length ≤ 64 ∧ (vsOf t 3).length ≤ 32 ∧ ∀ i, i < t.length → okAt t i = true
instance (t : List SVtx) : Decidable (Valid t) := inferInstanceAs (Decidable (_ ∧ _ ∧ _ ∧ _))
theorem Valid.below {t : List SVtx} (h : Valid t) {i : Nat} (hi : i < t.length) : belowB t i = true := by
  have := h.2.2.2 i hi
  simp only [okAt, Bool.and_eq_true] at this
  exact this.1.1
theorem Valid.root {t : List SVtx} (h : Valid t) : par t 0 = -1 ∧ lev t 0 = 0 := by
  have := h.below (i := 0) h.1
  simpa [belowB] using this
theorem Valid.at_ {t : List SVtx} (h : Valid t) : ∀ {i : Nat}, i < t.length → 0 ≤ lev t i ∧ lev t i ≤ 3 ∧ (i ≠ 0 → 0 ≤ par t i ∧ par t i < (i : Int) ∧ lev t i = lev t (par t i).toNat + 1) := by
  intro i
  induction i using Nat.strongRecOn with
  | ind i ih =>
    intro hi
    by_cases h0 : i = 0
    · subst h0
      have := h.root
      exact ⟨by omega, by omega, fun h => absurd rfl h⟩
    · have hb := h.below hi
      simp only [belowB, if_neg h0, Bool.and_eq_true, decide_eq_true_eq] at hb
      obtain ⟨⟨⟨h1, h2⟩, h3⟩, h4⟩ := hb
      have hp := ih (par t i).toNat (by omega) (by omega)
      have hw : wrap64 (lev t (par t i).toNat + 1) = lev t (par t i).toNat + 1 := by
        have h5 := hp.1
        have h6 := hp.2.1
        generalize lev t (par t i).toNat = z at h5 h6
        unfold wrap64; omega
      rw [hw] at h3
      exact ⟨by omega, h4, fun _ => ⟨h1, h2, h3⟩⟩
theorem Valid.pos {t : List SVtx} (h : Valid t) {i : Nat} (hi : i < t.length) (hl : 0 < lev t i) : i ≠ 0 := by
  rintro rfl
  have := h.root
  omega
/-! The vertex above. -/
def upN (t : List SVtx) (x : Int) : Nat → Int → Int
  | 0, _ => -1
  | n + 1, v => if 0 ≤ v ∧ v < (t.length : Int) then (if lev t v.toNat = x then v else if par t v.toNat ≥ v then -1 else upN t x n (par t v.toNat)) else -1
def up (t : List SVtx) (v x : Int) : Int := upN t x (t.length + 1) v
theorem upN_more (t : List SVtx) (x : Int) : ∀ (n m : Nat) (v : Int), v < (n : Int) → v < (m : Int) → 0 < n → 0 < m → upN t x n v = upN t x m v
  | 0, _, _, _, _, h, _ => absurd h (Nat.lt_irrefl 0)
  | _ + 1, 0, _, _, _, _, h => absurd h (Nat.lt_irrefl 0)
  | n + 1, m + 1, v, h1, h2, _, _ => by
    unfold upN
    by_cases hv : 0 ≤ v ∧ v < (t.length : Int)
    · rw [if_pos hv, if_pos hv]
      split
      · rfl
      · split
        · rfl
        · rename_i h3
          by_cases hn : 0 < n
          · by_cases hm : 0 < m
            · exact upN_more t x n m _ (by omega) (by omega) hn hm
            · have : m = 0 := by omega
              subst this
              obtain ⟨n, rfl⟩ : ∃ j, n = j + 1 := ⟨n - 1, by omega⟩
              unfold upN
              rw [if_neg (by omega)]
          · have : n = 0 := by omega
            subst this
            cases m with
            | zero => rfl
            | succ m =>
              unfold upN
              rw [if_neg (by omega)]
    · rw [if_neg hv, if_neg hv]
/-- The vertex d steps above. -/
def anc (t : List SVtx) : Nat → Nat → Nat
  | 0, v => v
  | d + 1, v => anc t d (par t v).toNat
theorem anc_at {t : List SVtx} (h : Valid t) : ∀ (d v : Nat), v < t.length → (d : Int) ≤ lev t v → anc t d v < t.length ∧ lev t (anc t d v) = lev t v - d
  | 0, v, hv, _ => ⟨hv, by simp [anc]⟩
  | d + 1, v, hv, hd => by
    obtain ⟨_, _, h3⟩ := h.at_ hv
    obtain ⟨h4, h5, h6⟩ := h3 (h.pos hv (by omega))
    obtain ⟨h7, h8⟩ := anc_at h d (par t v).toNat (by omega) (by omega)
    exact ⟨h7, by rw [anc, h8]; omega⟩
theorem anc_succ (t : List SVtx) : ∀ (d v : Nat), anc t (d + 1) v = (par t (anc t d v)).toNat
  | 0, v => rfl
  | d + 1, v => by rw [anc, anc_succ t d]; rfl
theorem upN_anc {t : List SVtx} (h : Valid t) : ∀ (d v n : Nat), v < t.length → (d : Int) ≤ lev t v → v < n → upN t (lev t v - d) n (v : Int) = (anc t d v : Nat)
  | 0, v, n, hv, _, hn => by
    obtain ⟨n, rfl⟩ : ∃ j, n = j + 1 := ⟨n - 1, by omega⟩
    unfold upN
    rw [if_pos ⟨by omega, by omega⟩, if_pos (by simp)]
    rfl
  | d + 1, v, n, hv, hd, hn => by
    obtain ⟨n, rfl⟩ : ∃ j, n = j + 1 := ⟨n - 1, by omega⟩
    obtain ⟨_, _, h3⟩ := h.at_ hv
    obtain ⟨h4, h5, h6⟩ := h3 (h.pos hv (by omega))
    unfold upN
    rw [if_pos ⟨by omega, by omega⟩]
    simp only [Int.toNat_natCast]
    rw [if_neg (by omega), if_neg (by omega)]
    obtain ⟨p, hp⟩ : ∃ p : Nat, par t v = (p : Int) := ⟨(par t v).toNat, by omega⟩
    have h6' : lev t v = lev t p + 1 := by rw [hp] at h6; simpa using h6
    have := upN_anc h d p n (by omega) (by omega) (by omega)
    rw [show lev t v - ((d + 1 : Nat) : Int) = lev t p - (d : Int) by omega, hp, this, anc, hp]
    rfl
theorem up_anc {t : List SVtx} (h : Valid t) (d v : Nat) (hv : v < t.length) (hd : (d : Int) ≤ lev t v) : up t (v : Int) (lev t v - d) = (anc t d v : Nat) := upN_anc h d v _ hv hd (by omega)

theorem pick_snoc {P : Nat → Bool} : ∀ {m i : Nat}, pick P (m + 1) i = pick P m i ++ (if P (i + m) then [((i + m : Nat) : Int)] else [])
  | 0, i => by simp [pick]
  | m + 1, i => by
    have := @pick_snoc P m (i + 1)
    rw [pick, this, pick, show i + 1 + m = i + (m + 1) by omega]
    split <;> simp
theorem app_int {T : Toks} {v : AV} {l : List Int} (hA : App P 3 T v (l.map I)) (n : Int) (hl : l.length ≤ 100000) :
    ∃ v' T', (∀ S, appX P false 48 v (.sl .full [I n]) S T = some (v', S, T')) ∧ App P 3 T' v' ((l ++ [n]).map I) := by
  obtain ⟨v', T', h1, h2⟩ := hA.go (t := 48) (m := [I n]) (o := .full) ty48.2.2.2.2 ty3.1 ty3.2.2.1 ty3.2.2.2 rfl (by simp; omega) (by simp [maxLen]; omega)
  exact ⟨v', T', h1, by simpa using h2⟩
theorem vtx_at {t : List SVtx} {i : Nat} (h : i < t.length) : t[i]? = some ⟨par t i, lev t i⟩ := by
  simp [par, lev, List.getD_eq_getElem?_getD, h]
section
variable {X : Prims} (hX : Low X)
include hX
theorem level_g (t : List SVtx) (x : Int) (ht : t.length ≤ 1000) : Gv P X 98 [encT t, I x] (L (pick (fun j => decide (lev t j = x)) t.length 0)) := by
  refine gv_of (hX _ (by decide)) fun98 rfl ?_
  simp only [Try.f98, encT, go_sem, Nat.reduceSub, Nat.reduceAdd, reduceIte]
  refine W_ind (fun n s => ∃ i v, i + n = t.length ∧ FrIs 25 [(0, .sl .no (t.map encV)), (1, I x), (5, v), (8, I t.length), (9, I i)] s.fr ∧ s.S = [] ∧ App P 3 s.T v ((pick (fun j => decide (lev t j = x)) i 0).map I)) ?_ (n := t.length) ⟨0, .sl .nil [], by omega, ⟨rfl, rfl, rfl, rfl, by simp, rfl, trivial⟩, rfl, .nil⟩
  rintro n ⟨L, S, T⟩ ih ⟨i, v, hi, hF, rfl, hA⟩
  obtain ⟨j, rfl⟩ := hF.ex
  simp +decide only [fr, jl, Nat.reduceAdd, go_sem]
  refine Wif_of (fun h => ?_) (fun h => ?_)
  · have hlt : i < t.length := by simpa using h
    have hx := vtx_at hlt
    have hw := wrap_nat i (by omega)
    obtain ⟨v', T', happ, hA'⟩ := app_int hA i (by have := @pick_len (fun j => decide (lev t j = x)) i 0; omega)
    simp +decide only [go_sem, hx, hw, encV]
    have hp := @pick_snoc (fun j => decide (lev t j = x)) i 0
    rw [Nat.zero_add] at hp
    refine Wif_of (fun h => ?_) (fun h => ?_)
    · simp +decide only [go_sem, happ, hw]
      refine ih (n - 1) _ (by omega) ⟨i + 1, v', by omega, ⟨rfl, rfl, rfl, rfl, rfl, rfl, trivial⟩, rfl, ?_⟩
      rw [hp, if_pos (by simpa using h)]; exact hA'
    · simp +decide only [go_sem, hw]
      refine ih (n - 1) _ (by omega) ⟨i + 1, v, by omega, ⟨rfl, rfl, rfl, rfl, rfl, rfl, trivial⟩, rfl, ?_⟩
      rw [hp, if_neg (by simpa using h), List.append_nil]; exact hA
  · have hi' : i = t.length := by simp at h; omega
    subst hi'
    obtain ⟨o, rfl⟩ := hA.is
    simp +decide only [go_sem]
    exact ⟨_, rfl, rfl, rfl⟩
theorem kids_g (t : List SVtx) (x : Int) (ht : t.length ≤ 1000) : Gv P X 96 [encT t, I x] (L (pick (fun j => decide (par t j = x)) t.length 0)) := by
  refine gv_of (hX _ (by decide)) fun96 rfl ?_
  simp only [Try.f96, encT, go_sem, Nat.reduceSub, Nat.reduceAdd, reduceIte]
  refine W_ind (fun n s => ∃ i v, i + n = t.length ∧ FrIs 25 [(0, .sl .no (t.map encV)), (1, I x), (5, v), (8, I t.length), (9, I i)] s.fr ∧ s.S = [] ∧ App P 3 s.T v ((pick (fun j => decide (par t j = x)) i 0).map I)) ?_ (n := t.length) ⟨0, .sl .nil [], by omega, ⟨rfl, rfl, rfl, rfl, by simp, rfl, trivial⟩, rfl, .nil⟩
  rintro n ⟨L, S, T⟩ ih ⟨i, v, hi, hF, rfl, hA⟩
  obtain ⟨j, rfl⟩ := hF.ex
  simp +decide only [fr, jl, Nat.reduceAdd, go_sem]
  refine Wif_of (fun h => ?_) (fun h => ?_)
  · have hlt : i < t.length := by simpa using h
    have hx := vtx_at hlt
    have hw := wrap_nat i (by omega)
    obtain ⟨v', T', happ, hA'⟩ := app_int hA i (by have := @pick_len (fun j => decide (par t j = x)) i 0; omega)
    simp +decide only [go_sem, hx, hw, encV]
    have hp := @pick_snoc (fun j => decide (par t j = x)) i 0
    rw [Nat.zero_add] at hp
    refine Wif_of (fun h => ?_) (fun h => ?_)
    · simp +decide only [go_sem, happ, hw]
      refine ih (n - 1) _ (by omega) ⟨i + 1, v', by omega, ⟨rfl, rfl, rfl, rfl, rfl, rfl, trivial⟩, rfl, ?_⟩
      rw [hp, if_pos (by simpa using h)]; exact hA'
    · simp +decide only [go_sem, hw]
      refine ih (n - 1) _ (by omega) ⟨i + 1, v, by omega, ⟨rfl, rfl, rfl, rfl, rfl, rfl, trivial⟩, rfl, ?_⟩
      rw [hp, if_neg (by simpa using h), List.append_nil]; exact hA
  · have hi' : i = t.length := by simp at h; omega
    subst hi'
    obtain ⟨o, rfl⟩ := hA.is
    simp +decide only [go_sem]
    exact ⟨_, rfl, rfl, rfl⟩
end
end Go.Proofs.Ytplpmelpoajpdaa.Ev
