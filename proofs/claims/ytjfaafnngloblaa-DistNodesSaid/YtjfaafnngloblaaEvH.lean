/- Regions that draw their order. No condition. -/
import Derived.Test.YtjfaafnngloblaaEvG
import Derived.Test.YtjfaafnngloblaaInv1
namespace Go.Proofs.Ytjfaafnngloblaa.Ev
open Go
set_option linter.unusedVariables false
set_option linter.unusedSimpArgs false
section
variable {P : Program} {cf : CallF} {ops : Array Oper}
theorem like_put {o : Oper} {fr : List AV} {d : Option Tmp} {x : AV} (h : ∀ t, d = some t → (looks ops o).contains t = false) : Like ops o (put fr d x) fr := by
  intro t ht
  cases d with
  | none => rfl
  | some d =>
    have hne : d ≠ t := by
      rintro rfl
      have := h d rfl
      rw [List.contains_iff_mem.mpr ht] at this
      cases this
    simp [put, List.getD_eq_getElem?_getD, List.getElem?_set_ne hne]
theorem apart_inv {p q : Oper} (h : apart ops p q = true) : (∀ t, p.dst = some t → (looks ops q).contains t = false) ∧ (∀ t, q.dst = some t → (looks ops p).contains t = false) ∧ (∀ t, p.dst = some t → q.dst ≠ some t) := by
  unfold apart at h
  simp only [Bool.and_eq_true] at h
  obtain ⟨h1, h2⟩ := h
  refine ⟨fun t ht => ?_, fun t ht => ?_, fun t ht => ?_⟩
  · rw [ht] at h1; simp only [Bool.and_eq_true, Bool.not_eq_true'] at h1; exact h1.1
  · rw [ht] at h2; simpa using h2
  · rw [ht] at h1; simp only [Bool.and_eq_true, bne_iff_ne, ne_eq] at h1; exact h1.2
theorem put_put {fr : List AV} {p q : Option Tmp} {x y : AV} (h : ∀ t, p = some t → q ≠ some t) : put (put fr p x) q y = put (put fr q y) p x := by
  cases p with
  | none => rfl
  | some a =>
    cases q with
    | none => rfl
    | some b =>
      have hne : a ≠ b := fun e => h a rfl (by rw [e])
      exact List.set_comm _ _ hne
theorem commute {p q : Oper} {s s1 s2 : St} (hp : evG P cf ops p s = some s1) (hq : evG P cf ops q s1 = some s2) (hc : compat (cls ops p s) (cls ops q s1) = true) (ha : apart ops p q = true) :
    ∃ s3, evG P cf ops q s = some s3 ∧ evG P cf ops p s3 = some s2 ∧ cls ops q s = cls ops q s1 ∧ cls ops p s3 = cls ops p s := by
  obtain ⟨fr, S, T⟩ := s
  obtain ⟨a1, a2, a3⟩ := apart_inv ha
  obtain ⟨⟨xp, Sp, Tp⟩, hp', rfl⟩ := Option.map_eq_some_iff.1 hp
  obtain ⟨⟨xq, Sq, Tq⟩, hq', rfl⟩ := Option.map_eq_some_iff.1 hq
  simp only at hp' hq' hc ⊢
  have Lq : Like ops q (put fr p.dst xp) fr := like_put a1
  have Lp : Like ops p (put fr q.dst xq) fr := like_put a2
  rw [exO_like Lq] at hq'
  rw [cls_like Lq] at hc ⊢
  have sp := exO_says hp'
  have sq := exO_says hq'
  suffices h : ∃ S3 T3, exO P cf ops q ⟨fr, S, T⟩ = some (xq, S3, T3) ∧ cls ops q ⟨fr, S, T⟩ = cls ops q ⟨fr, Sp, Tp⟩ ∧ exO P cf ops p ⟨fr, S3, T3⟩ = some (xp, Sq, Tq) ∧ cls ops p ⟨fr, S3, T3⟩ = cls ops p ⟨fr, S, T⟩ by
    obtain ⟨S3, T3, h1, h2, h3, h4⟩ := h
    refine ⟨⟨put fr q.dst xq, S3, T3⟩, ?_, ?_, h2, ?_⟩
    · unfold evG; rw [h1]; rfl
    · unfold evG; rw [exO_like Lp, h3, put_put a3]; rfl
    · rw [cls_like Lp]; exact h4
  generalize hcp : cls ops p ⟨fr, S, T⟩ = cp at sp hc ⊢
  generalize hcq : cls ops q ⟨fr, Sp, Tp⟩ = cq at sq hc ⊢
  have app1 : ∀ (l : Obs) (o : Ob) (id : Nat), id < l.length → (l ++ [o])[id]? = l[id]? := fun l o id h => List.getElem?_append_left h
  cases cp with
  | quiet =>
    obtain ⟨rfl, rfl, hP⟩ := sp
    exact ⟨Sq, Tq, hq', hcq, (hP Sq Tq).1, (hP Sq Tq).2⟩
  | reads id =>
    obtain ⟨rfl, rfl, hP⟩ := sp
    cases cq with
    | quiet => obtain ⟨rfl, rfl, hQ⟩ := sq; exact ⟨_, _, (hQ _ _).1, (hQ _ _).2, hp', hcp⟩
    | reads id' => obtain ⟨rfl, rfl, hQ⟩ := sq; exact ⟨_, _, (hQ _ _ rfl).1, (hQ _ _ rfl).2, hp', hcp⟩
    | makes n =>
      obtain ⟨rfl, rfl, ob, rfl, rfl, hQ⟩ := sq
      have hid : id < Sp.length := by simpa [compat] using hc
      exact ⟨_, _, hq', hcq, (hP _ _ (app1 _ _ _ hid)).1, (hP _ _ (app1 _ _ _ hid)).2⟩
    | chain => obtain ⟨rfl, hQ⟩ := sq; exact ⟨_, _, hq', hcq, (hP _ _ rfl).1, (hP _ _ rfl).2⟩
    | all => cases hc
  | makes n =>
    obtain ⟨rfl, rfl, ob, rfl, rfl, hP⟩ := sp
    cases cq with
    | quiet => obtain ⟨rfl, rfl, hQ⟩ := sq; exact ⟨_, _, (hQ _ _).1, (hQ _ _).2, hp', hcp⟩
    | reads id =>
      obtain ⟨rfl, rfl, hQ⟩ := sq
      have hid : id < S.length := by simpa [compat] using hc
      exact ⟨S, _, (hQ S _ (app1 _ _ _ hid).symm).1, (hQ S _ (app1 _ _ _ hid).symm).2, hp', hcp⟩
    | makes n' => cases hc
    | chain => obtain ⟨rfl, hQ⟩ := sq; exact ⟨S, Tq, (hQ S).1, (hQ S).2, (hP Tq).1, (hP Tq).2⟩
    | all => cases hc
  | chain =>
    obtain ⟨rfl, hP⟩ := sp
    cases cq with
    | quiet => obtain ⟨rfl, rfl, hQ⟩ := sq; exact ⟨_, _, (hQ _ _).1, (hQ _ _).2, hp', hcp⟩
    | reads id => obtain ⟨rfl, rfl, hQ⟩ := sq; exact ⟨_, _, (hQ _ _ rfl).1, (hQ _ _ rfl).2, hp', hcp⟩
    | makes n =>
      obtain ⟨rfl, rfl, ob, rfl, rfl, hQ⟩ := sq
      exact ⟨_, T, (hQ T).1, (hQ T).2, (hP _).1, (hP _).2⟩
    | chain => cases hc
    | all => cases hc
  | all =>
    cases cq with
    | quiet => obtain ⟨rfl, rfl, hQ⟩ := sq; exact ⟨_, _, (hQ _ _).1, (hQ _ _).2, hp', hcp⟩
    | _ => cases hc
/-- An operation that waits for none of those ahead of it may come first. -/
theorem evD_front {deps : List (List Nat)} : ∀ (pre : List Nat) {i : Nat} {post : List Nat} {s sf : St} {log : List (Nat × Cls)}, evD P cf ops deps (pre ++ i :: post) s = some (sf, log) → (∀ p ∈ pre, (deps.getD i []).contains p = false) →
    ∃ o si log', ops[i]? = some o ∧ evG P cf ops o s = some si ∧ evD P cf ops deps (pre ++ post) si = some (sf, log') ∧ (∀ q ∈ log', q ∈ log) ∧ (i, cls ops o s) ∈ log
  | [], i, post, s, sf, log, h, _ => by
    simp only [List.nil_append, evD] at h ⊢
    split at h
    · cases h
    rename_i o ho
    split at h
    · cases h
    rename_i si hsi
    split at h
    · cases h
    rename_i sf' log' hlog
    split at h
    case isFalse => cases h
    simp only [Option.some.injEq, Prod.mk.injEq] at h
    obtain ⟨rfl, rfl⟩ := h
    exact ⟨o, si, log', ho, hsi, hlog, fun q hq => List.mem_cons_of_mem _ hq, List.mem_cons_self⟩
  | p :: pre, i, post, s, sf, log, h, hd => by
    simp only [List.cons_append, evD] at h ⊢
    split at h
    · cases h
    rename_i op hop
    split at h
    · cases h
    rename_i s1 hs1
    split at h
    · cases h
    rename_i sf' log1 hlog
    split at h
    case isFalse => cases h
    rename_i hchk
    simp only [Option.some.injEq, Prod.mk.injEq] at h
    obtain ⟨rfl, rfl⟩ := h
    obtain ⟨o, si1, log1', h1, h2, h3, h4, h5⟩ := evD_front pre hlog (fun q hq => hd q (List.mem_cons_of_mem _ hq))
    have hchk' := List.all_eq_true.mp hchk
    have hi := hchk' _ h5
    simp only [hd p List.mem_cons_self, Bool.false_or, Bool.and_eq_true] at hi
    have hgo : ops.getD i default = o := by
      rw [Array.getD_eq_getD_getElem?, h1]; rfl
    rw [hgo] at hi
    obtain ⟨s3, c1, c2, c3, c4⟩ := commute hs1 h2 hi.1 hi.2
    refine ⟨o, s3, (p, cls ops op s) :: log1', h1, c1, ?_, ?_, ?_⟩
    · simp only [c2, h3, c4]
      rw [if_pos (List.all_eq_true.mpr fun q hq => hchk' q (h4 q hq))]
    · intro q hq
      rcases List.mem_cons.1 hq with rfl | hq
      · exact List.mem_cons_self
      · exact List.mem_cons_of_mem _ (h4 q hq)
    · rw [c3]; exact List.mem_cons_of_mem _ h5
/-! ### What an operation waits for -/
def direct (o : Oper) : List Nat := o.after.toList.filterMap fun e => if Region.binds .any e then some e.on else none
theorem mem_nubM {x : Nat} : ∀ (m : Nat) (l : List Nat), x ∈ nubM m l → x ∈ l
  | _, [], h => h
  | m, a :: l, h => by
    unfold nubM at h
    split at h
    · exact List.mem_cons_of_mem _ (mem_nubM m l h)
    · rcases List.mem_cons.1 h with rfl | h
      · exact List.mem_cons_self
      · exact List.mem_cons_of_mem _ (mem_nubM _ l h)
theorem depsOf_pre : ∀ (os : List Oper) (k : Nat) (acc : List (List Nat)), acc <+: depsOf ops k acc os
  | [], k, acc => List.prefix_rfl
  | o :: os, k, acc => by
    simp only [depsOf]
    exact List.IsPrefix.trans (List.prefix_append _ _) (depsOf_pre os (k + 1) _)
theorem getD_prefix {l m : List (List Nat)} (h : l <+: m) {j x : Nat} (hx : x ∈ l.getD j []) : x ∈ m.getD j [] := by
  obtain ⟨t, rfl⟩ := h
  by_cases hj : j < l.length
  · simpa [List.getD_eq_getElem?_getD, List.getElem?_append_left hj] using hx
  · simp [List.getD_eq_getElem?_getD, List.getElem?_eq_none (Nat.le_of_not_lt hj)] at hx
theorem depsOf_spec : ∀ (os : List Oper) (k : Nat) (acc : List (List Nat)), acc.length = k → ∀ i o, os[i]? = some o → ∀ x ∈ (depsOf ops k acc os).getD (k + i) [], x ∈ direct o ∨ ∃ d ∈ direct o, x ∈ (depsOf ops k acc os).getD d []
  | [], k, acc, hk, i, o, ho, x, hx => by simp at ho
  | o' :: os, k, acc, hk, i, o, ho, x, hx => by
    simp only [depsOf] at hx ⊢
    cases i with
    | zero =>
      simp only [List.getElem?_cons_zero, Option.some.injEq] at ho
      subst ho
      have hp := depsOf_pre (ops := ops) os (k + 1) (acc ++ [nubM 0 ((direct o').flatMap fun j => j :: acc.getD j [])])
      have hx' : x ∈ nubM 0 ((direct o').flatMap fun j => j :: acc.getD j []) := by
        obtain ⟨t, ht⟩ := hp
        have e : (depsOf ops (k + 1) (acc ++ [nubM 0 ((direct o').flatMap fun j => j :: acc.getD j [])]) os).getD (k + 0) [] = nubM 0 ((direct o').flatMap fun j => j :: acc.getD j []) := by
          rw [← ht, Nat.add_zero, List.getD_eq_getElem?_getD, List.getElem?_append_left (by simp [hk]), List.getElem?_append_right (by omega)]
          simp [hk]
        rw [← e]; exact hx
      obtain ⟨j, hj, hxj⟩ := List.mem_flatMap.1 (mem_nubM _ _ hx')
      rcases List.mem_cons.1 hxj with rfl | hxj
      · exact .inl hj
      · exact .inr ⟨j, hj, getD_prefix (List.IsPrefix.trans (List.prefix_append _ _) hp) hxj⟩
    | succ i =>
      have := depsOf_spec os (k + 1) (acc ++ [nubM 0 ((direct o').flatMap fun j => j :: acc.getD j [])]) (by simp [hk]) i o (by simpa using ho) x
      rw [show k + 1 + i = k + (i + 1) from by omega] at this
      exact this hx
theorem deps_spec {i : Nat} {o : Oper} (ho : ops[i]? = some o) {x : Nat} (hx : x ∈ (depsOf ops 0 [] ops.toList).getD i []) : x ∈ direct o ∨ ∃ d ∈ direct o, x ∈ (depsOf ops 0 [] ops.toList).getD d [] := by
  have := depsOf_spec (ops := ops) ops.toList 0 [] rfl i o (by simpa using ho) x
  rw [Nat.zero_add] at this
  exact this hx
/-! ### The region -/
/-- What is still to come. -/
def rem (n : Nat) (l : Array Bool) : List Nat := (List.range n).filter fun i => !l.getD i true
theorem rem_split {n : Nat} {l : Array Bool} {i : Nat} (hi : i < n) (hs : l.size = n) (h : l.getD i true = false) : ∃ pre post, rem n l = pre ++ i :: post ∧ rem n (l.setIfInBounds i true) = pre ++ post ∧ ∀ p ∈ pre, l.getD p true = false := by
  have hr : List.range n = List.range' 0 i ++ (i :: List.range' (i + 1) (n - i - 1)) := by
    have h1 : List.range' i (n - i) = i :: List.range' (i + 1) (n - i - 1) := by
      obtain ⟨m, hm⟩ : ∃ m, n - i = m + 1 := ⟨n - i - 1, by omega⟩
      rw [hm, List.range'_succ]; rfl
    have h2 := List.range'_append_1 (s := 0) (m := i) (n := n - i)
    rw [Nat.zero_add, h1] at h2
    rw [List.range_eq_range', h2]
    congr 1; omega
  have hset : ∀ p, p ≠ i → (l.setIfInBounds i true).getD p true = l.getD p true := fun p hp => by
    simp [Array.getD_eq_getD_getElem?, Array.getElem?_setIfInBounds_ne (Ne.symm hp)]
  have hseti : (l.setIfInBounds i true).getD i true = true := by
    simp [Array.getD_eq_getD_getElem?, hs, hi]
  refine ⟨(List.range' 0 i).filter fun p => !l.getD p true, (List.range' (i + 1) (n - i - 1)).filter fun p => !l.getD p true, ?_, ?_, ?_⟩
  · unfold rem
    rw [hr, List.filter_append, List.filter_cons]
    simp [h]
  · unfold rem
    rw [hr, List.filter_append, List.filter_cons]
    simp only [hseti, Bool.not_true, Bool.false_eq_true, if_false]
    congr 1
    · exact List.filter_congr fun p hp => by
        have : p ≠ i := by have := (List.mem_range'_1.1 hp); omega
        rw [hset p this]
    · exact List.filter_congr fun p hp => by
        have : p ≠ i := by have := (List.mem_range'_1.1 hp); omega
        rw [hset p this]
  · intro p hp
    have := (List.mem_filter.1 hp).2
    simpa using this
variable {w0 : World} {Z0 : Zs} {M0 : Nat → Prop} {Z : Zs} {β : List Nat} {γ : List Value} {w : World}
theorem fwd_ok (h : fwd ops = true) : Own.forwardB .any ops = true := h
theorem EN.drew {S : Obs} {T : Toks} (E : EN P w0 Z0 M0 Z β γ S T w) : EN P w0 Z0 M0 Z β γ S T w.drew ∧ VX Z Z β β γ γ T T w w.drew :=
  E.grow (grow_drew w) (fun _ _ h => h) (fun _ _ h => .inl h) (fun b o h => E.zs b o h)
theorem evR_sound (hcf : OKF P cf) {id : Nat} {draw : Bool} {s s' : St} {a : Act} {Q : Exit → Act → World → Prop} (E : EN P w0 Z0 M0 Z β γ s.S s.T w) (F : FR P Z β γ s.T w s.fr a) (h : evR P cf ops draw s = some s')
    (hQ : ∀ a' w', After P w0 Z0 M0 Z β γ s.T w s' a' w' → Q .normal a' w') : (Code.region id ops draw).wp P Q a w := by
  unfold evR at h
  cases draw with
  | false =>
    simp only [Bool.false_eq_true, if_false] at h
    exact wp_region_list (evOps_sound hcf ops.toList E F h hQ)
  | true =>
    simp only [if_true] at h
    split at h
    case h_2 => cases h
    rename_i r hr
    split at h
    case isFalse => cases h
    rename_i hm
    simp only [Bool.and_eq_true] at hm
    simp only [Option.some.injEq] at h
    subst h
    obtain ⟨sf, log⟩ := r
    have hdeps := fun i o (ho : ops[i]? = some o) x hx => deps_spec (ops := ops) (i := i) ho (x := x) hx
    generalize hD : depsOf ops 0 [] ops.toList = deps at hr hdeps
    obtain ⟨E1, X1⟩ := E.drew
    have hrem0 : rem ops.size (Array.replicate ops.size false) = List.range ops.size := by
      unfold rem
      rw [List.filter_eq_self]
      intro i hi
      have : i < ops.size := by simpa using hi
      simp [Array.getD, this]
    refine Own.region_inv hm.1 (fun l a' wx => l.size = ops.size ∧ (∀ i x, l.getD i false = true → x ∈ deps.getD i [] → l.getD x false = true) ∧
      ∃ s1 Z1 β1 γ1 log, EN P w0 Z0 M0 Z1 β1 γ1 s1.S s1.T wx ∧ FR P Z1 β1 γ1 s1.T wx s1.fr a' ∧ VX Z Z1 β β1 γ γ1 s.T s1.T w.drew wx ∧ evD P cf ops deps (rem ops.size l) s1 = some (sf, log)) ?_ ?_ ?_
    · refine ⟨by simp, ?_, s, Z, β, γ, log, E1, F.ext X1, .refl _ _ _ _ _, by rw [hrem0]; exact hr⟩
      intro i x hi
      have : (Array.replicate ops.size false).getD i false = false := by
        by_cases hi' : i < ops.size <;> simp [Array.getD, hi']
      rw [this] at hi; cases hi
    · rintro l a1 w1 i _ ⟨hl, hcl, s1, Z1, β1, γ1, log1, E2, F2, X2, hev⟩ hi
      obtain ⟨hi1, o, ho, hi2⟩ := Own.ready_of hi
      have hin : i < ops.size := (Array.getElem?_eq_some_iff.1 ho).1
      obtain ⟨pre, post, hs1, hs2, hs3⟩ := rem_split hin hl hi1
      have hdir : ∀ d ∈ direct o, l.getD d false = true := by
        intro d hd
        unfold direct at hd
        obtain ⟨e, he, hee⟩ := List.mem_filterMap.1 hd
        split at hee
        · rename_i hb
          simp only [Option.some.injEq] at hee
          subst hee
          exact hi2 e (by simpa using he) hb
        · cases hee
      have hdi : ∀ x ∈ deps.getD i [], l.getD x false = true := by
        intro x hx
        rcases hdeps i o ho x hx with h | ⟨d, hd, hx'⟩
        · exact hdir x h
        · exact hcl d x (hdir d hd) hx'
      rw [hs1] at hev
      have hltt : ∀ p, l.getD p true = false → l.getD p false = false := by
        intro p hp
        rw [Array.getD_eq_getD_getElem?] at hp ⊢
        cases hq : l[p]? with
        | none => rfl
        | some b => rw [hq] at hp; exact hp
      obtain ⟨o', si, log', h1, h2, h3, _, _⟩ := evD_front pre hev (fun p hp => by
        cases hq : (deps.getD i []).contains p with
        | false => rfl
        | true =>
          have h1 := hdi p (List.contains_iff_mem.mp hq)
          have h2 := hltt p (hs3 p hp)
          rw [h1] at h2; cases h2)
      rw [ho] at h1
      obtain rfl := Option.some.inj h1
      have hset : ∀ p, p ≠ i → (l.setIfInBounds i true).getD p false = l.getD p false := fun p hp => by
        simp [Array.getD_eq_getD_getElem?, Array.getElem?_setIfInBounds_ne (Ne.symm hp)]
      have hseti : (l.setIfInBounds i true).getD i false = true := by
        simp [Array.getD_eq_getD_getElem?, hl, hin]
      unfold wpOp
      simp only [ho]
      have := evG_sound (Q := Q) hcf E2 F2 h2 (fun a' w' => (l.setIfInBounds i true).size = ops.size ∧ (∀ j x, (l.setIfInBounds i true).getD j false = true → x ∈ deps.getD j [] → (l.setIfInBounds i true).getD x false = true) ∧
        ∃ s1 Z1 β1 γ1 log, EN P w0 Z0 M0 Z1 β1 γ1 s1.S s1.T w' ∧ FR P Z1 β1 γ1 s1.T w' s1.fr a' ∧ VX Z Z1 β β1 γ γ1 s.T s1.T w.drew w' ∧ evD P cf ops deps (rem ops.size (l.setIfInBounds i true)) s1 = some (sf, log)) (fun a' w' hA => by
          obtain ⟨Z3, β3, γ3, E3, F3, X3⟩ := hA
          refine ⟨by simpa using hl, fun j x hj hx => ?_, si, Z3, β3, γ3, log', E3, F3, X2.trans X3, by rw [hs2]; exact h3⟩
          by_cases hxi : x = i
          · subst hxi; exact hseti
          · rw [hset x hxi]
            by_cases hji : j = i
            · subst hji; exact hdi x hx
            · rw [hset j hji] at hj; exact hcl j x hj hx)
      split
      · rename_i hw
        rw [if_pos hw] at this
        exact .inl this
      · rename_i hw
        rw [if_neg hw] at this
        exact this
    · rintro l a1 w1 _ hnone ⟨hl, hcl, s1, Z1, β1, γ1, log1, E2, F2, X2, hev⟩
      have hall := Own.all_listed (fwd_ok hm.2) hl hnone
      have hrem : rem ops.size l = [] := by
        unfold rem
        rw [List.filter_eq_nil_iff]
        intro i hi
        have hi' : i < ops.size := by simpa using hi
        have h1 := hall i hi'
        have h2 : l.getD i true = true := by
          rw [Array.getD_eq_getD_getElem?] at h1 ⊢
          cases hq : l[i]? with
          | none => rfl
          | some b => rw [hq] at h1; exact h1
        simp [h2]
      rw [hrem] at hev
      simp only [evD, Option.some.injEq, Prod.mk.injEq] at hev
      obtain ⟨rfl, _⟩ := hev
      exact hQ _ _ ⟨Z1, β1, γ1, E2, F2, X1.trans X2⟩
end
end Go.Proofs.Ytjfaafnngloblaa.Ev
