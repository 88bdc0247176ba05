/- A region that draws its order: each operation once, by what it needs and what it makes; they may come in whatever order. No condition. -/
import Derived.Test.YtpoecjieagkoaaaInv1
import Derived.Test.YtpoecjieagkoaaaOwn5
namespace Go.Proofs.Ytpoecjieagkoaaa.Own
open Go Go.RowKit Go.Proofs.YtpoecjieagkoaaaW.PrintWords Go.Proofs.YtpoecjieagkoaaaW.PrintLast
set_option linter.unusedVariables false
section flat
variable {α : Type}
def allOf : Nat → (Nat → List α) → List α
  | 0, _ => []
  | n + 1, f => allOf n f ++ f n
theorem allOf_congr : ∀ {n : Nat} {f g : Nat → List α}, (∀ j, j < n → f j = g j) → allOf n f = allOf n g
  | 0, _, _, _ => rfl
  | n + 1, f, g, h => by rw [allOf, allOf, allOf_congr (fun j hj => h j (by omega)), h n (by omega)]
theorem allOf_pull (i : Nat) : ∀ {n : Nat} (f : Nat → List α), i < n → (allOf n f).Perm (f i ++ allOf n (fun j => if j = i then [] else f j))
  | 0, f, h => absurd h (Nat.not_lt_zero _)
  | n + 1, f, h => by
    rw [allOf, allOf]
    by_cases hi : i = n
    · subst hi
      rw [if_pos rfl, List.append_nil, allOf_congr (f := fun j => if j = i then [] else f j) (g := f) (fun j hj => if_neg (by omega))]
      exact List.perm_append_comm
    · rw [if_neg (Ne.symm hi), ← List.append_assoc]
      exact (allOf_pull i f (by omega)).append_right _
theorem allOf_pulls : ∀ {es : List Nat} {n : Nat} (f : Nat → List α), es.Nodup → (∀ e ∈ es, e < n) → (allOf n f).Perm (es.flatMap f ++ allOf n (fun j => if j ∈ es then [] else f j))
  | [], n, f, _, _ => by
    have : allOf n (fun j => if j ∈ ([] : List Nat) then [] else f j) = allOf n f := allOf_congr (fun j hj => if_neg (by simp))
    rw [this]; exact List.Perm.refl _
  | e :: r, n, f, hn, hl => by
    obtain ⟨h1, h2⟩ := List.nodup_cons.mp hn
    have h3 := allOf_pull e f (hl e (by simp))
    have h4 := allOf_pulls (es := r) (n := n) (fun j => if j = e then [] else f j) h2 (fun x hx => hl x (List.mem_cons_of_mem _ hx))
    have h5 : r.flatMap (fun j => if j = e then [] else f j) = r.flatMap f := by
      rw [List.flatMap_def, List.flatMap_def]
      exact congrArg List.flatten (List.map_congr_left fun x hx => if_neg (by rintro rfl; exact h1 hx))
    have h6 : allOf n (fun j => if j ∈ r then [] else (fun j => if j = e then [] else f j) j) = allOf n (fun j => if j ∈ e :: r then [] else f j) := allOf_congr fun j hj => by
      by_cases a1 : j ∈ r
      · rw [if_pos a1, if_pos (List.mem_cons_of_mem _ a1)]
      · rw [if_neg a1]
        by_cases a2 : j = e
        · rw [if_pos (by rw [a2]; simp)]; simp [a2]
        · rw [if_neg (by simp [a1, a2])]; simp [a2]
    rw [h5, h6] at h4
    rw [List.flatMap_cons, List.append_assoc]
    exact h3.trans (h4.append_left _)
end flat
def dstOf (ops : Array Oper) (j : Nat) : Option Tmp := (ops[j]?).bind (·.dst)
theorem getD_get {a : Act} {t : Nat} {v : Value} (h : a.tmps.getD t undef = v) : a.tmps[t]?.getD undef = v := by rw [← Array.getD_eq_getD_getElem?]; exact h
theorem no_dst {ops : Array Oper} {t : Nat} (h : (List.range ops.size).all (fun j => dstOf ops j != some t) = true) (l : Array Bool) : ∀ j, dstOf ops j = some t → l.getD j false = false := fun j hj => by
  have hjo : j < ops.size := by
    unfold dstOf at hj
    cases hh : ops[j]? with
    | none => rw [hh] at hj; cases hj
    | some x => exact (Array.getElem?_eq_some_iff.1 hh).1
  have := List.all_eq_true.mp h j (List.mem_range.mpr hjo)
  simp [hj] at this
theorem wanted_of {ops : Array Oper} {o : Oper} {a : Act} {g t : Nat} {b c : Bool} (hg : o.guard = some (g, b)) (hd : dstOf ops g = some t) (ht : a.tmps.getD t undef = .bool c) : Region.wanted o (yielded ops a.tmps) = (c == b) := by
  have h1 : a.tmps[t]? = some (.bool c) := by
    have h2 := getD_get ht
    cases h : a.tmps[t]? with
    | none => rw [h] at h2; cases h2
    | some x => rw [h] at h2; exact congrArg some h2
  have hy : yielded ops a.tmps g = some c := by
    unfold yielded
    unfold dstOf at hd
    rw [hd]
    simp [h1]
  unfold Region.wanted
  rw [hg]
  simp [hy]
theorem wanted_yes {ops : Array Oper} {o : Oper} {a : Act} {g t : Nat} {b c : Bool} (hg : o.guard = some (g, b)) (hd : dstOf ops g = some t) (ht : a.tmps.getD t undef = .bool c) (h : (c == b) = true) : Region.wanted o (yielded ops a.tmps) = true := (wanted_of hg hd ht).trans h
theorem wanted_no {ops : Array Oper} {o : Oper} {a : Act} {g t : Nat} {b c : Bool} (hg : o.guard = some (g, b)) (hd : dstOf ops g = some t) (ht : a.tmps.getD t undef = .bool c) (h : (c == b) = false) : Region.wanted o (yielded ops a.tmps) = false := (wanted_of hg hd ht).trans h
def dstB (ops : Array Oper) (n : Nat) : Bool := (List.range ops.size).all fun j => match dstOf ops j with
  | some t => decide (t < n) && (List.range ops.size).all fun k => j == k || dstOf ops k != some t
  | none => true
def fpB (ops : Array Oper) (fp : Nat → List Nat) : Bool := (List.range ops.size).all fun j => (fp j).all fun d => Region.reachB .any ops d ops.size j
def eatB (ops : Array Oper) (E : Nat → List Nat) : Bool := (List.range ops.size).all fun i => decide (E i).Nodup && (E i).all fun e => decide (e < ops.size) && Region.reachB .any ops e ops.size i && (List.range ops.size).all fun c => c == i || !(E c).contains e
def finB (n : Nat) (E : Nat → List Nat) (fin : List Nat) : Bool := decide fin.Nodup && fin.all fun j => decide (j < n) && !(List.range n).any fun c => (E c).contains j
def eaten (n : Nat) (E : Nat → List Nat) (l : Array Bool) (j : Nat) : Bool := (List.range n).any fun c => (E c).contains j && l.getD c false
def brings (bi : List Nat) (B : Nat → List Thing) (j : Nat) : List Thing := if j ∈ bi then B j else []
def nowT (n : Nat) (E : Nat → List Nat) (T : Nat → Value → List Thing) (bi : List Nat) (B : Nat → List Thing) (l : Array Bool) (vs : Nat → Value) (j : Nat) : List Thing := if l.getD j false then (if eaten n E l j then [] else T j (vs j)) else brings bi B j
structure RegI (ops : Array Oper) (fp E : Nat → List Nat) (R : Nat → Value → List Value → Prop) (T : Nat → Value → List Thing) (bi : List Nat) (B : Nat → List Thing) (a0 : Act) (w0 : World) (F0 P0 : Nat → Prop) (ts0 : List Thing) (l : Array Bool) (a : Act) (w : World) (vs : Nat → Value) : Prop where
  size : a.tmps.size = a0.tmps.size
  defers : a.defers = a0.defers
  got : ∀ j t, dstOf ops j = some t → l.getD j false = true → a.tmps.getD t undef = vs j
  old : ∀ t, (∀ j, dstOf ops j = some t → l.getD j false = false) → a.tmps.getD t undef = a0.tmps.getD t undef
  known : ∀ j, j < ops.size → l.getD j false = true → R j (vs j) ((fp j).map vs)
  closed : ListedClosed .any ops l
  st : St w0 F0 P0 (allOf ops.size (nowT ops.size E T bi B l vs) ++ ts0) w
def AllOb (Ob : Nat → Oper → Prop) : Nat → List Oper → Prop
  | _, [] => True
  | i, o :: os => Ob i o ∧ AllOb Ob (i + 1) os
theorem AllOb.at {Ob : Nat → Oper → Prop} : ∀ {os : List Oper} {k : Nat}, AllOb Ob k os → ∀ (i : Nat) (o : Oper), os[i]? = some o → Ob (k + i) o
  | [], k, h, i, o, ho => by simp at ho
  | x :: os, k, h, 0, o, ho => by simp at ho; subst ho; exact h.1
  | x :: os, k, h, i + 1, o, ho => by
    have := AllOb.at h.2 i o (by simpa using ho)
    rw [show k + (i + 1) = k + 1 + i by omega]; exact this
def putsOf (ops : Array Oper) (vs : Nat → Value) (a0 : Act) : Act := (List.range ops.size).foldl (fun a j => a.put (dstOf ops j) (vs j)) a0
def putsL (vs : Nat → Value) : Nat → List Oper → Act → Act
  | _, [], a => a
  | i, o :: os, a => putsL vs (i + 1) os (a.put o.dst (vs i))
theorem putsL_eq (ops : Array Oper) (vs : Nat → Value) (a0 : Act) : putsOf ops vs a0 = putsL vs 0 ops.toList a0 := by
  have key : ∀ (os : List Oper) (k : Nat) (a : Act), (∀ i o, os[i]? = some o → ops[k + i]? = some o) → (List.range' k os.length).foldl (fun a j => a.put (dstOf ops j) (vs j)) a = putsL vs k os a := fun os => by
    induction os with
    | nil => intro k a _; rfl
    | cons o os ih =>
      intro k a h
      have h0 := h 0 o rfl
      rw [List.length_cons, List.range'_succ, List.foldl_cons, putsL]
      have e : dstOf ops k = o.dst := by unfold dstOf; rw [show ops[k]? = some o from h0]; rfl
      rw [e]
      exact ih (k + 1) _ (fun i o' hi => by rw [show k + 1 + i = k + (i + 1) by omega]; exact h (i + 1) o' (by simpa using hi))
  have := key ops.toList 0 a0 (fun i o hi => by rw [Nat.zero_add]; simpa using hi)
  rw [← this]
  unfold putsOf
  rw [List.range_eq_range', Array.length_toList]
theorem put_size (a : Act) (d : Option Tmp) (v : Value) : (a.put d v).tmps.size = a.tmps.size := by cases d <;> simp [Act.put]
theorem put_defers (a : Act) (d : Option Tmp) (v : Value) : (a.put d v).defers = a.defers := by cases d <;> rfl
theorem put_ne (a : Act) (d : Option Tmp) (v : Value) (t : Nat) (h : d ≠ some t) : (a.put d v).tmps.getD t undef = a.tmps.getD t undef := by
  cases d with
  | none => rfl
  | some x =>
    have hx : x ≠ t := fun e => h (by rw [e])
    simp [Act.put, Array.getElem?_setIfInBounds_ne hx]
theorem put_eq (a : Act) (v : Value) (t : Nat) (h : t < a.tmps.size) : (a.put (some t) v).tmps.getD t undef = v := by
  simp [Act.put, h]
theorem getD_set {l : Array Bool} {i j : Nat} (hi : i < l.size) : (l.setIfInBounds i true).getD j false = if j = i then true else l.getD j false := by
  by_cases h : j = i
  · subst h; simp [hi]
  · rw [if_neg h]; simp [Array.getElem?_setIfInBounds_ne (Ne.symm h)]
section
variable {P : Program} {ops : Array Oper} {Q : Exit → Act → World → Prop} {fp E : Nat → List Nat} {R : Nat → Value → List Value → Prop} {T : Nat → Value → List Thing} {a0 : Act} {w0 w : World} {F0 P0 : Nat → Prop} {ts0 : List Thing}
/-- What is to be shown of one operation. -/
def Ob (P : Program) (ops : Array Oper) (Q : Exit → Act → World → Prop) (fp E : Nat → List Nat) (R : Nat → Value → List Value → Prop) (T : Nat → Value → List Thing) (bi : List Nat) (B : Nat → List Thing) (a0 : Act) (w0 : World) (F0 P0 : Nat → Prop) (ts0 : List Thing) (i : Nat) (o : Oper) : Prop :=
  ∀ (l : Array Bool) (a : Act) (w : World) (vs : Nat → Value) (ts : List Thing),
    (∀ j t, dstOf ops j = some t → l.getD j false = true → a.tmps.getD t undef = vs j) →
    (∀ t, (∀ j, dstOf ops j = some t → l.getD j false = false) → a.tmps.getD t undef = a0.tmps.getD t undef) →
    (∀ d, Region.reachB .any ops d ops.size i = true → l.getD d false = true) →
    (∀ j, j < ops.size → l.getD j false = true → R j (vs j) ((fp j).map vs)) →
    St w0 F0 P0 ((E i).flatMap (fun e => T e (vs e)) ++ (brings bi B i ++ (ts ++ ts0))) w →
    ∀ K : Act → World → Prop, (∀ v w', R i v ((fp i).map vs) → St w0 F0 P0 (T i v ++ (ts ++ ts0)) w' → K (a.put o.dst v) w') →
      if Region.wanted o (yielded ops a.tmps) = true then Oper.wp P o a w K Q else K (a.put o.dst undef) w
theorem puts_got (hd : dstB ops a0.tmps.size = true) (vs : Nat → Value) : ∀ n, n ≤ ops.size →
    ((List.range n).foldl (fun a j => a.put (dstOf ops j) (vs j)) a0).tmps.size = a0.tmps.size ∧ ((List.range n).foldl (fun a j => a.put (dstOf ops j) (vs j)) a0).defers = a0.defers ∧
    (∀ j t, j < n → dstOf ops j = some t → ((List.range n).foldl (fun a j => a.put (dstOf ops j) (vs j)) a0).tmps.getD t undef = vs j) ∧
    (∀ t, (∀ j, j < n → dstOf ops j ≠ some t) → ((List.range n).foldl (fun a j => a.put (dstOf ops j) (vs j)) a0).tmps.getD t undef = a0.tmps.getD t undef)
  | 0, _ => ⟨rfl, rfl, fun j t h => absurd h (Nat.not_lt_zero _), fun _ _ => rfl⟩
  | n + 1, h => by
    obtain ⟨h1, h2, h3, h4⟩ := puts_got hd vs n (by omega)
    rw [List.range_succ, List.foldl_append, List.foldl_cons, List.foldl_nil]
    generalize (List.range n).foldl (fun a j => a.put (dstOf ops j) (vs j)) a0 = b at h1 h2 h3 h4
    refine ⟨by rw [put_size, h1], by rw [put_defers, h2], fun j t hj hjt => ?_, fun t ht => ?_⟩
    · have hd' := List.all_eq_true.mp hd j (List.mem_range.mpr (by omega))
      rw [hjt] at hd'
      simp only [Bool.and_eq_true, decide_eq_true_eq] at hd'
      by_cases hjn : j = n
      · subst hjn
        rw [hjt]
        exact put_eq _ _ _ (by rw [h1]; exact hd'.1)
      · rw [put_ne _ _ _ _ ?_]
        · exact h3 j t (by omega) hjt
        · have := List.all_eq_true.mp hd'.2 n (List.mem_range.mpr (by omega))
          simpa [hjn] using this
    · rw [put_ne _ _ _ _ (ht n (by omega))]
      exact h4 t (fun j hj => ht j (by omega))
theorem act_ext {a b : Act} (h1 : a.tmps.size = b.tmps.size) (h2 : a.defers = b.defers) (h3 : ∀ t, a.tmps.getD t undef = b.tmps.getD t undef) : a = b := by
  obtain ⟨x, d⟩ := a
  obtain ⟨y, e⟩ := b
  have h1' : x.size = y.size := h1
  have : x = y := Array.ext h1' fun i p q => by
    have := h3 i
    simpa [p, q] using this
  cases this
  cases h2
  rfl
theorem region_plan {id : Nat} (fp E : Nat → List Nat) (R : Nat → Value → List Value → Prop) (T : Nat → Value → List Thing) (fin : List Nat) (bi : List Nat) (B : Nat → List Thing) (hm : P.follows .mixedOrders = true) (hd : dstB ops a0.tmps.size = true) (hfw : forwardB .any ops = true) (hfp : fpB ops fp = true) (he : eatB ops E = true) (hfin : finB ops.size E fin = true) (hbi : (decide bi.Nodup && bi.all fun j => decide (j < ops.size)) = true)
    (h0 : St w0 F0 P0 (bi.flatMap B ++ ts0) w)
    (hstep : AllOb (Ob P ops Q fp E R T bi B a0 w0 F0 P0 ts0) 0 ops.toList)
    (hend : ∀ (vs : Nat → Value) (w : World), (∀ j, j < ops.size → R j (vs j) ((fp j).map vs)) → St w0 F0 P0 (fin.flatMap (fun j => T j (vs j)) ++ ts0) w → Q .normal (putsL vs 0 ops.toList a0) w) :
    (Code.region id ops true).wp P Q a0 w := by
  refine region_inv hm (fun l a w => ∃ vs, RegI ops fp E R T bi B a0 w0 F0 P0 ts0 l a w vs) ⟨fun _ => undef, rfl, rfl, fun j t _ h => ?_, fun _ _ => rfl, fun j _ h => ?_, fun j oj hj h => ?_, ?_⟩ (fun l a w i hs ⟨vs, hI⟩ hi => ?_) (fun l a w hs hr ⟨vs, hI⟩ => ?_)
  · simp [Array.getElem?_replicate] at h
    split at h <;> simp at h
  · simp [Array.getElem?_replicate] at h
    split at h <;> simp at h
  · simp [Array.getElem?_replicate] at h
    split at h <;> simp at h
  · have hF : ∀ j, (Array.replicate ops.size false).getD j false = false := fun j => by
      simp [Array.getElem?_replicate]
      split <;> simp
    have e1 : allOf ops.size (nowT ops.size E T bi B (Array.replicate ops.size false) (fun _ => undef)) = allOf ops.size (brings bi B) := allOf_congr fun j _ => by
      unfold nowT
      rw [hF]
      rfl
    rw [e1]
    simp only [Bool.and_eq_true, decide_eq_true_eq] at hbi
    have hp := allOf_pulls (es := bi) (n := ops.size) (brings bi B) hbi.1 (fun e he => by simpa using List.all_eq_true.mp hbi.2 e he)
    have q1 : bi.flatMap (brings bi B) = bi.flatMap B := by
      rw [List.flatMap_def, List.flatMap_def]
      exact congrArg List.flatten (List.map_congr_left fun e he => if_pos he)
    have q2 : allOf ops.size (fun j => if j ∈ bi then [] else brings bi B j) = [] := by
      have : ∀ n, allOf n (fun j => if j ∈ bi then [] else brings bi B j) = [] := fun n => by
        induction n with
        | zero => rfl
        | succ n ih =>
          rw [allOf, ih]
          by_cases hb : n ∈ bi
          · simp [hb]
          · simp [hb, brings]
      exact this _
    rw [q1, q2, List.append_nil] at hp
    exact (h0.drewN 1).perm (hp.symm.append_right ts0)
  · obtain ⟨hun, o, ho, hall⟩ := ready_of hi
    have hio : i < ops.size := (Array.getElem?_eq_some_iff.1 ho).1
    have hil : i < l.size := by omega
    have hunf : l.getD i false = false := by
      rw [Array.getD_eq_getD_getElem?, Array.getElem?_eq_getElem hil] at hun ⊢
      simpa using hun
    have hob : Ob P ops Q fp E R T bi B a0 w0 F0 P0 ts0 i o := by
      have := AllOb.at hstep i o (by simpa using ho)
      rwa [Nat.zero_add] at this
    have hanc : ∀ d, Region.reachB .any ops d ops.size i = true → l.getD d false = true := fun d hdr => by
      have hsz : 0 < ops.size := by omega
      obtain ⟨n, hn⟩ : ∃ n, ops.size = n + 1 := ⟨ops.size - 1, by omega⟩
      rw [hn] at hdr
      unfold Region.reachB at hdr
      rw [ho] at hdr
      obtain ⟨e, he1, h1⟩ := Array.any_eq_true'.1 hdr
      simp only [Bool.and_eq_true, Bool.or_eq_true, beq_iff_eq] at h1
      have hle := hall e he1 h1.1
      rcases h1.2 with h2 | h2
      · rw [← h2]; exact hle
      · exact Region.reach_listed hI.closed n e.on h2 hle
    have heat := List.all_eq_true.mp he i (List.mem_range.mpr hio)
    simp only [Bool.and_eq_true, decide_eq_true_eq] at heat
    have heat2 : ∀ e ∈ E i, e < ops.size ∧ Region.reachB .any ops e ops.size i = true ∧ ∀ c, c < ops.size → c ≠ i → e ∉ E c := fun e hei => by
      have h1 := List.all_eq_true.mp heat.2 e hei
      simp only [Bool.and_eq_true, decide_eq_true_eq] at h1
      refine ⟨h1.1.1, h1.1.2, fun c hc hci hec => ?_⟩
      have h2 := List.all_eq_true.mp h1.2 c (List.mem_range.mpr hc)
      simp [hci, hec] at h2
    -- what the operation takes is there
    have hperm := allOf_pulls (es := E i) (n := ops.size) (nowT ops.size E T bi B l vs) heat.1 (fun e he1 => (heat2 e he1).1)
    have hfm : (E i).flatMap (nowT ops.size E T bi B l vs) = (E i).flatMap (fun e => T e (vs e)) := by
      rw [List.flatMap_def, List.flatMap_def]
      refine congrArg List.flatten (List.map_congr_left fun e hei => ?_)
      obtain ⟨q1, q2, q3⟩ := heat2 e hei
      have hne : eaten ops.size E l e = false := by
        unfold eaten
        rw [List.any_eq_false]
        intro c hc
        by_cases hci : c = i
        · subst hci; rw [hunf]; simp
        · have := q3 c (List.mem_range.mp hc) hci
          simp [this]
      show (if l.getD e false then (if eaten ops.size E l e then [] else T e (vs e)) else _) = T e (vs e)
      rw [hanc e q2, hne]
      rfl
    rw [hfm] at hperm
    have hiE : i ∉ E i := fun hii => by
      have := hanc i (heat2 i hii).2.1
      rw [hunf] at this; cases this
    have hp2 := allOf_pull i (fun j => if j ∈ E i then [] else nowT ops.size E T bi B l vs j) hio
    have hBi : (if i ∈ E i then [] else nowT ops.size E T bi B l vs i) = brings bi B i := by
      rw [if_neg hiE]
      unfold nowT
      rw [hunf]
      rfl
    rw [hBi] at hp2
    have hperm := hperm.trans (hp2.append_left _)
    have hS := hI.st.perm ((hperm.append_right ts0).trans (by rw [List.append_assoc, List.append_assoc]))
    have hstepK := hob l a w vs _ hI.got hI.old hanc hI.known hS (fun a' w' => ∃ vs', RegI ops fp E R T bi B a0 w0 F0 P0 ts0 (l.setIfInBounds i true) a' w' vs') ?_
    · unfold wpOp
      rw [ho]
      simp only []
      by_cases hw : Region.wanted o (yielded ops a.tmps) = true
      · rw [if_pos hw] at hstepK ⊢
        exact .inl hstepK
      · rw [if_neg hw] at hstepK ⊢
        exact hstepK
    · intro v w' hR hSt
      have hnotfp : ∀ j, j < ops.size → l.getD j false = true → ∀ d ∈ fp j, d ≠ i := fun j hj hlj d hdj hdi => by
        have h1 := List.all_eq_true.mp (List.all_eq_true.mp hfp j (List.mem_range.mpr hj)) d hdj
        have h2 := Region.reach_listed hI.closed _ _ h1 hlj
        rw [hdi, hunf] at h2
        cases h2
      have hnoti : ∀ d ∈ fp i, d ≠ i := fun d hdi e => by
        have h1 := List.all_eq_true.mp (List.all_eq_true.mp hfp i (List.mem_range.mpr hio)) d hdi
        have h2 := hanc d h1
        rw [e, hunf] at h2
        cases h2
      have hdsti : ∀ t, dstOf ops i = some t → t < a0.tmps.size ∧ ∀ k, k < ops.size → k ≠ i → dstOf ops k ≠ some t := fun t ht => by
        have h1 := List.all_eq_true.mp hd i (List.mem_range.mpr hio)
        rw [ht] at h1
        simp only [Bool.and_eq_true, decide_eq_true_eq] at h1
        refine ⟨h1.1, fun k hk hki hkt => ?_⟩
        have h2 := List.all_eq_true.mp h1.2 k (List.mem_range.mpr hk)
        simp [hkt, Ne.symm hki] at h2
      have hdo : o.dst = dstOf ops i := by unfold dstOf; rw [ho]; rfl
      have hsome : ∀ k t, dstOf ops k = some t → k < ops.size := fun k t hk => by
        unfold dstOf at hk
        cases hh : ops[k]? with
        | none => rw [hh] at hk; cases hk
        | some x => exact (Array.getElem?_eq_some_iff.1 hh).1
      refine ⟨fun j => if j = i then v else vs j, ?_, ?_, fun j t hjt hlj => ?_, fun t ht => ?_, fun j hj hlj => ?_, hI.closed.set hi, ?_⟩
      · rw [put_size, hI.size]
      · rw [put_defers, hI.defers]
      · rw [hdo]
        by_cases hji : j = i
        · subst hji
          rw [if_pos rfl, hjt]
          exact put_eq _ _ _ (by rw [hI.size]; exact (hdsti t hjt).1)
        · rw [if_neg hji]
          rw [getD_set hil, if_neg hji] at hlj
          rw [put_ne _ _ _ _ (fun e => (hdsti t e).2 j (hsome j t hjt) hji hjt)]
          exact hI.got j t hjt hlj
      · rw [hdo]
        have hit : dstOf ops i ≠ some t := fun e => by
          have := ht i e
          rw [getD_set hil, if_pos rfl] at this
          cases this
        rw [put_ne _ _ _ _ hit]
        refine hI.old t fun j hjt => ?_
        have := ht j hjt
        rw [getD_set hil] at this
        by_cases hji : j = i
        · rw [if_pos hji] at this; cases this
        · rwa [if_neg hji] at this
      · have hmap : ∀ k, (∀ d ∈ fp k, d ≠ i) → (fp k).map (fun j => if j = i then v else vs j) = (fp k).map vs := fun k hk => List.map_congr_left fun d hd1 => if_neg (hk d hd1)
        by_cases hji : j = i
        · subst hji
          rw [if_pos rfl, hmap j hnoti]
          exact hR
        · rw [getD_set hil, if_neg hji] at hlj
          rw [if_neg hji, hmap j (hnotfp j hj hlj)]
          exact hI.known j hj hlj
      · -- the things
        have hl' : ∀ j, (l.setIfInBounds i true).getD j false = if j = i then true else l.getD j false := fun j => getD_set hil
        have e1 := allOf_pull i (nowT ops.size E T bi B (l.setIfInBounds i true) (fun j => if j = i then v else vs j)) hio
        have heati : eaten ops.size E (l.setIfInBounds i true) i = false := by
          unfold eaten
          rw [List.any_eq_false]
          intro c hc hcc
          rw [Bool.and_eq_true] at hcc
          obtain ⟨c1, c2⟩ := hcc
          have hco := List.mem_range.mp hc
          have hc3 := List.all_eq_true.mp he c hc
          simp only [Bool.and_eq_true, decide_eq_true_eq] at hc3
          have hc4 := List.all_eq_true.mp hc3.2 i (by simpa using c1)
          simp only [Bool.and_eq_true, decide_eq_true_eq] at hc4
          have hr := hc4.1.2
          rw [hl'] at c2
          by_cases hci : c = i
          · subst hci
            have := hanc c hr
            rw [hunf] at this; cases this
          · rw [if_neg hci] at c2
            have := Region.reach_listed hI.closed _ _ hr c2
            rw [hunf] at this; cases this
        have e2 : nowT ops.size E T bi B (l.setIfInBounds i true) (fun j => if j = i then v else vs j) i = T i v := by
          unfold nowT
          rw [hl', if_pos rfl, heati]
          simp
        rw [e2] at e1
        have e3 : allOf ops.size (fun j => if j = i then [] else nowT ops.size E T bi B (l.setIfInBounds i true) (fun j => if j = i then v else vs j) j) = allOf ops.size (fun j => if j = i then [] else if j ∈ E i then [] else nowT ops.size E T bi B l vs j) := by
          refine allOf_congr fun j hj => ?_
          by_cases hji : j = i
          · rw [if_pos hji, if_pos hji]
          · rw [if_neg hji, if_neg hji]
            unfold nowT
            rw [hl', if_neg hji]
            simp only [if_neg hji]
            by_cases hjE : j ∈ E i
            · have : eaten ops.size E (l.setIfInBounds i true) j = true := by
                unfold eaten
                rw [List.any_eq_true]
                exact ⟨i, List.mem_range.mpr hio, by rw [hl', if_pos rfl]; simpa using hjE⟩
              rw [this, if_pos hjE, hanc j (heat2 j hjE).2.1]
              simp
            · have : eaten ops.size E (l.setIfInBounds i true) j = eaten ops.size E l j := by
                unfold eaten
                rw [Bool.eq_iff_iff, List.any_eq_true, List.any_eq_true]
                constructor
                · rintro ⟨c, c1, c2⟩
                  refine ⟨c, c1, ?_⟩
                  rw [hl'] at c2
                  by_cases hci : c = i
                  · subst hci
                    simp [hjE] at c2
                  · rwa [if_neg hci] at c2
                · rintro ⟨c, c1, c2⟩
                  refine ⟨c, c1, ?_⟩
                  rw [hl']
                  by_cases hci : c = i
                  · subst hci
                    simp [hjE] at c2
                  · rwa [if_neg hci]
              rw [this, if_neg hjE]
        rw [e3] at e1
        refine hSt.perm ?_
        rw [← List.append_assoc]
        exact (e1.symm).append_right ts0
  · have hall := all_listed hfw hs hr
    obtain ⟨p1, p2, p3, p4⟩ := puts_got hd vs ops.size (Nat.le_refl _)
    have ha : a = putsOf ops vs a0 := by
      refine act_ext (by rw [hI.size]; exact p1.symm) (by rw [hI.defers]; exact p2.symm) fun t => ?_
      by_cases hx : ∃ j, dstOf ops j = some t
      · obtain ⟨j, hj⟩ := hx
        have hjo : j < ops.size := by
          unfold dstOf at hj
          cases hh : ops[j]? with
          | none => rw [hh] at hj; cases hj
          | some x => exact (Array.getElem?_eq_some_iff.1 hh).1
        rw [hI.got j t hj (hall j hjo)]
        exact (p3 j t hjo hj).symm
      · rw [hI.old t (fun j hj => absurd ⟨j, hj⟩ hx)]
        exact (p4 t (fun j _ hj => hx ⟨j, hj⟩)).symm
    rw [ha, putsL_eq]
    refine hend vs w (fun j hj => hI.known j hj (hall j hj)) ?_
    have e1 : allOf ops.size (nowT ops.size E T bi B l vs) = allOf ops.size (fun j => if (List.range ops.size).any (fun c => (E c).contains j) then [] else T j (vs j)) := by
      refine allOf_congr fun j hj => ?_
      unfold nowT
      rw [hall j hj]
      have : eaten ops.size E l j = (List.range ops.size).any (fun c => (E c).contains j) := by
        unfold eaten
        rw [Bool.eq_iff_iff, List.any_eq_true, List.any_eq_true]
        constructor
        · rintro ⟨c, c1, c2⟩
          exact ⟨c, c1, (Bool.and_eq_true _ _ ▸ c2).1⟩
        · rintro ⟨c, c1, c2⟩
          exact ⟨c, c1, by rw [c2, hall c (List.mem_range.mp c1)]; rfl⟩
      rw [this]
      rfl
    have hst := hI.st
    rw [e1] at hst
    simp only [finB, Bool.and_eq_true, decide_eq_true_eq] at hfin
    have hf2 : ∀ j ∈ fin, j < ops.size ∧ (List.range ops.size).any (fun c => (E c).contains j) = false := fun j hj => by
      have := List.all_eq_true.mp hfin.2 j hj
      simp only [Bool.and_eq_true, decide_eq_true_eq, Bool.not_eq_true'] at this
      exact this
    have hp := allOf_pulls (es := fin) (n := ops.size) (fun j => if (List.range ops.size).any (fun c => (E c).contains j) then [] else T j (vs j)) hfin.1 (fun e he => (hf2 e he).1)
    have hq : fin.flatMap (fun j => if (List.range ops.size).any (fun c => (E c).contains j) then [] else T j (vs j)) = fin.flatMap (fun j => T j (vs j)) := by
      rw [List.flatMap_def, List.flatMap_def]
      exact congrArg List.flatten (List.map_congr_left fun e he => by rw [(hf2 e he).2]; rfl)
    rw [hq] at hp
    have h2 := hst.perm ((hp.trans List.perm_append_comm).append_right ts0)
    rw [List.append_assoc] at h2
    clear hst hp e1 hstep
    generalize allOf ops.size _ = X at h2
    induction X with
    | nil => exact h2
    | cons x X ih => exact ih h2.drop
end
end Go.Proofs.Ytpoecjieagkoaaa.Own
