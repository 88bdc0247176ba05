/- What a value of the evaluator stands for in memory; what keeps it. No condition. -/
import Derived.Test.YtjfaafnngloblaaEv1
namespace Go.Proofs.Ytjfaafnngloblaa.Ev
open Go
set_option linter.unusedVariables false
set_option linter.unusedSimpArgs false
/-- The cells that nobody writes any more: block and place. -/
abbrev Zs := Nat → Nat → Prop
/-- Data: all of it lies in cells of Z. -/
inductive DR (Z : Zs) (w : World) : AV → Value → Prop
  | v (x : Value) (h : plainV x = true) : DR Z w (.v x) x
  | agg (cs : List AV) (xs : Array Value) (hl : cs.length = xs.size) (h : ∀ i, i < cs.length → DR Z w (cs.getD i .dead) (xs.getD i undef)) : DR Z w (.agg cs) (.agg xs)
  | tup (l : List AV) (xs : Array Value) (hl : l.length = xs.size) (h : ∀ i, i < l.length → DR Z w (l.getD i .dead) (xs.getD i undef)) : DR Z w (.tup l) (.tuple xs)
  | nil (o : Tok) (a : Option Addr) (c : Nat) (h : a = none → c = 0) : DR Z w (.sl o []) (.slice a 0 c)
  | sl (o : Tok) (l : List AV) (b p c k : Nat) (xs : Nat → Nat → Value) (hc : l.length ≤ c) (hk : ∀ i, i < l.length → (l.getD i .dead).cells.length = k)
      (hz : ∀ i j, i < l.length → j < k → Z b (p + (i * k + j)) ∧ w.cell? ⟨b, p + (i * k + j), none⟩ = some (xs i j))
      (h : ∀ i j, i < l.length → j < k → DR Z w ((l.getD i .dead).cells.getD j .dead) (xs i j)) : DR Z w (.sl o l) (.slice (some ⟨b, p, none⟩) l.length c)
  | ea (cs : List AV) (b p : Nat) (xs : Nat → Value) (hz : ∀ j, j < cs.length → Z b (p + j) ∧ w.cell? ⟨b, p + j, none⟩ = some (xs j))
      (h : ∀ j, j < cs.length → DR Z w (cs.getD j .dead) (xs j)) : DR Z w (.ea cs) (.pointer (some ⟨b, p, none⟩))
  | fn (f : FuncId) (c : List AV) (xs : Array Value) (hl : c.length = xs.size) (h : ∀ i, i < c.length → DR Z w (c.getD i .dead) (xs.getD i undef)) : DR Z w (.fn f c) (.func (.func f) #[] xs)
  | dead (x : Value) : DR Z w .dead x
/-- The cells of Z hold what they held, and Z has only grown. -/
structure ZExt (Z Z' : Zs) (w w' : World) : Prop where
  sub : ∀ b o, Z b o → Z' b o
  same : ∀ b o, Z b o → w'.cell? ⟨b, o, none⟩ = w.cell? ⟨b, o, none⟩
theorem ZExt.refl (Z : Zs) (w : World) : ZExt Z Z w w := ⟨fun _ _ h => h, fun _ _ _ => rfl⟩
theorem ZExt.trans {Z Z' Z'' : Zs} {w w' w'' : World} (h : ZExt Z Z' w w') (k : ZExt Z' Z'' w' w'') : ZExt Z Z'' w w'' :=
  ⟨fun b o x => k.sub b o (h.sub b o x), fun b o x => (k.same b o (h.sub b o x)).trans (h.same b o x)⟩
theorem DR.ext {Z Z' : Zs} {w w' : World} (E : ZExt Z Z' w w') {a : AV} {v : Value} (h : DR Z w a v) : DR Z' w' a v := by
  induction h with
  | v x h => exact .v x h
  | agg cs xs hl h ih => exact .agg cs xs hl ih
  | tup l xs hl h ih => exact .tup l xs hl ih
  | nil o a c h => exact .nil o a c h
  | sl o l b p c k xs hc hk hz h ih => exact .sl o l b p c k xs hc hk (fun i j hi hj => ⟨E.sub _ _ (hz i j hi hj).1, (E.same _ _ (hz i j hi hj).1).trans (hz i j hi hj).2⟩) ih
  | ea cs b p xs hz h ih => exact .ea cs b p xs (fun j hj => ⟨E.sub _ _ (hz j hj).1, (E.same _ _ (hz j hj).1).trans (hz j hj).2⟩) ih
  | fn f c xs hl h ih => exact .fn f c xs hl ih
  | dead x => exact .dead x
/-- The chain's slice: it has no room, or its room is nobody else's. -/
def OwnS (P : Program) (Z : Zs) (β : List Nat) (M0 : Nat → Prop) (n0 : Nat) (w : World) (e : TypeId) (v : Value) : Prop :=
  ∃ a n c, v = .slice a n c ∧ ((n = c ∧ (a = none → n = 0)) ∨ ∃ g cur k, a = some ⟨g, 0, none⟩ ∧ (M0 g ∨ n0 ≤ g) ∧ w.heap[g]? = some (.cells cur e (0, 0)) ∧ n ≤ c ∧ c ≤ maxLen ∧ tsz P e = some k ∧ cur.size = c * k ∧ (∀ o, Z g o → o < n * k) ∧ g ∉ β)
/-- The block that has room behind a slice. -/
def spare : Value → Option Nat
  | .slice (some a) n c => if n = c then none else some a.block
  | _ => none
def R0 (Z : Zs) (β : List Nat) (γ : List Value) (T : Toks) (w : World) (P : Program) : AV → Value → Prop
  | .ptr id off, v => ∃ g, β[id]? = some g ∧ v = .pointer (some ⟨g, off, none⟩)
  | .dead, _ => True
  | .sl o l, v => DR Z w (.sl o l) v ∧ (match o with
    | .no => True
    | .nil => v = .slice none 0 0
    | .full => ∃ a, v = .slice a l.length l.length
    | .own τ => τ < T.length ∧ ∀ e, T[τ]? = some (some e) → γ[τ]? = some v ∧ uni ((tsz P e).getD 0) l = true)
  | a, v => DR Z w a v
def R1 (Z : Zs) (β : List Nat) (γ : List Value) (T : Toks) (w : World) (P : Program) : AV → Value → Prop
  | .fn f c, v => ∃ xs : Array Value, v = .func (.func f) #[] xs ∧ c.length = xs.size ∧ ∀ i, i < c.length → R0 Z β γ T w P (c.getD i .dead) (xs.getD i undef)
  | a, v => R0 Z β γ T w P a v
def R2 (Z : Zs) (β : List Nat) (γ : List Value) (T : Toks) (w : World) (P : Program) : AV → Value → Prop
  | .agg cs, v => ∃ xs : Array Value, v = .agg xs ∧ cs.length = xs.size ∧ ∀ i, i < cs.length → R1 Z β γ T w P (cs.getD i .dead) (xs.getD i undef)
  | a, v => R1 Z β γ T w P a v
def R3 (Z : Zs) (β : List Nat) (γ : List Value) (T : Toks) (w : World) (P : Program) : AV → Value → Prop
  | .tup l, v => ∃ xs : Array Value, v = .tuple xs ∧ l.length = xs.size ∧ ∀ i, i < l.length → R2 Z β γ T w P (l.getD i .dead) (xs.getD i undef)
  | a, v => R2 Z β γ T w P a v
/-- Outside of M a world is as it was. -/
structure Keep (M : Nat → Prop) (w w' : World) : Prop where
  os : w'.os = w.os
  tape : w'.tape = w.tape
  output : w'.output = w.output
  size : w.heap.size ≤ w'.heap.size
  block : ∀ k, k < w.heap.size → ¬ M k → w'.heap[k]? = w.heap[k]?
theorem Keep.refl (M : Nat → Prop) (w : World) : Keep M w w := ⟨rfl, rfl, rfl, Nat.le_refl _, fun _ _ _ => rfl⟩
theorem Keep.trans {M : Nat → Prop} {a b c : World} (h : Keep M a b) (k : Keep M b c) : Keep M a c :=
  ⟨k.os.trans h.os, k.tape.trans h.tape, k.output.trans h.output, Nat.le_trans h.size k.size, fun i hi hm => (k.block i (Nat.lt_of_lt_of_le hi h.size) hm).trans (h.block i hi hm)⟩
/-- The two memories, held together. -/
structure EN (P : Program) (w0 : World) (Z0 : Zs) (M0 : Nat → Prop) (Z : Zs) (β : List Nat) (γ : List Value) (S : Obs) (T : Toks) (w : World) : Prop where
  kp : Keep M0 w0 w
  zc : ZExt Z0 Z w0 w
  zn : ∀ b o, Z b o → b < w0.heap.size → Z0 b o ∨ M0 b
  zs : ∀ b o, Z b o → b < w.heap.size
  bl : β.length = S.length
  gl : γ.length = T.length
  ob : ∀ (id : Nat) o, S[id]? = some o → ∃ g cur e, β[id]? = some g ∧ (M0 g ∨ w0.heap.size ≤ g) ∧ w.heap[g]? = some (.cells cur e (0, 0)) ∧ o.cs.length = cur.size ∧ (∀ j, j < o.cs.length → R1 Z β γ T w P (o.cs.getD j .dead) (cur.getD j undef)) ∧ (∀ p, ¬ Z g p) ∧ (o.d = true → o.cs.all d1 = true)
  bi : ∀ (i j : Nat) g, β[i]? = some g → β[j]? = some g → i = j
  tk : ∀ (τ : Nat) e, T[τ]? = some (some e) → ∃ v, γ[τ]? = some v ∧ OwnS P Z β M0 w0.heap.size w e v
  ti : ∀ (τ σ : Nat) e f u v g, T[τ]? = some (some e) → T[σ]? = some (some f) → γ[τ]? = some u → γ[σ]? = some v → spare u = some g → spare v = some g → τ = σ
/-- A frame. -/
structure FR (P : Program) (Z : Zs) (β : List Nat) (γ : List Value) (T : Toks) (w : World) (fr : List AV) (a : Act) : Prop where
  tl : fr.length = a.tmps.size
  df : a.defers = []
  tv : ∀ t, t < fr.length → R3 Z β γ T w P (fr.getD t .dead) (a.tmps.getD t undef)
/-- What keeps values: the cells of Z, the objects' places, the living chains. -/
structure VX (Z Z' : Zs) (β β' : List Nat) (γ γ' : List Value) (T T' : Toks) (w w' : World) : Prop where
  z : ZExt Z Z' w w'
  b : ∀ (id : Nat) g, β[id]? = some g → β'[id]? = some g
  l : T.length ≤ T'.length
  t : ∀ (τ : Nat) e, τ < T.length → T'[τ]? = some (some e) → T[τ]? = some (some e) ∧ γ'[τ]? = γ[τ]?
theorem VX.refl (Z : Zs) (β : List Nat) (γ : List Value) (T : Toks) (w : World) : VX Z Z β β γ γ T T w w :=
  ⟨.refl Z w, fun _ _ h => h, Nat.le_refl _, fun τ e _ h => ⟨h, rfl⟩⟩
theorem VX.trans {Z Z' Z'' : Zs} {β β' β'' : List Nat} {γ γ' γ'' : List Value} {T T' T'' : Toks} {w w' w'' : World} (h : VX Z Z' β β' γ γ' T T' w w') (k : VX Z' Z'' β' β'' γ' γ'' T' T'' w' w'') : VX Z Z'' β β'' γ γ'' T T'' w w'' :=
  ⟨h.z.trans k.z, fun id g x => k.b id g (h.b id g x), Nat.le_trans h.l k.l, fun τ e ht hx => by
    obtain ⟨a, b⟩ := k.t τ e (Nat.lt_of_lt_of_le ht h.l) hx
    obtain ⟨c, d⟩ := h.t τ e ht a
    exact ⟨c, b.trans d⟩⟩
theorem VX.ofZ {Z Z' : Zs} {w w' : World} (h : ZExt Z Z' w w') (β : List Nat) (γ : List Value) (T : Toks) : VX Z Z' β β γ γ T T w w' :=
  ⟨h, fun _ _ h => h, Nat.le_refl _, fun τ e _ h => ⟨h, rfl⟩⟩
section
variable {P : Program} {Z Z' : Zs} {β β' : List Nat} {γ γ' : List Value} {T T' : Toks} {w w' : World}
theorem R0.ext (X : VX Z Z' β β' γ γ' T T' w w') {a : AV} {v : Value} (h : R0 Z β γ T w P a v) : R0 Z' β' γ' T' w' P a v := by
  cases a with
  | ptr id off => obtain ⟨g, h1, h2⟩ := h; exact ⟨g, X.b _ _ h1, h2⟩
  | dead => trivial
  | sl o l =>
    refine ⟨h.1.ext X.z, ?_⟩
    have h2 := h.2
    cases o with
    | no => trivial
    | nil => exact h2
    | full => exact h2
    | own τ =>
      refine ⟨Nat.lt_of_lt_of_le h2.1 X.l, fun e he => ?_⟩
      obtain ⟨h3, h4⟩ := X.t τ e h2.1 he
      rw [h4]; exact h2.2 e h3
  | v x => exact DR.ext X.z h
  | agg cs => exact DR.ext X.z h
  | tup l => exact DR.ext X.z h
  | ea cs => exact DR.ext X.z h
  | fn f c => exact DR.ext X.z h
theorem R1.ext (X : VX Z Z' β β' γ γ' T T' w w') {a : AV} {v : Value} (h : R1 Z β γ T w P a v) : R1 Z' β' γ' T' w' P a v := by
  cases a with
  | fn f c => obtain ⟨xs, h1, h2, h3⟩ := h; exact ⟨xs, h1, h2, fun i hi => (h3 i hi).ext X⟩
  | _ => simp only [R1] at h ⊢; exact R0.ext X h
theorem R2.ext (X : VX Z Z' β β' γ γ' T T' w w') {a : AV} {v : Value} (h : R2 Z β γ T w P a v) : R2 Z' β' γ' T' w' P a v := by
  cases a with
  | agg cs => obtain ⟨xs, h1, h2, h3⟩ := h; exact ⟨xs, h1, h2, fun i hi => (h3 i hi).ext X⟩
  | _ => simp only [R2] at h ⊢; exact R1.ext X h
theorem R3.ext (X : VX Z Z' β β' γ γ' T T' w w') {a : AV} {v : Value} (h : R3 Z β γ T w P a v) : R3 Z' β' γ' T' w' P a v := by
  cases a with
  | tup l => obtain ⟨xs, h1, h2, h3⟩ := h; exact ⟨xs, h1, h2, fun i hi => (h3 i hi).ext X⟩
  | _ => simp only [R3] at h ⊢; exact R2.ext X h
theorem FR.ext (X : VX Z Z' β β' γ γ' T T' w w') {fr : List AV} {a : Act} (h : FR P Z β γ T w fr a) : FR P Z' β' γ' T' w' fr a :=
  ⟨h.tl, h.df, fun t ht => (h.tv t ht).ext X⟩
/-- A frame with one more value. -/
theorem FR.put {fr : List AV} {a : Act} (h : FR P Z β γ T w fr a) (d : Option Tmp) {x : AV} {v : Value} (hx : R3 Z β γ T w P x v) : FR P Z β γ T w (put fr d x) (a.put d v) := by
  cases d with
  | none => exact h
  | some d =>
    refine ⟨by simp [Ev.put, Act.put, h.tl], h.df, fun t ht => ?_⟩
    have ht' : t < fr.length := by simpa [Ev.put] using ht
    by_cases e : t = d
    · subst e
      have e1 : (Ev.put fr (some t) x).getD t .dead = x := by simp [Ev.put, List.getD_eq_getElem?_getD, ht']
      have e2 : (a.put (some t) v).tmps.getD t undef = v := by simp [Act.put, Array.getD_eq_getD_getElem?, h.tl ▸ ht']
      rw [e1, e2]; exact hx
    · have e1 : (Ev.put fr (some d) x).getD t .dead = fr.getD t .dead := by simp [Ev.put, List.getD_eq_getElem?_getD, List.getElem?_set_ne (Ne.symm e)]
      have e2 : (a.put (some d) v).tmps.getD t undef = a.tmps.getD t undef := by simp [Act.put, Array.getD_eq_getD_getElem?, Array.getElem?_setIfInBounds_ne (Ne.symm e)]
      rw [e1, e2]; exact h.tv t ht'
end
/-! ### From relation to relation -/
section
variable {P : Program} {Z : Zs} {β : List Nat} {γ : List Value} {T : Toks} {w : World}
theorem DR.tok {o o' : Tok} {l : List AV} {v : Value} (h : DR Z w (.sl o l) v) : DR Z w (.sl o' l) v := by
  cases h with
  | nil o a c h => exact .nil o' a c h
  | sl o l b p c k xs hc hk hz h => exact .sl o' l b p c k xs hc hk hz h
theorem DR.v_inv {x v : Value} (h : DR Z w (.v x) v) : v = x ∧ plainV v = true := by
  cases h with
  | v x h => exact ⟨rfl, h⟩
theorem DR.fn_inv {f : FuncId} {c : List AV} {v : Value} (h : DR Z w (.fn f c) v) : ∃ xs : Array Value, v = .func (.func f) #[] xs ∧ c.length = xs.size ∧ ∀ i, i < c.length → DR Z w (c.getD i .dead) (xs.getD i undef) := by
  cases h with
  | fn f c xs hl h => exact ⟨xs, rfl, hl, h⟩
theorem DR.ea_inv {cs : List AV} {v : Value} (h : DR Z w (.ea cs) v) : ∃ b p, ∃ xs : Nat → Value, v = .pointer (some ⟨b, p, none⟩) ∧ (∀ j, j < cs.length → Z b (p + j) ∧ w.cell? ⟨b, p + j, none⟩ = some (xs j)) ∧ ∀ j, j < cs.length → DR Z w (cs.getD j .dead) (xs j) := by
  cases h with
  | ea cs b p xs hz h => exact ⟨b, p, xs, rfl, hz, h⟩
theorem DR.sl_inv {o : Tok} {l : List AV} {v : Value} (h : DR Z w (.sl o l) v) : (l = [] ∧ ∃ a c, v = .slice a 0 c ∧ (a = none → c = 0)) ∨ ∃ b p c k, ∃ xs : Nat → Nat → Value, v = .slice (some ⟨b, p, none⟩) l.length c ∧ l.length ≤ c ∧ (∀ i, i < l.length → (l.getD i .dead).cells.length = k) ∧
    (∀ i j, i < l.length → j < k → Z b (p + (i * k + j)) ∧ w.cell? ⟨b, p + (i * k + j), none⟩ = some (xs i j)) ∧ ∀ i j, i < l.length → j < k → DR Z w ((l.getD i .dead).cells.getD j .dead) (xs i j) := by
  cases h with
  | nil o a c h => exact .inl ⟨rfl, a, c, rfl, h⟩
  | sl o l b p c k xs hc hk hz h => exact .inr ⟨b, p, c, k, xs, rfl, hc, hk, hz, h⟩
theorem DR.agg_inv {c : List AV} {v : Value} (h : DR Z w (.agg c) v) : ∃ xs : Array Value, v = .agg xs ∧ c.length = xs.size ∧ ∀ i, i < c.length → DR Z w (c.getD i .dead) (xs.getD i undef) := by
  cases h with
  | agg c xs hl h => exact ⟨xs, rfl, hl, h⟩
theorem DR.tup_inv {c : List AV} {v : Value} (h : DR Z w (.tup c) v) : ∃ xs : Array Value, v = .tuple xs ∧ c.length = xs.size ∧ ∀ i, i < c.length → DR Z w (c.getD i .dead) (xs.getD i undef) := by
  cases h with
  | tup c xs hl h => exact ⟨xs, rfl, hl, h⟩
theorem DR.s0 {a : AV} {v : Value} (h : DR Z w a v) : DR Z w (s0 a) v := by
  cases a <;> first | exact h | exact h.tok
theorem R0.of_no {l : List AV} {v : Value} (h : DR Z w (.sl .no l) v) : R0 Z β γ T w P (.sl .no l) v := ⟨h, trivial⟩
/-- Data without rights is a value anywhere. -/
theorem DR.r0 {a : AV} {v : Value} (h : DR Z w a v) : R0 Z β γ T w P (Ev.s0 a) v := by
  cases a with
  | sl o l => exact ⟨h.tok, trivial⟩
  | ptr i o => cases h
  | dead => trivial
  | _ => exact h
theorem getD_map_lt {f : AV → AV} {l : List AV} {i : Nat} (hi : i < l.length) : (l.map f).getD i .dead = f (l.getD i .dead) := by
  simp [List.getD_eq_getElem?_getD, hi]
theorem DR.r1 {a : AV} {v : Value} (h : DR Z w a v) : R1 Z β γ T w P (Ev.s1 a) v := by
  cases a with
  | fn f c =>
    obtain ⟨xs, rfl, hl, h⟩ := DR.fn_inv h
    exact ⟨xs, rfl, by simpa using hl, fun i hi => by
        have hi' : i < c.length := by simpa using hi
        rw [getD_map_lt hi']; exact (h i hi').r0⟩
  | sl o l => simp only [R1, Ev.s1, Ev.s0]; exact ⟨h.tok, trivial⟩
  | ptr i o => cases h
  | dead => trivial
  | v x => exact h
  | agg cs => exact h
  | tup l => exact h
  | ea cs => exact h
theorem DR.r2 {a : AV} {v : Value} (h : DR Z w a v) : R2 Z β γ T w P (Ev.s2 a) v := by
  cases a with
  | agg cs =>
    obtain ⟨xs, rfl, hl, h⟩ := DR.agg_inv h
    exact ⟨xs, rfl, by simpa using hl, fun i hi => by
        have hi' : i < cs.length := by simpa using hi
        rw [getD_map_lt hi']; exact (h i hi').r1⟩
  | _ => simp only [R2, Ev.s2]; exact DR.r1 h
theorem DR.r3 {a : AV} {v : Value} (h : DR Z w a v) : R3 Z β γ T w P (Ev.s3 a) v := by
  cases a with
  | tup l =>
    obtain ⟨xs, rfl, hl, h⟩ := DR.tup_inv h
    exact ⟨xs, rfl, by simpa using hl, fun i hi => by
        have hi' : i < l.length := by simpa using hi
        rw [getD_map_lt hi']; exact (h i hi').r2⟩
  | _ => simp only [R3, Ev.s3]; exact DR.r2 h
theorem all_getD {p : AV → Bool} {l : List AV} (h : l.all p = true) {i : Nat} (hi : i < l.length) : p (l.getD i .dead) = true := by
  rw [List.getD_eq_getElem?_getD, List.getElem?_eq_getElem hi]
  exact List.all_eq_true.mp h _ (List.getElem_mem hi)
theorem R0.dr {a : AV} {v : Value} (h : R0 Z β γ T w P a v) (hd : d0 a = true) : DR Z w a v := by
  cases a with
  | sl o l => exact h.1
  | v x => exact h
  | ea cs => exact h
  | _ => exact absurd hd (by simp [d0])
theorem R1.dr {a : AV} {v : Value} (h : R1 Z β γ T w P a v) (hd : d1 a = true) : DR Z w a v := by
  cases a with
  | fn f c => obtain ⟨xs, rfl, h2, h3⟩ := h; exact .fn f c xs h2 fun i hi => (h3 i hi).dr (all_getD hd hi)
  | _ => simp only [R1] at h; exact R0.dr h hd
theorem R2.dr {a : AV} {v : Value} (h : R2 Z β γ T w P a v) (hd : d2 a = true) : DR Z w a v := by
  cases a with
  | agg cs => obtain ⟨xs, rfl, h2, h3⟩ := h; exact .agg cs xs h2 fun i hi => (h3 i hi).dr (all_getD hd hi)
  | _ => simp only [R2] at h; exact R1.dr h hd
theorem R3.dr {a : AV} {v : Value} (h : R3 Z β γ T w P a v) (hd : d3 a = true) : DR Z w a v := by
  cases a with
  | tup l => obtain ⟨xs, rfl, h2, h3⟩ := h; exact .tup l xs h2 fun i hi => (h3 i hi).dr (all_getD hd hi)
  | _ => simp only [R3] at h; exact R2.dr h hd
theorem d0_s0 {a : AV} (h : d0 a = true) : d0 (Ev.s0 a) = true := by cases a <;> first | exact h | rfl
theorem DR.s1 {a : AV} {v : Value} (h : DR Z w a v) : DR Z w (s1 a) v := by
  cases a with
  | fn f c =>
    obtain ⟨xs, rfl, hl, h⟩ := DR.fn_inv h
    refine .fn f _ xs (by simpa using hl) fun i hi => ?_
    have hi' : i < c.length := by simpa using hi
    rw [getD_map_lt hi']; exact (h i hi').s0
  | _ => simp only [Ev.s1]; exact h.s0
theorem DR.s2 {a : AV} {v : Value} (h : DR Z w a v) : DR Z w (s2 a) v := by
  cases a with
  | agg cs =>
    obtain ⟨xs, rfl, hl, h⟩ := DR.agg_inv h
    refine .agg _ xs (by simpa using hl) fun i hi => ?_
    have hi' : i < cs.length := by simpa using hi
    rw [getD_map_lt hi']; exact (h i hi').s1
  | _ => simp only [Ev.s2]; exact h.s1
theorem DR.s3 {a : AV} {v : Value} (h : DR Z w a v) : DR Z w (s3 a) v := by
  cases a with
  | tup l =>
    obtain ⟨xs, rfl, hl, h⟩ := DR.tup_inv h
    refine .tup _ xs (by simpa using hl) fun i hi => ?_
    have hi' : i < l.length := by simpa using hi
    rw [getD_map_lt hi']; exact (h i hi').s2
  | _ => simp only [Ev.s3]; exact h.s2
/-- The one cell of a value. -/
theorem R1.r2 {a : AV} {v : Value} (h : R1 Z β γ T w P a v) (ho : one a = true) : R2 Z β γ T w P a v := by
  cases a <;> first | exact h | exact absurd ho (by simp [one])
theorem R2.r1 {a : AV} {v : Value} (h : R2 Z β γ T w P a v) (ho : one a = true) : R1 Z β γ T w P a v := by
  cases a <;> first | exact h | exact absurd ho (by simp [one])
theorem R3.r2 {a : AV} {v : Value} (h : R3 Z β γ T w P a v) (ho : a ≠ .tup [] ∧ (∀ l, a ≠ .tup l)) : R2 Z β γ T w P a v := by
  cases a <;> first | exact h | exact absurd rfl (ho.2 _)
theorem one_cell {a : AV} {v : Value} (h : R1 Z β γ T w P a v) (ho : one a = true) : v.oneCell' = true := by
  cases a with
  | v x =>
    have h' : DR Z w (.v x) v := h
    obtain ⟨rfl, hp⟩ := DR.v_inv h'
    cases v <;> first | rfl | exact absurd hp (by simp [plainV])
  | sl o l => cases h.1 <;> rfl
  | ea cs => cases h; rfl
  | ptr id off => obtain ⟨g, _, rfl⟩ := h; rfl
  | fn f c => obtain ⟨xs, rfl, _⟩ := h; rfl
  | agg cs => exact absurd ho (by simp [one])
  | tup l => exact absurd ho (by simp [one])
  | dead => exact absurd ho (by simp [one])
/-- The cells of a value, and the cells of what stands for it. -/
theorem R2.cells {a : AV} {v : Value} (h : R2 Z β γ T w P a v) (ho : a.cells.all one = true) : a.cells.length = v.cells.size ∧ ∀ j, j < a.cells.length → R1 Z β γ T w P (a.cells.getD j .dead) (v.cells.getD j undef) := by
  have key : one a = true → a.cells = [a] → v.cells = #[v] → R1 Z β γ T w P a v → a.cells.length = v.cells.size ∧ ∀ j, j < a.cells.length → R1 Z β γ T w P (a.cells.getD j .dead) (v.cells.getD j undef) := by
    intro _ h1 h2 h3
    rw [h1, h2]
    refine ⟨rfl, fun j hj => ?_⟩
    obtain rfl : j = 0 := by simpa using hj
    exact h3
  have vc : ∀ v : Value, v.oneCell' = true → v.cells = #[v] := by intro v hv; cases v <;> first | rfl | exact absurd hv (by simp [Value.oneCell'])
  cases a with
  | agg cs => obtain ⟨xs, rfl, h2, h3⟩ := h; exact ⟨h2, h3⟩
  | v x => exact key rfl rfl (vc _ (@one_cell P Z β γ T w (.v x) v h rfl)) h
  | sl o l => exact key rfl rfl (vc _ (@one_cell P Z β γ T w (.sl o l) v h rfl)) h
  | ea cs => exact key rfl rfl (vc _ (@one_cell P Z β γ T w (.ea cs) v h rfl)) h
  | ptr id off => exact key rfl rfl (vc _ (@one_cell P Z β γ T w (.ptr id off) v h rfl)) h
  | fn f c => exact key rfl rfl (vc _ (@one_cell P Z β γ T w (.fn f c) v h rfl)) h
  | tup l => simp [AV.cells, one] at ho
  | dead => simp [AV.cells, one] at ho
theorem toAV0_r {x : Value} : R0 Z β γ T w P (toAV0 x) x := by
  unfold toAV0
  split
  case h_9 => 
    split
    · rename_i f a b h
      obtain ⟨h1, h2⟩ := h
      obtain rfl : a = #[] := Array.eq_empty_of_size_eq_zero h1
      obtain rfl : b = #[] := Array.eq_empty_of_size_eq_zero h2
      exact .fn f [] #[] rfl (fun i hi => absurd hi (by simp))
    · trivial
  case h_8 => exact ⟨.nil _ none 0 (fun _ => rfl), rfl⟩
  case h_10 => trivial
  all_goals exact .v _ rfl
theorem toAV0_fn {x : Value} {f : FuncId} {c : List AV} (e : toAV0 x = .fn f c) : c = [] := by
  unfold toAV0 at e
  split at e
  case h_9 => split at e <;> cases e; rfl
  all_goals cases e
theorem toAV0_agg {x : Value} {c : List AV} : toAV0 x ≠ .agg c ∧ toAV0 x ≠ .tup c := by
  unfold toAV0
  split
  case h_9 => split <;> exact ⟨by simp, by simp⟩
  all_goals exact ⟨by simp, by simp⟩
theorem toAV0_r1 {x : Value} : R1 Z β γ T w P (toAV0 x) x := by
  have h : R0 Z β γ T w P (toAV0 x) x := toAV0_r
  cases e : toAV0 x with
  | fn f c =>
    rw [e] at h
    obtain ⟨xs, rfl, hl, h⟩ := DR.fn_inv h
    have hc : c = [] := toAV0_fn e
    subst hc
    exact ⟨xs, rfl, hl, fun i hi => absurd hi (by simp)⟩
  | _ => rw [e] at h; exact h
theorem toAV_r {x : Value} : R3 Z β γ T w P (toAV x) x := by
  unfold toAV
  split
  · rename_i cs
    refine ⟨cs, rfl, by simp, fun i hi => ?_⟩
    have hi' : i < cs.size := by simpa using hi
    have e1 : (cs.toList.map toAV0).getD i .dead = toAV0 cs[i] := by simp [List.getD_eq_getElem?_getD, hi']
    have e2 : cs.getD i undef = cs[i] := by simp [Array.getD, hi']
    rw [e1, e2]
    exact toAV0_r1
  · rename_i cs
    split
    · rename_i h
      obtain rfl : cs = #[] := Array.eq_empty_of_size_eq_zero h
      exact ⟨#[], rfl, rfl, fun i hi => absurd hi (by simp)⟩
    · trivial
  · have h : R1 Z β γ T w P (toAV0 x) x := toAV0_r1
    have key : ∀ a : AV, a = toAV0 x → R1 Z β γ T w P a x → R3 Z β γ T w P a x := by
      intro a e h
      cases a with
      | agg cs => exact absurd e.symm (toAV0_agg (x := x) (c := cs)).1
      | tup l => exact absurd e.symm (toAV0_agg (x := x) (c := l)).2
      | _ => exact h
    exact key _ rfl h
end
end Go.Proofs.Ytjfaafnngloblaa.Ev
