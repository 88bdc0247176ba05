/- Walking on values: a function's text, step by step. No condition. -/
import Derived.Test.YtjfaafnngloblaaEvJ
namespace Go.Proofs.Ytjfaafnngloblaa.Ev
open Go
set_option linter.unusedVariables false
set_option linter.unusedSimpArgs false
/-- A call on values alone: what it gives. -/
def Gv (P : Program) (X : Prims) (f : FuncId) (args : List AV) (r : AV) : Prop := ∃ k, ∀ k', k ≤ k' → ∃ r0 S T, evF P X k' f args [] [] = some (r0, S, T) ∧ d3 r0 = true ∧ s3 r0 = r
/-- A call with objects. -/
def Gs (P : Program) (X : Prims) (f : FuncId) (args : List AV) (S : Obs) (T : Toks) (r : AV) (S' : Obs) (T' : Toks) : Prop := ∃ k, ∀ k', k ≤ k' → evF P X k' f args S T = some (r, S', T')
/-- What an operation may have to do with objects, by its text. -/
inductive Kd where
  | q | r | m | c | w
  deriving DecidableEq
def kind (o : Oper) : Kd := match o.op with
  | .load _ _ => .r
  | .alloc _ => .m
  | .box _ _ => .m
  | .store _ _ _ => .w
  | _ => match isApp o with
    | some _ => .c
    | none => .q
def kcompat : Kd → Kd → Bool
  | .q, _ => true
  | _, .q => true
  | .r, .r => true
  | .r, .c => true
  | .c, .r => true
  | .m, .c => true
  | .c, .m => true
  | _, _ => false
/-- Of a region that draws its order: may its operations change places, by their text alone? -/
def drawOK (ops : Array Oper) : Bool :=
  let deps := depsOf ops 0 [] ops.toList
  fwd ops && (List.range ops.size).all fun j => (List.range j).all fun i => (deps.getD j []).contains i || (kcompat (kind (ops.getD i default)) (kind (ops.getD j default)) && apart ops (ops.getD i default) (ops.getD j default))
/-- Has an operation to do with values alone, if it is a call? -/
def pureAt (o : Oper) (s : St) : Bool := match isCall o with
  | some (f, args) => match opd s.fr f with
    | .fn _ cap => (args.map (opd s.fr) ++ cap).all d2
    | _ => true
  | none => true
def evOpsQ (P : Program) (cf : CallF) (q : Bool) (ops : Array Oper) : List Oper → St → Option St
  | [], s => some s
  | o :: rest, s => if (q && !pureAt o s) = true then none else match evG P cf ops o s with
    | some s' => evOpsQ P cf q ops rest s'
    | none => none
/-- What is still to be done: code; the end of a block. -/
inductive Kx where
  | c (c : Code)
  | b (id : Nat)
def runK (P : Program) (cf : CallF) (n : Nat) : List Kx → Ex → St → Option (Ex × St)
  | [], x, s => some (x, s)
  | .c c :: k, .normal, s => match evC P cf n c s with
    | some (x, s1) => runK P cf n k x s1
    | none => none
  | .c _ :: k, x, s => runK P cf n k x s
  | .b id :: k, .exit i, s => if i = id then runK P cf n k .normal s else runK P cf n k (.exit i) s
  | .b _ :: k, x, s => runK P cf n k x s
def WX (P : Program) (X : Prims) (k : List Kx) (x : Ex) (s : St) (Q : Ex → St → Prop) : Prop := ∃ n x' s', (∀ n', n ≤ n' → runK P (evF P X n') n' k x s = some (x', s')) ∧ Q x' s'
def W (P : Program) (X : Prims) (k : List Kx) (s : St) (Q : Ex → St → Prop) : Prop := WX P X k .normal s Q
/-- .. in the middle of a region. -/
def WO (P : Program) (X : Prims) (q : Bool) (ops : Array Oper) (l : List Oper) (k : List Kx) (s : St) (Q : Ex → St → Prop) : Prop :=
  ∃ n x' s', (∀ n', n ≤ n' → (match evOpsQ P (evF P X n') q ops l s with | some s1 => runK P (evF P X n') n' k .normal s1 | none => none) = some (x', s')) ∧ Q x' s'
/-- A step of an operation that is no call. -/
def stepQ (P : Program) (ops : Array Oper) (o : Oper) (s : St) : Option St := match wantA ops o s.fr with
  | some b => if b = true then (core P o (opd s.fr) s.S s.T).map fun r => ⟨put s.fr o.dst r.1, r.2.1, r.2.2⟩ else some ⟨put s.fr o.dst (.tup []), s.S, s.T⟩
  | none => none
section
variable {P : Program} {X : Prims} {Q : Ex → St → Prop} {s : St} {k : List Kx}
theorem runK_congr {cf : CallF} {n : Nat} {k k' : List Kx} (h : ∀ x s, runK P cf n k x s = runK P cf n k' x s) (c : Kx) : ∀ x s, runK P cf n (c :: k) x s = runK P cf n (c :: k') x s := by
  intro x s
  cases c with
  | c c =>
    cases x with
    | normal => simp only [runK]; split <;> first | exact h _ _ | rfl
    | exit i => simp only [runK]; exact h _ _
    | ret => simp only [runK]; exact h _ _
  | b id =>
    cases x with
    | exit i => simp only [runK]; split <;> exact h _ _
    | normal => simp only [runK]; exact h _ _
    | ret => simp only [runK]; exact h _ _
theorem W_nil : W P X [] s Q = Q .normal s := by
  apply propext
  constructor
  · rintro ⟨n, x, s', h, hq⟩
    have := h n (Nat.le_refl _)
    simp only [runK, Option.some.injEq, Prod.mk.injEq] at this
    obtain ⟨rfl, rfl⟩ := this
    exact hq
  · intro h; exact ⟨0, _, _, fun _ _ => rfl, h⟩
theorem WX_of {x : Ex} {k' : List Kx} {x' : Ex} {s' : St} (h : ∀ cf n, runK P cf n k x s = runK P cf n k' x' s') : WX P X k x s Q = WX P X k' x' s' Q := by
  unfold WX
  simp only [h]
theorem runK_ret {cf : CallF} {n : Nat} : ∀ (k : List Kx) (s : St), runK P cf n k .ret s = some (.ret, s)
  | [], s => rfl
  | .c _ :: k, s => by simp only [runK]; exact runK_ret k s
  | .b _ :: k, s => by simp only [runK]; exact runK_ret k s
theorem WX_ret : WX P X k .ret s Q = Q .ret s := by
  apply propext
  constructor
  · rintro ⟨n, x, s', h, hq⟩
    have := h n (Nat.le_refl _)
    rw [runK_ret] at this
    simp only [Option.some.injEq, Prod.mk.injEq] at this
    obtain ⟨rfl, rfl⟩ := this
    exact hq
  · intro h; exact ⟨0, _, _, fun _ _ => runK_ret k s, h⟩
theorem WX_c {c : Code} {i : Nat} : WX P X (.c c :: k) (.exit i) s Q = WX P X k (.exit i) s Q := WX_of fun cf n => by simp only [runK]
theorem WX_b {i id : Nat} : WX P X (.b id :: k) (.exit i) s Q = if i = id then W P X k s Q else WX P X k (.exit i) s Q := by
  split
  · rename_i h; exact WX_of fun cf n => by simp only [runK, if_pos h]
  · rename_i h; exact WX_of fun cf n => by simp only [runK, if_neg h]
theorem W_skip : W P X (.c .skip :: k) s Q = W P X k s Q := WX_of fun cf n => by simp only [runK, evC]
theorem W_label {l : Nat} : W P X (.c (.label l) :: k) s Q = W P X k s Q := WX_of fun cf n => by simp only [runK, evC]
theorem W_b {id : Nat} : W P X (.b id :: k) s Q = W P X k s Q := WX_of fun cf n => by simp only [runK]
theorem W_ret : W P X (.c .ret :: k) s Q = Q .ret s := (WX_of (k' := k) (x' := .ret) (s' := s) fun cf n => by simp only [runK, evC]).trans WX_ret
theorem W_exit {id : Nat} : W P X (.c (.exit id) :: k) s Q = WX P X k (.exit id) s Q := WX_of fun cf n => by simp only [runK, evC]
theorem W_scope {c : Code} : W P X (.c (.scope c) :: k) s Q = W P X (.c c :: k) s Q := WX_of fun cf n => by simp only [runK, evC]
theorem W_seq {a b : Code} : W P X (.c (.seq a b) :: k) s Q = W P X (.c a :: .c b :: k) s Q := WX_of fun cf n => by
  simp only [runK, evC]
  split
  · rename_i x s1 h
    split at h
    · rename_i s2 h2
      rw [h2]
      simp only [runK, h]
    · rename_i hne
      rw [h]
      cases x with
      | normal => exact absurd h (hne s1)
      | exit i => simp only [runK]
      | ret => simp only [runK]
  · rename_i h
    split at h
    · rename_i s2 h2
      rw [h2]
      simp only [runK, h]
    · rw [h]
theorem W_block {id : Nat} {c : Code} : W P X (.c (.block id c) :: k) s Q = W P X (.c c :: .b id :: k) s Q := WX_of fun cf n => by
  simp only [runK, evC]
  split
  · rename_i x s1 h
    split at h
    · rename_i i s2 h2
      rw [h2]
      split at h
      · rename_i hi
        simp only [Option.some.injEq, Prod.mk.injEq] at h
        obtain ⟨rfl, rfl⟩ := h
        simp only [runK, if_pos hi]
      · rename_i hi
        simp only [Option.some.injEq, Prod.mk.injEq] at h
        obtain ⟨rfl, rfl⟩ := h
        simp only [runK, if_neg hi]
    · rename_i hne
      rw [h]
      cases x with
      | exit i => exact absurd h (hne i s1)
      | normal => simp only [runK]
      | ret => simp only [runK]
  · rename_i h
    split at h
    · split at h <;> cases h
    · rw [h]
theorem W_cond_t {c : Operand} {a b : Code} (h : opd s.fr c = .v (.bool true)) : W P X (.c (.cond c a b) :: k) s Q = W P X (.c a :: k) s Q := WX_of fun cf n => by simp only [runK, evC, h, if_true]
theorem W_cond_f {c : Operand} {a b : Code} (h : opd s.fr c = .v (.bool false)) : W P X (.c (.cond c a b) :: k) s Q = W P X (.c b :: k) s Q := WX_of fun cf n => by simp only [runK, evC, h, Bool.false_eq_true, if_false]
/-- A test, and its two ways. -/
def Wif (P : Program) (X : Prims) (t : Bool) (a b : Code) (k : List Kx) (s : St) (Q : Ex → St → Prop) : Prop := if t = true then W P X (.c a :: k) s Q else W P X (.c b :: k) s Q
theorem Wif_t {a b : Code} : Wif P X true a b k s Q = W P X (.c a :: k) s Q := rfl
theorem Wif_f {a b : Code} : Wif P X false a b k s Q = W P X (.c b :: k) s Q := rfl
theorem Wif_of {t : Bool} {a b : Code} (h1 : t = true → W P X (.c a :: k) s Q) (h2 : t = false → W P X (.c b :: k) s Q) : Wif P X t a b k s Q := by
  cases t with
  | true => exact h1 rfl
  | false => exact h2 rfl
theorem W_test {c : Operand} {a b : Code} : W P X (.c (.cond c a b) :: k) s Q = (match opd s.fr c with
    | .v (.bool t) => Wif P X t a b k s Q
    | _ => False) := by
  cases hc : opd s.fr c with
  | v x =>
    cases x with
    | bool t =>
      cases t with
      | true => exact WX_of fun cf n => by simp only [runK, evC, hc, if_true]
      | false => exact WX_of fun cf n => by simp only [runK, evC, hc, Bool.false_eq_true, if_false]
    | _ =>
      simp only [eq_iff_iff, iff_false]
      rintro ⟨n, x', s', h1, _⟩
      have := h1 n (Nat.le_refl _)
      simp only [runK, evC, hc] at this
      cases this
  | _ =>
    simp only [eq_iff_iff, iff_false]
    rintro ⟨n, x', s', h1, _⟩
    have := h1 n (Nat.le_refl _)
    simp only [runK, evC, hc] at this
    cases this
/-- Two ways. -/
theorem W_cond {c : Operand} {a b : Code} {t : Bool} (h : opd s.fr c = .v (.bool t)) (h1 : t = true → W P X (.c a :: k) s Q) (h2 : t = false → W P X (.c b :: k) s Q) : W P X (.c (.cond c a b) :: k) s Q := by
  cases t with
  | true => rw [W_cond_t h]; exact h1 rfl
  | false => rw [W_cond_f h]; exact h2 rfl
theorem W_unroll {c : Code} (h : W P X (.c c :: .c (.loop c) :: k) s Q) : W P X (.c (.loop c) :: k) s Q := by
  obtain ⟨n, x, s', h, hq⟩ := h
  refine ⟨n + 1, x, s', fun n' hn' => ?_, hq⟩
  have h1 := h n' (by omega)
  simp only [runK, evC] at h1 ⊢
  obtain ⟨m, rfl⟩ : ∃ m, n' = m + 1 := ⟨n' - 1, by omega⟩
  simp only [iter]
  have h0 := h m (by omega)
  simp only [runK, evC] at h0
  cases h2 : evC P (evF P X m) m c s with
  | none => rw [h2] at h0; cases h0
  | some p =>
    obtain ⟨y, s1⟩ := p
    have h2' := evC_mono (evF_mono (X := X) (Nat.le_succ m)) (Nat.le_succ m) c h2
    rw [h2']
    rw [h2] at h0
    rw [h2'] at h1
    cases y with
    | exit i => simpa only [runK] using h1
    | ret => simpa only [runK] using h1
    | normal =>
      simp only [runK, evC] at h0 ⊢
      cases h3 : iter (evC P (evF P X m) m c) m s1 with
      | none => rw [h3] at h0; cases h0
      | some p =>
        obtain ⟨z, s2⟩ := p
        have h3' := iter_mono (f' := evC P (evF P X (m + 1)) (m + 1) c) (fun s r hh => evC_mono (evF_mono (X := X) (Nat.le_succ m)) (Nat.le_succ m) c hh) m m (Nat.le_refl _) h3
        have h3'' := iter_mono (f' := evC P (evF P X (m + 1)) (m + 1) c) (fun s r hh => evC_mono (evF_mono (X := X) (Nat.le_succ m)) (Nat.le_succ m) c hh) m (m + 1) (by omega) h3
        rw [h3']
        simp only [runK, evC] at h1
        rw [h3''] at h1
        exact h1
/-- Loops by what holds at each round's head. -/
theorem W_loop {c : Code} (I : Nat → St → Prop) {n : Nat} (h0 : I n s) (hr : ∀ n s, I n s → W P X (.c c :: .c (.loop c) :: k) s Q ∨ (∀ Q' : Ex → St → Prop, (∀ m s1, m < n → I m s1 → Q' .normal s1) → (∀ x s1, x ≠ .normal → WX P X k x s1 Q → Q' x s1) → W P X [.c c] s Q')) : W P X (.c (.loop c) :: k) s Q := by
  have key : ∀ (b n : Nat), n < b → ∀ s, I n s → W P X (.c (.loop c) :: k) s Q := by
    intro b
    induction b with
    | zero => intro n hn; omega
    | succ b ih =>
      intro n hn s hI
      rcases hr n s hI with h | h
      · exact W_unroll h
      · have := h (fun x s1 => WX P X (.c (.loop c) :: k) x s1 Q) (fun m s1 hm hI' => ih m (by omega) s1 hI') (fun x s1 hx hw => by
          cases x with
          | normal => exact absurd rfl hx
          | exit i => rw [WX_c]; exact hw
          | ret => rw [WX_ret] at hw ⊢; exact hw)
        refine W_unroll ?_
        obtain ⟨n1, x1, s1, g1, n2, x2, s2, g2, g3⟩ := this
        refine ⟨max n1 n2, x2, s2, fun n' hn' => ?_, g3⟩
        have e1 := g1 n' (by omega)
        have e2 := g2 n' (by omega)
        simp only [runK] at e1 ⊢
        cases hh : evC P (evF P X n') n' c s with
        | none => rw [hh] at e1; cases e1
        | some p =>
          obtain ⟨y, s3⟩ := p
          rw [hh] at e1
          simp only [runK, Option.some.injEq, Prod.mk.injEq] at e1
          obtain ⟨rfl, rfl⟩ := e1
          exact e2
  exact key (n + 1) n (by omega) s h0
/-- .. in another dress: what holds at a round's head, and the rounds to come. -/
theorem W_ind {c : Code} (I : Nat → St → Prop) (hr : ∀ n s, (∀ m s1, m < n → I m s1 → W P X (.c (.loop c) :: k) s1 Q) → I n s → W P X (.c c :: .c (.loop c) :: k) s Q) {n : Nat} (h0 : I n s) : W P X (.c (.loop c) :: k) s Q := by
  have key : ∀ (b n : Nat), n < b → ∀ s, I n s → W P X (.c (.loop c) :: k) s Q := by
    intro b
    induction b with
    | zero => intro n hn; omega
    | succ b ih => exact fun n hn s hI => W_unroll (hr n s (fun m s1 hm hI' => ih m (by omega) s1 hI') hI)
  exact key (n + 1) n (by omega) s h0
/-- A frame of n places, of which some are known. -/
def jl : Nat → Nat → (Nat → AV) → List AV
  | 0, _, _ => []
  | n + 1, i, j => j i :: jl n (i + 1) j
def fr (n : Nat) (l : List (Nat × AV)) (j : Nat → AV) : List AV := l.foldl (fun L p => L.set p.1 p.2) (jl n 0 j)
def FrL (L : List AV) : List (Nat × AV) → Prop
  | [] => True
  | p :: l => L.getD p.1 .dead = p.2 ∧ FrL L l
def FrIs (n : Nat) (l : List (Nat × AV)) (L : List AV) : Prop := L.length = n ∧ FrL L l
theorem jl_len : ∀ (n i : Nat) (j : Nat → AV), (jl n i j).length = n
  | 0, _, _ => rfl
  | n + 1, i, j => by simp [jl, jl_len n]
theorem jl_get : ∀ (n i : Nat) (j : Nat → AV) (m : Nat), m < n → (jl n i j)[m]? = some (j (i + m))
  | n + 1, i, j, 0, _ => rfl
  | n + 1, i, j, m + 1, h => by
    simp only [jl, List.getElem?_cons_succ]
    rw [jl_get n (i + 1) j m (by omega)]
    congr 2; omega
theorem set_self {L : List AV} {i : Nat} {a : AV} (h : L.getD i .dead = a) : L.set i a = L := by
  apply List.ext_getElem?
  intro m
  by_cases hm : i = m
  · subst hm
    by_cases hl : i < L.length
    · rw [List.getElem?_set_self hl, ← h]
      simp [List.getD_eq_getElem?_getD, hl]
    · rw [List.getElem?_eq_none (by simp; omega), List.getElem?_eq_none (by omega)]
  · rw [List.getElem?_set_ne hm]
theorem FrIs.ex {n : Nat} {l : List (Nat × AV)} {L : List AV} (h : FrIs n l L) : ∃ j, L = fr n l j := by
  refine ⟨fun i => L.getD i .dead, ?_⟩
  have h0 : jl n 0 (fun i => L.getD i .dead) = L := by
    apply List.ext_getElem?
    intro m
    by_cases hm : m < n
    · rw [jl_get _ _ _ _ hm, Nat.zero_add]
      have : m < L.length := by rw [h.1]; exact hm
      simp [List.getD_eq_getElem?_getD, this]
    · rw [List.getElem?_eq_none (by rw [jl_len]; omega), List.getElem?_eq_none (by rw [h.1]; omega)]
  have key : ∀ l : List (Nat × AV), FrL L l → l.foldl (fun L p => L.set p.1 p.2) L = L := by
    intro l
    induction l with
    | nil => intro _; rfl
    | cons p l ih =>
      intro hp
      rw [List.foldl_cons, set_self hp.1]
      exact ih hp.2
  unfold fr
  rw [h0]
  exact (key l h.2).symm
/-! ### Regions -/
theorem WO_nil {q : Bool} {ops : Array Oper} : WO P X q ops [] k s Q = W P X k s Q := by unfold WO W WX; simp only [evOpsQ]
theorem evG_step {cf : CallF} {ops : Array Oper} {o : Oper} (h : isCall o = none) : evG P cf ops o s = stepQ P ops o s := by
  unfold evG exO stepQ run1
  simp only [h]
  cases wantA ops o s.fr with
  | none => rfl
  | some b => cases b <;> rfl
theorem WO_step {q : Bool} {ops : Array Oper} {o : Oper} {l : List Oper} (h : isCall o = none) : WO P X q ops (o :: l) k s Q = (match stepQ P ops o s with
    | some s1 => WO P X q ops l k s1 Q
    | none => False) := by
  have hp : pureAt o s = true := by unfold pureAt; simp only [h]
  cases hs : stepQ P ops o s with
  | some s1 =>
    simp only []
    unfold WO
    simp only [evOpsQ, hp, evG_step h, hs, Bool.not_true, Bool.and_false, Bool.false_eq_true, if_false]
  | none =>
    simp only [eq_iff_iff, iff_false]
    rintro ⟨n, x', s', h1, _⟩
    have := h1 n (Nat.le_refl _)
    simp only [evOpsQ, hp, evG_step h, hs, Bool.not_true, Bool.and_false, Bool.false_eq_true, if_false] at this
    cases this
/-- .. at a call of a function. -/
def WOc (P : Program) (X : Prims) (q : Bool) (ops : Array Oper) (o : Oper) (c : Operand × List Operand) (l : List Oper) (k : List Kx) (s : St) (Q : Ex → St → Prop) : Prop := WO P X q ops (o :: l) k s Q
theorem WO_cons {q : Bool} {ops : Array Oper} {o : Oper} {l : List Oper} : WO P X q ops (o :: l) k s Q = (match isCall o with
    | none => (match stepQ P ops o s with
      | some s1 => WO P X q ops l k s1 Q
      | none => False)
    | some c => WOc P X q ops o c l k s Q) := by
  cases h : isCall o with
  | none => exact WO_step h
  | some c => rfl
theorem WO_go {q : Bool} {ops : Array Oper} {o : Oper} {l : List Oper} {s1 : St} (h : isCall o = none) (h2 : stepQ P ops o s = some s1) : WO P X q ops (o :: l) k s Q = WO P X q ops l k s1 Q := by rw [WO_step h, h2]
/-- A call of a function on values alone. -/
theorem WO_call {q : Bool} {ops : Array Oper} {o : Oper} {l : List Oper} {f : Operand} {args : List Operand} {g : FuncId} {cap : List AV} {r : AV} (h : isCall o = some (f, args)) (hw : wantA ops o s.fr = some true) (hf : opd s.fr f = .fn g cap) (hc : cap.all capOk = true)
    (ha : (args.map (opd s.fr) ++ cap).all d2 = true) (hg : Gv P X g ((args.map (opd s.fr) ++ cap).map s2) r) (hk : WO P X q ops l k ⟨put s.fr o.dst r, s.S, s.T⟩ Q) : WOc P X q ops o (f, args) l k s Q := by
  show WO P X q ops (o :: l) k s Q
  obtain ⟨n1, h1⟩ := hg
  obtain ⟨n2, x', s', h2, hq⟩ := hk
  refine ⟨max n1 n2, x', s', fun n' hn' => ?_, hq⟩
  obtain ⟨r0, S1, T1, h3, hd, rfl⟩ := h1 n' (by omega)
  have hp : pureAt o s = true := by unfold pureAt; simp only [h, hf]; exact ha
  have he : evG P (evF P X n') ops o s = some ⟨put s.fr o.dst (s3 r0), s.S, s.T⟩ := by
    unfold evG exO run1 evCall
    simp only [hw, if_true, h, hf, hc, ha, h3, hd]; rfl
  simp only [evOpsQ, hp, he, Bool.not_true, Bool.and_false, Bool.false_eq_true, if_false]
  exact h2 n' (by omega)
/-- A call of a function that has to do with objects. -/
theorem WO_calls {ops : Array Oper} {o : Oper} {l : List Oper} {f : Operand} {args : List Operand} {g : FuncId} {cap : List AV} {r : AV} {S' : Obs} {T' : Toks} (h : isCall o = some (f, args)) (hw : wantA ops o s.fr = some true) (hf : opd s.fr f = .fn g cap) (hc : cap.all capOk = true)
    (ha : (args.map (opd s.fr) ++ cap).all d2 = false) (hg : Gs P X g (args.map (opd s.fr) ++ cap) s.S s.T r S' T') (hk : WO P X false ops l k ⟨put s.fr o.dst r, S', T'⟩ Q) : WOc P X false ops o (f, args) l k s Q := by
  show WO P X false ops (o :: l) k s Q
  obtain ⟨n1, h1⟩ := hg
  obtain ⟨n2, x', s', h2, hq⟩ := hk
  refine ⟨max n1 n2, x', s', fun n' hn' => ?_, hq⟩
  have h3 := h1 n' (by omega)
  have he : evG P (evF P X n') ops o s = some ⟨put s.fr o.dst r, S', T'⟩ := by
    unfold evG exO run1 evCall
    simp only [hw, if_true, h, hf, hc, ha, h3, Bool.false_eq_true, if_false]; rfl
  simp only [evOpsQ, he, Bool.false_and, Bool.false_eq_true, if_false]
  exact h2 n' (by omega)
/-- A call that is not made. -/
theorem WO_not {q : Bool} {ops : Array Oper} {o : Oper} {c : Operand × List Operand} {l : List Oper} (hw : wantA ops o s.fr = some false) (hp : q = false ∨ pureAt o s = true) (hk : WO P X q ops l k ⟨put s.fr o.dst (.tup []), s.S, s.T⟩ Q) : WOc P X q ops o c l k s Q := by
  show WO P X q ops (o :: l) k s Q
  obtain ⟨n2, x', s', h2, hq⟩ := hk
  refine ⟨n2, x', s', fun n' hn' => ?_, hq⟩
  have he : evG P (evF P X n') ops o s = some ⟨put s.fr o.dst (.tup []), s.S, s.T⟩ := by
    unfold evG exO
    simp only [hw, Bool.false_eq_true, if_false]; rfl
  have hqp : (q && !pureAt o s) = false := by rcases hp with rfl | h <;> simp [*]
  simp only [evOpsQ, he, hqp, Bool.false_eq_true, if_false]
  exact h2 n' (by omega)
theorem evOpsQ_false {cf : CallF} {ops : Array Oper} : ∀ (l : List Oper) (s : St), evOpsQ P cf false ops l s = evOps P cf ops l s
  | [], s => rfl
  | o :: l, s => by
    simp only [evOpsQ, evOps, Bool.false_and, Bool.false_eq_true, if_false]
    cases evG P cf ops o s with
    | none => rfl
    | some s1 => exact evOpsQ_false l s1
theorem W_region {id : Nat} {ops : Array Oper} : W P X (.c (.region id ops false) :: k) s Q = WO P X false ops ops.toList k s Q := by
  unfold W WX WO
  have e : ∀ cf n, runK P cf n (.c (.region id ops false) :: k) .normal s = (match evOpsQ P cf false ops ops.toList s with | some s1 => runK P cf n k .normal s1 | none => none) := by
    intro cf n
    simp only [runK, evC, evR, Bool.false_eq_true, if_false, evOpsQ_false]
    cases evOps P cf ops ops.toList s <;> rfl
  simp only [e]
def KC : Kd → Cls → Prop
  | .q, c => c = .quiet
  | .r, c => c = .quiet ∨ ∃ id, c = .reads id
  | .m, c => c = .quiet ∨ ∃ n, c = .makes n
  | .c, c => c = .quiet ∨ c = .chain
  | .w, _ => True
theorem compat_quiet (c : Cls) : compat c .quiet = true := by cases c <;> rfl
theorem KC.compat {k k' : Kd} {c c' : Cls} (h : KC k c) (h' : KC k' c') (hk : kcompat k k' = true) : Ev.compat c c' = true := by
  cases k <;> cases k' <;> first | (cases hk; done) | skip
  all_goals simp only [KC] at h h'
  all_goals (first | (subst h; rfl) | (subst h'; exact compat_quiet _) | skip)
  all_goals (rcases h with rfl | h <;> first | rfl | skip)
  all_goals (rcases h' with rfl | h' <;> first | exact compat_quiet _ | skip)
  all_goals (first | (obtain ⟨a, rfl⟩ := h; obtain ⟨b, rfl⟩ := h'; rfl) | (obtain ⟨a, rfl⟩ := h; subst h'; rfl) | (subst h; obtain ⟨b, rfl⟩ := h'; rfl))
theorem cls_kind {ops : Array Oper} {o : Oper} {s : St} (hcall : ∀ f args g cap, isCall o = some (f, args) → opd s.fr f = .fn g cap → wantA ops o s.fr = some true → (args.map (opd s.fr) ++ cap).all d2 = true) (hc : ∀ f args, isCall o = some (f, args) → wantA ops o s.fr = some true → ∃ g cap, opd s.fr f = .fn g cap) :
    KC (kind o) (cls ops o s) := by
  have hq : cls ops o s = .quiet → KC (kind o) (cls ops o s) := by
    intro h
    rw [h]
    cases kind o <;> first | rfl | exact .inl rfl | trivial
  cases hw : wantA ops o s.fr with
  | none => apply hq; unfold cls; simp only [hw]
  | some b =>
    cases b with
    | false => apply hq; unfold cls; simp only [hw]
    | true =>
      cases hic : isCall o with
      | some p =>
        obtain ⟨f, args⟩ := p
        obtain ⟨g, cap, hf⟩ := hc f args hic hw
        apply hq
        unfold cls
        simp only [hw, hic, hf, hcall f args g cap hic hf hw, if_true]
      | none =>
        cases ho : o.op with
        | load t y =>
          cases hy : opd s.fr y with
          | ptr id off =>
            have h1 : cls ops o s = .reads id := by unfold cls; simp only [hw, hic, ho, hy]
            have h2 : kind o = .r := by unfold kind; simp only [ho]
            rw [h1, h2]; exact .inr ⟨id, rfl⟩
          | _ => apply hq; unfold cls; simp only [hw, hic, ho, hy]
        | alloc t =>
          have h1 : cls ops o s = .makes s.S.length := by unfold cls; simp only [hw, hic, ho]
          have h2 : kind o = .m := by unfold kind; simp only [ho]
          rw [h1, h2]; exact .inr ⟨_, rfl⟩
        | box t y =>
          have h1 : cls ops o s = .makes s.S.length := by unfold cls; simp only [hw, hic, ho]
          have h2 : kind o = .m := by unfold kind; simp only [ho]
          rw [h1, h2]; exact .inr ⟨_, rfl⟩
        | store t y z =>
          have h2 : kind o = .w := by unfold kind; simp only [ho]
          rw [h2]; trivial
        | _ =>
          cases ha : isApp o with
          | some p =>
            have h1 : cls ops o s = .chain := by unfold cls; simp only [hw, hic, ho, ha]
            have h2 : kind o = .c := by unfold kind; simp only [ho, ha]
            rw [h1, h2]; exact .inr rfl
          | none => apply hq; unfold cls; simp only [hw, hic, ho, ha]
theorem evD_of {cf : CallF} {ops : Array Oper} {deps : List (List Nat)} (hd : ∀ j, j < ops.size → ∀ i, i < j → ((deps.getD j []).contains i || (kcompat (kind (ops.getD i default)) (kind (ops.getD j default)) && apart ops (ops.getD i default) (ops.getD j default))) = true) :
    ∀ (l : List Oper) (i : Nat) {s s' : St}, ops.toList.drop i = l → evOpsQ P cf true ops l s = some s' →
      ∃ log, evD P cf ops deps (List.range' i l.length) s = some (s', log) ∧ ∀ p ∈ log, i ≤ p.1 ∧ p.1 < ops.size ∧ KC (kind (ops.getD p.1 default)) p.2
  | [], i, s, s', hl, h => by
    simp only [evOpsQ, Option.some.injEq] at h
    subst h
    exact ⟨[], rfl, fun p hp => absurd hp (by simp)⟩
  | o :: l, i, s, s', hl, h => by
    have hi : i < ops.size := by
      rcases Nat.lt_or_ge i ops.size with h | h
      · exact h
      · rw [List.drop_eq_nil_of_le (by simpa using h)] at hl; cases hl
    have hoi : ops[i]? = some o := by
      have := congrArg List.head? hl
      simpa [List.head?_drop] using this
    have hgo : ops.getD i default = o := by rw [Array.getD_eq_getD_getElem?, hoi]; rfl
    simp only [evOpsQ, Bool.true_and] at h
    split at h
    · cases h
    rename_i hp
    simp only [Bool.not_eq_true', Bool.not_eq_false] at hp
    split at h
    case h_2 => cases h
    rename_i s1 h1
    obtain ⟨log, h4, h6⟩ := evD_of hd l (i + 1) (by rw [← List.tail_drop, hl]; rfl) h
    have hck := cls_kind (ops := ops) (o := o) (s := s) (fun f args g cap e1 e2 e3 => by
      unfold pureAt at hp
      simp only [e1, e2] at hp
      exact hp) (fun f args hic hwt => by
      unfold evG exO run1 at h1
      simp only [hwt, if_true, hic] at h1
      cases hf : opd s.fr f with
      | fn g cap => exact ⟨g, cap, rfl⟩
      | _ => rw [hf] at h1; simp at h1)
    refine ⟨(i, cls ops o s) :: log, ?_, fun p hp => ?_⟩
    · rw [List.length_cons, List.range'_succ]
      simp only [evD, hoi, h1, h4]
      rw [if_pos]
      refine List.all_eq_true.mpr fun p hp => ?_
      obtain ⟨p1, p2, p3⟩ := h6 p hp
      have hdd := hd p.1 p2 i (by omega)
      cases hcon : (deps.getD p.1 []).contains i with
      | true => rfl
      | false =>
        rw [hcon, Bool.false_or, hgo, Bool.and_eq_true] at hdd
        rw [Bool.false_or, Bool.and_eq_true]
        exact ⟨hck.compat p3 hdd.1, hdd.2⟩
    · rcases List.mem_cons.1 hp with rfl | hp
      · exact ⟨Nat.le_refl _, hi, by simp only [hgo]; exact hck⟩
      · obtain ⟨p1, p2, p3⟩ := h6 p hp
        exact ⟨by omega, p2, p3⟩
/-- A region that draws its order. -/
theorem W_draw {id : Nat} {ops : Array Oper} (hm : P.follows .mixedOrders = true) (hok : drawOK ops = true) (h : WO P X true ops ops.toList k s Q) : W P X (.c (.region id ops true) :: k) s Q := by
  obtain ⟨n, x', s', h1, hq⟩ := h
  refine ⟨n, x', s', fun n' hn' => ?_, hq⟩
  have h2 := h1 n' hn'
  unfold drawOK at hok
  simp only [Bool.and_eq_true, List.all_eq_true, List.mem_range] at hok
  obtain ⟨hf, hd⟩ := hok
  simp only [runK, evC, evR, if_true]
  cases h3 : evOpsQ P (evF P X n') true ops ops.toList s with
  | none => rw [h3] at h2; cases h2
  | some s1 =>
    rw [h3] at h2
    obtain ⟨log, h4, _⟩ := evD_of (deps := depsOf ops 0 [] ops.toList) (fun j hj i hi => by
      have := hd j hj i hi
      simpa using this) ops.toList 0 rfl h3
    rw [Array.length_toList, ← List.range_eq_range'] at h4
    simp only [h4, hm, hf, Bool.and_self, if_true]
    exact h2
/-! ### Chains -/
/-- A slice that may be appended to. -/
def App (P : Program) (e : TypeId) (T : Toks) (v : AV) (l : List AV) : Prop := (v = .sl .nil [] ∧ l = []) ∨ (v = .sl .full l ∧ uni ((tsz P e).getD 0) l = true) ∨ ∃ τ, v = .sl (.own τ) l ∧ T[τ]? = some (some e)
theorem App.nil {e : TypeId} {T : Toks} : App P e T (.sl .nil []) [] := .inl ⟨rfl, rfl⟩
/-- An append: what it gives may be appended to. -/
theorem App.go {e t : TypeId} {T : Toks} {v : AV} {l m : List AV} {o : Tok} {n b : Nat} {z : List AV} (h : App P e T v l) (ht : tel P t = some e) (hn : tsz P e = some n) (hb : tby P e = some b) (hz : tzero P e = some z)
    (hc : (decide (0 < n) && (z.length == n && (uni n m && m.all d2))) = true) (hs : (l.length + m.length) * b ≤ 140737488355328) (hl : l.length + m.length ≤ maxLen) :
    ∃ v' T', appA P t v (.sl o m) T = some (v', T') ∧ App P e T' v' (l ++ m) := by
  simp only [Bool.and_eq_true, decide_eq_true_eq, beq_iff_eq] at hc
  obtain ⟨c1, c2, c3, c4⟩ := hc
  rcases h with ⟨rfl, rfl⟩ | ⟨rfl, hu⟩ | ⟨τ, rfl, hτ⟩
  · refine ⟨.sl (.own T.length) m, T ++ [some e], ?_, .inr (.inr ⟨T.length, by simp, by simp⟩)⟩
    simp only [appA, ht, hn, hb, hz]
    rw [if_pos ⟨c1, c2, c3, c4, hs, hl⟩]
    simp
  · refine ⟨.sl (.own T.length) (l ++ m), T ++ [some e], ?_, .inr (.inr ⟨T.length, rfl, by simp⟩)⟩
    simp only [appA, ht, hn, hb, hz]
    rw [if_pos ⟨c1, c2, c3, c4, hs, hl⟩]
    simp only [hn, Option.getD_some] at hu
    simp [hu]
  · refine ⟨.sl (.own T.length) (l ++ m), T.set τ none ++ [some e], ?_, .inr (.inr ⟨T.length, rfl, by simp⟩)⟩
    simp only [appA, ht, hn, hb, hz]
    rw [if_pos ⟨c1, c2, c3, c4, hs, hl⟩]
    simp [hτ]
theorem App.s0 {e : TypeId} {T : Toks} {v : AV} {l : List AV} (h : App P e T v l) : Ev.s0 v = .sl .no l := by
  rcases h with ⟨rfl, rfl⟩ | ⟨rfl, _⟩ | ⟨τ, rfl, _⟩ <;> rfl
theorem App.is {e : TypeId} {T : Toks} {v : AV} {l : List AV} (h : App P e T v l) : ∃ o, v = .sl o l := by
  rcases h with ⟨rfl, rfl⟩ | ⟨rfl, _⟩ | ⟨τ, rfl, _⟩ <;> exact ⟨_, rfl⟩
/-! ### Functions -/
def Res (P : Program) (rs : List ResultVar) (S0 : Obs) (K : AV → Obs → Toks → Prop) (x : Ex) (s : St) : Prop := (x = .normal ∨ x = .ret) ∧ ∃ l, resL P s rs = some l ∧ K (fin S0 (rt l) s.S s.T).1 (fin S0 (rt l) s.S s.T).2.1 (fin S0 (rt l) s.S s.T).2.2
theorem call_of {f : FuncId} (hX : X f = none) {fn : Func} (hf : fun? P f = some fn) {c : Code} (hc : fn.body = some c) {args : List AV} {S : Obs} {T : Toks} {K : AV → Obs → Toks → Prop}
    (h : W P X [.c c] ⟨args ++ List.replicate (fn.ntmps - args.length) (.tup []), S, T⟩ (Res P fn.results.toList S K)) : ∃ r S' T', Gs P X f args S T r S' T' ∧ K r S' T' := by
  obtain ⟨n, x, s', h1, hx, l, hl, hK⟩ := h
  refine ⟨_, _, _, ⟨n + 1, fun n' hn' => ?_⟩, hK⟩
  obtain ⟨m, rfl⟩ : ∃ m, n' = m + 1 := ⟨n' - 1, by omega⟩
  have h2 := h1 m (by omega)
  simp only [runK] at h2
  rw [evF]
  simp only [hX, hf]
  unfold evFn
  simp only [hc]
  cases h3 : evC P (evF P X m) m c ⟨args ++ List.replicate (fn.ntmps - args.length) (.tup []), S, T⟩ with
  | none => rw [h3] at h2; cases h2
  | some p =>
    obtain ⟨y, s1⟩ := p
    rw [h3] at h2
    simp only [Option.some.injEq, Prod.mk.injEq] at h2
    obtain ⟨rfl, rfl⟩ := h2
    simp only [if_pos hx, hl]
    match l with
    | [] => rfl
    | [r] => rfl
    | _ :: _ :: _ => rfl
/-- What stands at the end of a function that has to do with values alone. -/
def ResV (P : Program) (rs : List ResultVar) (r : AV) (x : Ex) (s : St) : Prop := (x = .normal ∨ x = .ret) ∧ ∃ l, resL P s rs = some l ∧ d3 (rt l) = true ∧ s3 (rt l) = r
theorem fin_fst {S0 S : Obs} {T : Toks} {r : AV} : (fin S0 r S T).1 = r := by unfold fin; split <;> rfl
/-- A function's contract on values alone. -/
theorem gv_of {f : FuncId} (hX : X f = none) {fn : Func} (hf : fun? P f = some fn) {c : Code} (hc : fn.body = some c) {args : List AV} {r : AV}
    (h : W P X [.c c] ⟨args ++ List.replicate (fn.ntmps - args.length) (.tup []), [], []⟩ (ResV P fn.results.toList r)) : Gv P X f args r := by
  obtain ⟨n0, x, s', h1, hx, l, hl, hd, hr⟩ := h
  obtain ⟨r', S', T', ⟨n, hn⟩, h2, h3⟩ := call_of (K := fun r' _ _ => d3 r' = true ∧ s3 r' = r) hX hf hc ⟨n0, x, s', h1, hx, l, hl, by rw [fin_fst]; exact ⟨hd, hr⟩⟩
  exact ⟨n, fun n' hn' => ⟨r', S', T', hn n' hn', h2, h3⟩⟩
end
end Go.Proofs.Ytjfaafnngloblaa.Ev
