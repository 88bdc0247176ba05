/- The operations that leave the world alone. No condition. -/
import Derived.Test.YtjfaafnngloblaaEv2
namespace Go.Proofs.Ytjfaafnngloblaa.Ev
open Go
set_option linter.unusedVariables false
set_option linter.unusedSimpArgs false
section
variable {P : Program} {Z : Zs} {β : List Nat} {γ : List Value} {T : Toks} {w : World}
theorem R3.v_inv {x v : Value} (h : R3 Z β γ T w P (.v x) v) : v = x ∧ plainV v = true := DR.v_inv (show DR Z w (.v x) v from h)
theorem R3.of_v {x : Value} (h : plainV x = true) : R3 Z β γ T w P (.v x) x := DR.v x h
theorem opd_r {fr : List AV} {a : Act} (F : FR P Z β γ T w fr a) (y : Operand) : R3 Z β γ T w P (opd fr y) (a.eval y) := by
  cases y with
  | tmp t =>
    by_cases ht : t < fr.length
    · exact F.tv t ht
    · have e : fr.getD t .dead = .dead := by simp [List.getD_eq_getElem?_getD, List.getElem?_eq_none (Nat.le_of_not_lt ht)]
      show R3 Z β γ T w P (fr.getD t .dead) _
      rw [e]; trivial
  | const x => exact toAV_r
  | global g => trivial
  | func f => exact ⟨#[], rfl, rfl, fun i hi => absurd hi (by simp)⟩
theorem intA_run {op : BinOp} {t : TypeId} {k : IntKind} {a b : Int} {r : Value} (h : intA op k a b = some r) : (binOp op t (.int k a) (.int k b)).run P w = .ok r w ∧ plainV r = true := by
  cases op <;> simp only [intA] at h <;> (try split at h) <;> simp only [Option.some.injEq, reduceCtorEq] at h <;> subst h <;>
    simp_all [binOp, Op.intArith, Op.intDiv, Op.intBits, Op.intCmp, plainV]
theorem shA_run {op : BinOp} {t : TypeId} {k k' : IntKind} {a b : Int} {r : Value} (h : shA op k a b = some r) (ho : op = .shl ∨ op = .shr) : (binOp op t (.int k a) (.int k' b)).run P w = .ok r w ∧ plainV r = true := by
  rcases ho with rfl | rfl <;> simp only [shA] at h <;> split at h <;> simp only [Option.some.injEq, reduceCtorEq] at h <;> subst h <;> refine ⟨?_, rfl⟩ <;>
    (rename_i hb; simp [binOp, Op.shift, hb])
theorem strA_run {op : BinOp} {t : TypeId} {a b : ByteArray} {r : Value} (h : strA op a b = some r) : (binOp op t (.string a) (.string b)).run P w = .ok r w ∧ plainV r = true := by
  cases op <;> simp only [strA] at h <;> (try split at h) <;> simp only [Option.some.injEq, reduceCtorEq] at h <;> subst h <;> simp_all [binOp, Op.stringOp, plainV]
theorem eqGuard_int {op : BinOp} {t : TypeId} {x y : Operand} {k : IntKind} {c : Int} {b : Value} : (eqGuard op t x y (.int k c) b).run P w = .ok () w := by
  unfold eqGuard; cases op <;> rfl
theorem eqGuard_str {op : BinOp} {t : TypeId} {x y : Operand} {c : ByteArray} {b : Value} : (eqGuard op t x y (.string c) b).run P w = .ok () w := by
  unfold eqGuard; cases op <;> rfl
theorem eqGuard_bool {op : BinOp} {t : TypeId} {x y : Operand} {c : Bool} {b : Value} : (eqGuard op t x y (.bool c) b).run P w = .ok () w := by
  unfold eqGuard; cases op <;> rfl
theorem equalIn_bool (n : Nat) {t : TypeId} {c d : Bool} (hu : P.underlying t = some .bool) : (Op.equalIn (n + 1) t (.bool c) (.bool d)).run P w = .ok (c == d) w := by
  unfold Op.equalIn
  simp [underlying, hu]
theorem equal_bool {t : TypeId} {c d : Bool} (hu : P.underlying t = some .bool) : (Op.equal t (.bool c) (.bool d)).run P w = .ok (c == d) w := equalIn_bool 9999 hu
theorem eqA_run {t : TypeId} {x y : AV} {a b : Value} {r : Bool} (h : eqA P t x y = some r) (hx : R3 Z β γ T w P x a) (hy : R3 Z β γ T w P y b) (op : BinOp) (ho : op = .eql ∨ op = .neq) (p q : Operand) :
    (do eqGuard op t p q a b; binOp op t a b : Sem Value).run P w = .ok (.bool (if op = .eql then r else !r)) w := by
  unfold eqA at h
  split at h
  · rename_i hu
    split at h
    · rename_i c d
      obtain ⟨rfl, _⟩ := hx.v_inv
      obtain ⟨rfl, _⟩ := hy.v_inv
      simp only [Option.some.injEq] at h
      subst h
      have hg : (eqGuard op t p q (.bool c) (.bool d)).run P w = .ok () w := eqGuard_bool
      have he := equal_bool (P := P) (w := w) (t := t) (c := c) (d := d) hu
      rcases ho with rfl | rfl <;> simp [hg, binOp, he]
    · cases h
  · cases h
theorem binA_run {op : BinOp} {t : TypeId} {x y r : AV} {a b : Value} (h : binA P op t x y = some r) (hx : R3 Z β γ T w P x a) (hy : R3 Z β γ T w P y b) (p q : Operand) :
    ∃ v, (do eqGuard op t p q a b; binOp op t a b : Sem Value).run P w = .ok v w ∧ R3 Z β γ T w P r v := by
  unfold binA at h
  split at h
  · rename_i k c k' d
    obtain ⟨rfl, _⟩ := hx.v_inv
    obtain ⟨rfl, _⟩ := hy.v_inv
    have hg : (eqGuard op t p q (.int k c) (.int k' d)).run P w = .ok () w := eqGuard_int
    split at h
    · obtain ⟨v, hv, rfl⟩ := Option.map_eq_some_iff.1 h
      obtain ⟨h1, h2⟩ := shA_run (P := P) (w := w) (t := t) (k' := k') hv (.inl rfl)
      exact ⟨v, by simp [hg, h1], .of_v h2⟩
    · obtain ⟨v, hv, rfl⟩ := Option.map_eq_some_iff.1 h
      obtain ⟨h1, h2⟩ := shA_run (P := P) (w := w) (t := t) (k' := k') hv (.inr rfl)
      exact ⟨v, by simp [hg, h1], .of_v h2⟩
    · split at h
      · rename_i e
        subst e
        obtain ⟨v, hv, rfl⟩ := Option.map_eq_some_iff.1 h
        obtain ⟨h1, h2⟩ := intA_run (P := P) (w := w) (t := t) hv
        exact ⟨v, by simp [hg, h1], .of_v h2⟩
      · cases h
  · rename_i c d
    obtain ⟨rfl, _⟩ := hx.v_inv
    obtain ⟨rfl, _⟩ := hy.v_inv
    have hg : (eqGuard op t p q (.string c) (.string d)).run P w = .ok () w := eqGuard_str
    obtain ⟨v, hv, rfl⟩ := Option.map_eq_some_iff.1 h
    obtain ⟨h1, h2⟩ := strA_run (P := P) (w := w) (t := t) hv
    exact ⟨v, by simp [hg, h1], .of_v h2⟩
  · split at h
    · obtain ⟨v, hv, rfl⟩ := Option.map_eq_some_iff.1 h
      exact ⟨_, eqA_run hv hx hy .eql (.inl rfl) p q, .of_v rfl⟩
    · obtain ⟨v, hv, rfl⟩ := Option.map_eq_some_iff.1 h
      exact ⟨_, eqA_run hv hx hy .neq (.inr rfl) p q, .of_v rfl⟩
    · cases h
theorem unA_run {op : UnOp} {x r : AV} {a : Value} (h : unA op x = some r) (hx : R3 Z β γ T w P x a) : ∃ v, (Op.unary op a).run P w = .ok v w ∧ R3 Z β γ T w P r v := by
  unfold unA at h
  split at h
  · obtain ⟨rfl, _⟩ := hx.v_inv
    simp only [Option.some.injEq] at h
    subst h
    exact ⟨_, rfl, .of_v rfl⟩
  · obtain ⟨rfl, _⟩ := hx.v_inv
    simp only [Option.some.injEq] at h
    subst h
    exact ⟨_, rfl, .of_v rfl⟩
  · cases h
theorem convA_run {s d : TypeId} {x r : AV} {a : Value} (h : convA P s d x = some r) (hs : (P.underlying s).isSome = true) (hx : R3 Z β γ T w P x a) : ∃ v, (convert s d a).run P w = .ok v w ∧ R3 Z β γ T w P r v := by
  unfold convA at h
  split at h
  · obtain ⟨rfl, _⟩ := hx.v_inv
    split at h
    · rename_i hu
      simp only [Option.some.injEq] at h
      subst h
      obtain ⟨us, hus⟩ := Option.isSome_iff_exists.1 hs
      exact ⟨_, by simp [convert, underlying, hu, hus, Conv.intToInt], .of_v rfl⟩
    · cases h
  · cases h
end
end Go.Proofs.Ytjfaafnngloblaa.Ev
