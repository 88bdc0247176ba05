/- A region that draws its order, by an invariant: one obligation for each operation, in whatever order. No condition. -/
import Derived.Orders
namespace Go.Proofs.Ytjfaafnngloblaa.Own
open Go
theorem count_set : ∀ (l : List Bool) (i : Nat), l[i]? = some false → (l.set i true).countP (! ·) + 1 = l.countP (! ·)
  | [], i, h => by simp at h
  | b :: l, 0, h => by
    simp only [List.getElem?_cons_zero, Option.some.injEq] at h
    subst h
    rw [List.set_cons_zero, List.countP_cons, List.countP_cons]
    simp
  | b :: l, i + 1, h => by
    rw [List.getElem?_cons_succ] at h
    have := count_set l i h
    rw [List.set_cons_succ, List.countP_cons, List.countP_cons]
    omega
theorem getD_false {l : Array Bool} {i : Nat} (h : l.getD i true = false) : l.toList[i]? = some false := by
  rw [Array.getElem?_toList]
  rw [Array.getD_eq_getD_getElem?] at h
  cases hh : l[i]? with
  | none => rw [hh] at h; cases h
  | some b => rw [hh] at h; exact congrArg some h
section
variable {P : Program} {ops : Array Oper} {Q : Exit → Act → World → Prop} {md : Region.Mode}
/-- I: what holds when the operations listed are through. -/
theorem wpAny_inv (I : Array Bool → Act → World → Prop)
    (hstep : ∀ (l : Array Bool) (a : Act) (w : World) (i : Nat), l.size = ops.size → I l a w → i ∈ Region.ready md ops l → wpOp P ops Q i (I (l.setIfInBounds i true)) a w)
    (hend : ∀ (l : Array Bool) (a : Act) (w : World), l.size = ops.size → Region.ready md ops l = [] → I l a w → Q .normal a w) :
    ∀ (fuel : Nat) (l : Array Bool) (a : Act) (w : World), l.size = ops.size → (l.toList.countP (! ·)) ≤ fuel → I l a w → wpAny P md ops Q fuel l a w
  | 0, l, a, w, hs, hc, h => by
    have hr : Region.ready md ops l = [] := by
      rw [List.eq_nil_iff_forall_not_mem]
      intro i hi
      obtain ⟨h1, _⟩ := mem_ready.mp hi
      have h2 := List.mem_of_getElem? (getD_false h1)
      have h3 : 0 < l.toList.countP (! ·) := List.countP_pos_iff.mpr ⟨false, h2, rfl⟩
      omega
    exact ⟨hr, hend l a w hs hr h⟩
  | fuel + 1, l, a, w, hs, hc, h => by
    refine ⟨fun hr => hend l a w hs hr h, fun i hi => ?_⟩
    refine wpOp_mono (fun a' w' h' => ?_) (hstep l a w i hs h hi)
    refine wpAny_inv I hstep hend fuel _ a' w' (by simpa using hs) ?_ h'
    obtain ⟨h1, _⟩ := mem_ready.mp hi
    have := count_set l.toList i (getD_false h1)
    rw [Array.toList_setIfInBounds]
    omega
/-- The whole region. -/
theorem region_inv {id : Nat} {a : Act} {w : World} (hm : P.follows .mixedOrders = true) (I : Array Bool → Act → World → Prop)
    (h0 : I (Array.replicate ops.size false) a { w with drawn := w.drawn + 1 })
    (hstep : ∀ (l : Array Bool) (a : Act) (w : World) (i : Nat), l.size = ops.size → I l a w → i ∈ Region.ready .any ops l → wpOp P ops Q i (I (l.setIfInBounds i true)) a w)
    (hend : ∀ (l : Array Bool) (a : Act) (w : World), l.size = ops.size → Region.ready .any ops l = [] → I l a w → Q .normal a w) :
    (Code.region id ops true).wp P Q a w := by
  refine wp_region_any hm (wpAny_inv I hstep hend ops.size _ a _ (by simp) ?_ h0)
  refine Nat.le_trans List.countP_le_length ?_
  simp
/-- Of an operation that is ready: it isn't through, and what it waits for is. -/
theorem ready_of {l : Array Bool} {i : Nat} (h : i ∈ Region.ready md ops l) : l.getD i true = false ∧ ∃ o, ops[i]? = some o ∧ ∀ e ∈ o.after, Region.binds md e = true → l.getD e.on false = true := mem_ready.mp h
/-- Each operation waits for earlier ones alone. -/
def forwardB (md : Region.Mode) (ops : Array Oper) : Bool := (List.range ops.size).all fun i => match ops[i]? with | some o => o.after.all fun e => !Region.binds md e || decide (e.on < i) | none => true
/-- Where nothing is ready all are through. -/
theorem all_listed (hf : forwardB md ops = true) {l : Array Bool} (hs : l.size = ops.size) (hr : Region.ready md ops l = []) : ∀ i, i < ops.size → l.getD i false = true := by
  intro i
  induction i using Nat.strongRecOn with
  | ind i ih =>
    intro hi
    by_cases h : l.getD i false = true
    · exact h
    · exfalso
      have hil : i < l.size := by omega
      have h1 : l.getD i true = false := by
        rw [Array.getD_eq_getD_getElem?, Array.getElem?_eq_getElem hil] at h ⊢
        simpa using h
      have ho : ops[i]? = some ops[i] := Array.getElem?_eq_getElem hi
      have hfi := List.all_eq_true.mp hf i (List.mem_range.mpr hi)
      simp only [ho] at hfi
      have : i ∈ Region.ready md ops l := mem_ready.mpr ⟨h1, ops[i], ho, fun e he hb => by
        have h2 := Array.all_eq_true_iff_forall_mem.mp hfi e he
        rw [hb] at h2
        have h3 : e.on < i := by simpa using h2
        exact ih e.on h3 (by omega)⟩
      rw [hr] at this
      cases this
end
end Go.Proofs.Ytjfaafnngloblaa.Own
