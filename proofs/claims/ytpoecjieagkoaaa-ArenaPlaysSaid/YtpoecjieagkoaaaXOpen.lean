/- What an argument's reading tells, for every type of whole numbers, bools, strings, structs and slices of these: the words that a law's row is opened by. -/
import Derived.Test.YtpoecjieagkoaaaWWords
import Derived.SizedLaws
import Derived.ChangeArms
import Derived.ChangeOld
import Derived.WideShapes
import Derived.Deep.Slices
import Derived.Deep.OwnShut
set_option linter.unusedVariables false
namespace Go.Proofs.YtpoecjieagkoaaaX
open Go.Proofs.YtpoecjieagkoaaaW.PrintWords Go.RowKit
theorem list_of {α : Type} (Q : Nat → α → Prop) (n : Nat) (h : ∀ i, i < n → ∃ a, Q i a) : ∃ l : List α, l.length = n ∧ ∀ i a, l[i]? = some a → Q i a := by
  induction n with
  | zero => exact ⟨[], rfl, fun i a h => by simp at h⟩
  | succ n ih =>
    obtain ⟨l, hl, hq⟩ := ih (fun i hi => h i (by omega))
    obtain ⟨a, ha⟩ := h n (by omega)
    refine ⟨l ++ [a], by simp [hl], fun i b hb => ?_⟩
    rcases Nat.lt_or_ge i l.length with hi | hi
    · rw [List.getElem?_append_left hi] at hb; exact hq i b hb
    · rw [List.getElem?_append_right hi] at hb
      have hi' : i = l.length := by
        rcases Nat.lt_or_ge (i - l.length) 1 with h1 | h1
        · omega
        · rw [List.getElem?_eq_none (by simpa using h1)] at hb; cases hb
      subst hi'
      simp at hb; subst hb; rw [hl]; exact ha
/-- Whatever is read of cells of type t is of the kind d, and has the property. -/
def Opens (P : Program) (t : TypeId) {α : Type} (d : Kd α) (Wf : α → Prop) : Prop :=
  ∀ {H : Type} (enc : TypeId × Value → H) (w : World) (base : Nat) (spare : Nat → Bool) (held : Bool) (fuel : Nat) (cs : List Value) (x : DataW H × List MemPlace),
    DataW.trod enc P w base spare held fuel t cs = some x → (x.1.weights P t).all (· ≤ reachBytes) = true → ∃ a : α, d.K w a cs ∧ Wf a
theorem Opens.int {P : Program} {t : TypeId} {k : IntKind} (ht : P.underlying t = some (.int k)) : Opens P t (Kd.int k) (fun x => (Lit.int k x).wf = true) := by
  intro H enc w base spare held fuel cs x h _
  obtain ⟨n, hcs, _, hw⟩ := DataW.trod_int ht h
  exact ⟨n, hcs, hw⟩
theorem Opens.bool {P : Program} {t : TypeId} (ht : P.underlying t = some .bool) : Opens P t Kd.bool (fun _ => True) := by
  intro H enc w base spare held fuel cs x h _
  obtain ⟨n, hcs, _⟩ := DataW.trod_bool ht h
  exact ⟨n, hcs, trivial⟩
theorem Opens.string {P : Program} {t : TypeId} (ht : P.underlying t = some .string) : Opens P t Kd.string (fun s => s.size ≤ 140737488351232) := by
  intro H enc w base spare held fuel cs x h hw
  obtain ⟨s, hcs, rfl, _⟩ := DataW.trod_string ht h
  refine ⟨s, hcs, ?_⟩
  have e : (DataW.weights (H := H) P t (.lit (.string s.data.toList))) = [s.data.toList.length] := by unfold DataW.weights; rfl
  have hw1 : (DataW.weights (H := H) P t (.lit (.string s.data.toList))).all (· ≤ reachBytes) = true := hw
  rw [e] at hw1
  have h2 : s.data.toList.length ≤ reachBytes := by simpa using hw1
  rw [Array.length_toList] at h2
  exact h2
theorem all_app {a b : List Nat} (h : (a ++ b).all (· ≤ reachBytes) = true) : a.all (· ≤ reachBytes) = true ∧ b.all (· ≤ reachBytes) = true := by
  rw [List.all_append, Bool.and_eq_true] at h; exact h
theorem weightsAll_at {H : Type} {P : Program} {e : TypeId} : ∀ (ds : List (DataW H)), (DataW.weightsAll P e ds).all (· ≤ reachBytes) = true → ∀ d ∈ ds, (d.weights P e).all (· ≤ reachBytes) = true
  | [], _, d, hd => by cases hd
  | d0 :: r, h, d, hd => by
    rw [DataW.weightsAll] at h
    rcases List.mem_cons.mp hd with rfl | hd
    · exact (all_app h).1
    · exact weightsAll_at r (all_app h).2 d hd
theorem Opens.slice {P : Program} {t e : TypeId} {α : Type} {d : Kd α} {Wf : α → Prop} (ht : P.underlying t = some (.slice e)) (hz : P.cellsOf e = d.sz) (h : Opens P e d Wf) :
    Opens P t (Kd.slice e d) (fun xs => (∀ x ∈ xs, Wf x) ∧ xs.length * P.bytesOf e ≤ 140737488351232 ∧ xs.length ≤ maxLen) := by
  intro H enc w base spare held fuel cs x hx hw
  rcases Go.Deep.open_slice ht hx with ⟨rfl, _⟩ | ⟨a, len, cap, m, n, D, Pl, rfl, hb, hl, hm, hmm, rfl, hi⟩
  · exact ⟨[], ⟨none, 0, rfl, Nat.le_refl _, rfl, by simp, fun h => absurd h (by simp)⟩, by simp, by simp, by simp⟩
  · have hlm : len ≤ m := by rw [hmm]; split <;> omega
    have hw1 : ((((List.range len).map D).length + ((List.range (m - len)).map fun j => D (len + j)).length) * P.bytesOf e :: (DataW.weightsAll P e ((List.range len).map D) ++ DataW.weightsAll P e ((List.range (m - len)).map fun j => D (len + j)))).all (· ≤ reachBytes) = true := by
      have e0 : DataW.weights P t (.slice ((List.range len).map D) ((List.range (m - len)).map fun j => D (len + j))) = ((((List.range len).map D).length + ((List.range (m - len)).map fun j => D (len + j)).length) * P.bytesOf e :: (DataW.weightsAll P e ((List.range len).map D) ++ DataW.weightsAll P e ((List.range (m - len)).map fun j => D (len + j)))) := by
        rw [DataW.weights]; simp only [ht]
      rw [← e0]; exact hw
    rw [List.all_cons, Bool.and_eq_true] at hw1
    obtain ⟨hw2, hw3⟩ := hw1
    have hw4 := weightsAll_at _ (all_app hw3).1
    obtain ⟨ps, hps, hq⟩ := list_of (fun i (p : α) => Wf p ∧ ∃ c, c.length = d.sz ∧ d.K w p c ∧ ∀ j u, c[j]? = some u → w.cell? (a.add (i * d.sz + j)) = some u) len (by
      intro i hi'
      obtain ⟨cs', hc, htr⟩ := hi i (by omega)
      obtain ⟨p, hp, hwf⟩ := h enc w base spare held n cs' _ htr (hw4 _ (List.mem_map.mpr ⟨i, List.mem_range.mpr hi', rfl⟩))
      obtain ⟨_, hcl, hat⟩ := World.cells?_some hc
      refine ⟨p, hwf, cs', d.K_len hp, hp, fun j u hu => ?_⟩
      have hj : j < cs'.length := (List.getElem?_eq_some_iff.1 hu).1
      have := hat j (by omega)
      rw [hz, Go.Deep.add_add] at this
      rw [this, hu])
    refine ⟨ps, ⟨some a, cap, by rw [hps], by omega, rfl, ?_, fun _ => ⟨a, rfl, fun j p hj => (hq j p hj).2⟩⟩, ?_, ?_, by omega⟩
    · have : maxLen = 9223372036854775807 := rfl
      omega
    · intro x hx
      obtain ⟨j, hj, rfl⟩ := List.getElem_of_mem hx
      exact (hq j _ (List.getElem?_eq_getElem hj)).1
    · have h2 : (len + (m - len)) * P.bytesOf e ≤ reachBytes := by simpa using hw2
      rw [hps]
      exact Nat.le_trans (Nat.mul_le_mul_right _ (by omega)) h2
def OpensF (P : Program) (o : Nat) (fs : List Field) {α : Type} (d : Kd α) (Wf : α → Prop) : Prop :=
  ∀ {H : Type} (enc : TypeId × Value → H) (w : World) (base : Nat) (spare : Nat → Bool) (held : Bool) (n : Nat) (cs : List Value) (xs : List (DataW H × List MemPlace)),
    (∀ (i : Nat) f, fs[i]? = some f → DataW.trod enc P w base spare held n f.type ((cs.drop f.offset).take (P.cellsOf f.type)) = xs[i]?) → xs.length = fs.length →
    (DataW.weightsEach P (fs.map (·.type)) (xs.map (·.1))).all (· ≤ reachBytes) = true → ∃ a : α, d.K w a ((cs.drop o).take d.sz) ∧ Wf a
theorem OpensF.one {P : Program} {o : Nat} {f : Field} {α : Type} {d : Kd α} {Wf : α → Prop} (ho : f.offset = o) (hz : P.cellsOf f.type = d.sz) (h : Opens P f.type d Wf) : OpensF P o [f] d Wf := by
  intro H enc w base spare held n cs xs hx hl hw
  match xs, hl with
  | [x], _ =>
    have h0 := hx 0 f rfl
    rw [ho, hz] at h0
    have hw' : (x.1.weights P f.type ++ DataW.weightsEach (H := H) P [] []).all (· ≤ reachBytes) = true := by rw [DataW.weightsEach.eq_def] at hw; exact hw
    exact h enc w base spare held n _ x h0 (all_app hw').1
theorem OpensF.cons {P : Program} {o : Nat} {f : Field} {fs : List Field} {α β : Type} {d : Kd α} {d2 : Kd β} {Wf : α → Prop} {Wf2 : β → Prop} (ho : f.offset = o) (hz : P.cellsOf f.type = d.sz) (h : Opens P f.type d Wf)
    (h2 : OpensF P (o + d.sz) fs d2 Wf2) : OpensF P o (f :: fs) (Kd.pair d d2) (fun x => Wf x.1 ∧ Wf2 x.2) := by
  intro H enc w base spare held n cs xs hx hl hw
  match xs, hl with
  | x :: xs, hl =>
    have h0 := hx 0 f rfl
    rw [ho, hz] at h0
    have hw' : (x.1.weights P f.type ++ DataW.weightsEach P (fs.map (·.type)) (xs.map (·.1))).all (· ≤ reachBytes) = true := by
      rw [List.map_cons, List.map_cons, DataW.weightsEach.eq_def] at hw; exact hw
    obtain ⟨a, ha, wa⟩ := h enc w base spare held n _ x h0 (all_app hw').1
    obtain ⟨b, hb, wb⟩ := h2 enc w base spare held n cs xs (fun i g hg => hx (i + 1) g (by simpa using hg)) (by simpa using hl) (all_app hw').2
    refine ⟨(a, b), ⟨_, _, ?_, ha, hb⟩, wa, wb⟩
    show (cs.drop o).take (d.sz + d2.sz) = _
    rw [List.take_add, List.drop_drop]
theorem Opens.struct {P : Program} {t : TypeId} {fs : Array Field} {α β : Type} {d : Kd α} {Wf : α → Prop} (f : β → α) (g : α → β) (hg : ∀ a, f (g a) = a) (ht : P.underlying t = some (.struct fs)) (hz : P.cellsOf t = d.sz) (h : OpensF P 0 fs.toList d Wf) :
    Opens P t (Kd.iso d f) (fun b => Wf (f b)) := by
  intro H enc w base spare held fuel cs x hx hw
  obtain ⟨xs, n, rfl, rfl, hcs, hl, hf⟩ := DataW.trod_struct ht hx
  have hw' : (DataW.weightsEach P (fs.toList.map (·.type)) (xs.map (·.1))).all (· ≤ reachBytes) = true := by
    have hw0 : (DataW.weights P t (.agg (xs.map (·.1)))).all (· ≤ reachBytes) = true := hw
    rw [DataW.weights] at hw0; simp only [ht] at hw0; exact hw0
  obtain ⟨a, ha, wa⟩ := h enc w base spare held n cs xs (fun i g hg' => hf i g (by rw [← Array.getElem?_toList]; exact hg')) (by simpa using hl) hw'
  rw [List.drop_zero, List.take_of_length_le (by rw [hcs, hz]; exact Nat.le_refl _)] at ha
  exact ⟨g a, by show d.K w (f (g a)) cs; rw [hg]; exact ha, by show Wf (f (g a)); rw [hg]; exact wa⟩
theorem Opens.imp {P : Program} {t : TypeId} {α : Type} {d : Kd α} {Wf Wf2 : α → Prop} (h : Opens P t d Wf) (hi : ∀ a, Wf a → Wf2 a) : Opens P t d Wf2 := by
  intro H enc w base spare held fuel cs x hx hw
  obtain ⟨a, ha, wa⟩ := h enc w base spare held fuel cs x hx hw
  exact ⟨a, ha, hi a wa⟩
/-- An argument of a row. -/
theorem Opens.arg {P : Program} {t : TypeId} {α : Type} {d : Kd α} {Wf : α → Prop} (h : Opens P t d Wf) {H : Type} {enc : TypeId × Value → H} {W : World} {base : Nat} {spare : Nat → Bool} {held : Bool} {v : Value} {x : DataW H} {p : List MemPlace} {ts : List TypeId} {ds : List (DataW H)} {j : Nat}
    (hsz : (DataW.weightsEach P ts ds).all (· ≤ reachBytes) = true) (ht : ts[j]? = some t) (hd : ds[j]? = some x) (hx : DataW.Trod enc P W base spare held t v x p) : ∃ a : α, d.K W a v.cells.toList ∧ Wf a := by
  obtain ⟨fuel, hf⟩ := hx
  refine h enc W base spare held fuel _ _ hf ?_
  clear hf h
  induction ts generalizing ds j with
  | nil => simp at ht
  | cons t0 ts ih =>
    cases ds with
    | nil => simp at hd
    | cons d0 ds =>
      have hsz' : (d0.weights P t0 ++ DataW.weightsEach P ts ds).all (· ≤ reachBytes) = true := by rw [DataW.weightsEach.eq_def] at hsz; exact hsz
      cases j with
      | zero =>
        simp at ht hd; subst ht hd
        exact (all_app hsz').1
      | succ j => exact ih (all_app hsz').2 (by simpa using ht) (by simpa using hd)
end Go.Proofs.YtpoecjieagkoaaaX
