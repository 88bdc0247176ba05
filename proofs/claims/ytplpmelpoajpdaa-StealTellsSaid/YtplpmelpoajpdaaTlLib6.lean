/- A ring's next one taken; a ring halved; rows one behind the other. No condition. -/
import Derived.Test.YtplpmelpoajpdaaTlLib4
import Derived.SizedLaws
import Derived.ChangeArms
import Derived.ChangeOld
import Derived.WideShapes
import Derived.Deep.Slices
import Derived.Deep.OwnShut
import Derived.Test.YtplpmelpoajpdaaTlLib5
import Derived.Calls
import Derived.Lib.QuietBelow
import Derived.Test.YtplpmelpoajpdaaProg
import Derived.Shelf.SlSortCmp.NoneTotal
import Derived.Ground.SlsfProg
import Derived.Lib.OwnBridge
import Derived.OwnWalk
import Derived.WalkKit
import Derived.KernelRfl
import Derived.Deep.LoopGhost
import Derived.Deep.QuietTactic
import Derived.BigQuiet
import Derived.Tactics
import Derived.Deep.DeepCutAuto
import Derived.Deep.CutBlock
import Derived.Shelf.Spec.SlicesGrow
import Derived.Ground.Names8Prog
namespace Go.Proofs.Ytplpmelpoajpdaa.Ev
attribute [local instance] offTV
open Go Go.RowKit
set_option linter.unusedVariables false
set_option linter.unusedSimpArgs false
/-- All cells that a world has. -/
def Zw (w : World) : Zs := fun b _ => b < w.heap.size
/-- The cells cs hold a. -/
def KE (w : World) (l : List AV) (cs : List Value) : Prop := l.length = cs.length ∧ ∀ j, j < l.length → DR (Zw w) w (l.getD j .dead) (cs.getD j undef)
theorem KE.one {w : World} {a : AV} {v : Value} (h : KE w [a] [v]) : DR (Zw w) w a v := h.2 0 (by simp)
theorem KE.of {w : World} {a : AV} {v : Value} (h : DR (Zw w) w a v) : KE w [a] [v] := ⟨rfl, fun j hj => by
  obtain rfl : j = 0 := by simpa using hj
  exact h⟩
theorem KE.agg {w : World} {l : List AV} {cs : Array Value} (h : KE w l cs.toList) : DR (Zw w) w (.agg l) (.agg cs) :=
  .agg l cs (by simpa using h.1) fun i hi => by have := h.2 i hi; simpa [List.getD_eq_getElem?_getD, Array.getD_eq_getD_getElem?] using this
theorem KE.app {w : World} {l m : List AV} {cs ds : List Value} (h : KE w l cs) (k : KE w m ds) : KE w (l ++ m) (cs ++ ds) := by
  refine ⟨by simp [h.1, k.1], fun j hj => ?_⟩
  by_cases hl : j < l.length
  · have := h.2 j hl
    have h2 : j < cs.length := by rw [← h.1]; exact hl
    simpa [List.getD_eq_getElem?_getD, List.getElem?_append_left hl, List.getElem?_append_left h2] using this
  · have h3 : j - l.length < m.length := by rw [List.length_append] at hj; omega
    have := k.2 _ h3
    have h2 : cs.length ≤ j := by rw [← h.1]; omega
    simpa [List.getD_eq_getElem?_getD, List.getElem?_append_right (Nat.le_of_not_lt hl), List.getElem?_append_right h2, ← h.1] using this
theorem list_of {α : Type} (Q : Nat → α → Prop) (n : Nat) (h : ∀ i, i < n → ∃ a, Q i a) : ∃ l : List α, l.length = n ∧ ∀ i a, l[i]? = some a → Q i a := by
  induction n with
  | zero => exact ⟨[], rfl, fun i a h => by simp at h⟩
  | succ n ih =>
    obtain ⟨l, hl, hq⟩ := ih (fun i hi => h i (by omega))
    obtain ⟨a, ha⟩ := h n (by omega)
    refine ⟨l ++ [a], by simp [hl], fun i b hb => ?_⟩
    rcases Nat.lt_or_ge i l.length with hi | hi
    · rw [List.getElem?_append_left hi] at hb; exact hq i b hb
    · rw [List.getElem?_append_right hi] at hb
      have hi' : i = l.length := by
        rcases Nat.lt_or_ge (i - l.length) 1 with h1 | h1
        · omega
        · rw [List.getElem?_eq_none (by simpa using h1)] at hb; cases hb
      subst hi'
      simp at hb; subst hb; rw [hl]; exact ha
/-- Whatever is read of cells of type t is a value of the form enc. -/
def OpE (P : Program) (t : TypeId) {α : Type} (enc : α → AV) (Wf : α → Prop) : Prop :=
  ∀ {H : Type} (e : TypeId × Value → H) (w : World) (base : Nat) (spare : Nat → Bool) (held : Bool) (fuel : Nat) (cs : List Value) (x : DataW H × List MemPlace),
    DataW.trod e P w base spare held fuel t cs = some x → (x.1.weights P t).all (· ≤ reachBytes) = true → ∃ a : α, KE w (enc a).cells cs ∧ Wf a
theorem OpE.int {P : Program} {t : TypeId} {k : IntKind} (ht : P.underlying t = some (.int k)) : OpE P t (fun n => .v (.int k n)) (fun x => k.min ≤ x ∧ x ≤ k.max) := by
  intro H enc w base spare held fuel cs x h _
  obtain ⟨n, rfl, _, hw⟩ := DataW.trod_int ht h
  exact ⟨n, KE.of (.v _ rfl), by simpa [Lit.wf] using hw⟩
theorem OpE.bool {P : Program} {t : TypeId} (ht : P.underlying t = some .bool) : OpE P t (fun b => .v (.bool b)) (fun _ => True) := by
  intro H enc w base spare held fuel cs x h _
  obtain ⟨n, rfl, _⟩ := DataW.trod_bool ht h
  exact ⟨n, KE.of (.v _ rfl), trivial⟩
theorem OpE.string {P : Program} {t : TypeId} (ht : P.underlying t = some .string) : OpE P t (fun s => .v (.string s)) (fun s => s.size ≤ 140737488351232) := by
  intro H enc w base spare held fuel cs x h hw
  obtain ⟨s, rfl, rfl, _⟩ := DataW.trod_string ht h
  refine ⟨s, KE.of (.v _ rfl), ?_⟩
  have e : (DataW.weights (H := H) P t (.lit (.string s.data.toList))) = [s.data.toList.length] := by unfold DataW.weights; rfl
  have hw1 : (DataW.weights (H := H) P t (.lit (.string s.data.toList))).all (· ≤ reachBytes) = true := hw
  rw [e] at hw1
  have h2 : s.data.toList.length ≤ reachBytes := by simpa using hw1
  rw [Array.length_toList] at h2
  exact h2
theorem all_app {a b : List Nat} (h : (a ++ b).all (· ≤ reachBytes) = true) : a.all (· ≤ reachBytes) = true ∧ b.all (· ≤ reachBytes) = true := by
  rw [List.all_append, Bool.and_eq_true] at h; exact h
theorem weightsAll_at {H : Type} {P : Program} {e : TypeId} : ∀ (ds : List (DataW H)), (DataW.weightsAll P e ds).all (· ≤ reachBytes) = true → ∀ d ∈ ds, (d.weights P e).all (· ≤ reachBytes) = true
  | [], _, d, hd => by cases hd
  | d0 :: r, h, d, hd => by
    rw [DataW.weightsAll] at h
    rcases List.mem_cons.mp hd with rfl | hd
    · exact (all_app h).1
    · exact weightsAll_at r (all_app h).2 d hd
theorem OpE.slice {P : Program} {t e : TypeId} {α : Type} {en : α → AV} {Wf : α → Prop} (ht : P.underlying t = some (.slice e)) (hz : 0 < P.cellsOf e) (hl : ∀ a, (en a).cells.length = P.cellsOf e) (h : OpE P e en Wf) :
    OpE P t (fun l : List α => .sl .no (l.map en)) (fun xs : List α => (∀ x ∈ xs, Wf x) ∧ xs.length * P.bytesOf e ≤ 140737488351232 ∧ xs.length ≤ maxLen) := by
  intro H enc w base spare held fuel cs x hx hw
  rcases Go.Deep.open_slice ht hx with ⟨rfl, _⟩ | ⟨a, len, cap, m, n, D, Pl, rfl, hb, hle, hm, hmm, rfl, hi⟩
  · exact ⟨[], KE.of (.nil _ none 0 fun _ => rfl), by simp, by simp, by simp⟩
  · have hlm : len ≤ m := by rw [hmm]; split <;> omega
    have hw1 : ((((List.range len).map D).length + ((List.range (m - len)).map fun j => D (len + j)).length) * P.bytesOf e :: (DataW.weightsAll P e ((List.range len).map D) ++ DataW.weightsAll P e ((List.range (m - len)).map fun j => D (len + j)))).all (· ≤ reachBytes) = true := by
      have e0 : DataW.weights P t (.slice ((List.range len).map D) ((List.range (m - len)).map fun j => D (len + j))) = ((((List.range len).map D).length + ((List.range (m - len)).map fun j => D (len + j)).length) * P.bytesOf e :: (DataW.weightsAll P e ((List.range len).map D) ++ DataW.weightsAll P e ((List.range (m - len)).map fun j => D (len + j)))) := by
        rw [DataW.weights]; simp only [ht]
      rw [← e0]; exact hw
    rw [List.all_cons, Bool.and_eq_true] at hw1
    obtain ⟨hw2, hw3⟩ := hw1
    have hw4 := weightsAll_at _ (all_app hw3).1
    obtain ⟨ps, hps, hq⟩ := list_of (fun i (p : α) => Wf p ∧ ∃ c : List Value, KE w (en p).cells c ∧ ∀ j u, c[j]? = some u → w.cell? (a.add (i * P.cellsOf e + j)) = some u) len (by
      intro i hi'
      obtain ⟨cs', hc, htr⟩ := hi i (by omega)
      obtain ⟨p, hp, hwf⟩ := h enc w base spare held n cs' _ htr (hw4 _ (List.mem_map.mpr ⟨i, List.mem_range.mpr hi', rfl⟩))
      obtain ⟨_, hcl, hat⟩ := World.cells?_some hc
      refine ⟨p, hwf, cs', hp, fun j u hu => ?_⟩
      have hj : j < cs'.length := (List.getElem?_eq_some_iff.1 hu).1
      have := hat j (by omega)
      rw [Go.Deep.add_add] at this
      rw [this, hu])
    refine ⟨ps, KE.of ?_, ?_, ?_, by omega⟩
    · by_cases h0 : len = 0
      · subst h0
        obtain rfl : ps = [] := List.eq_nil_of_length_eq_zero hps
        exact .nil _ _ _ (fun h => by cases h)
      · have hget : ∀ i, i < len → ∃ p, ps[i]? = some p ∧ (ps.map en).getD i .dead = en p := fun i hi' => by
          have : i < ps.length := by omega
          exact ⟨ps[i], List.getElem?_eq_getElem this, by simp [List.getD_eq_getElem?_getD, this]⟩
        have hcell : ∀ i j, i < len → j < P.cellsOf e → ∃ u, w.cell? (a.add (i * P.cellsOf e + j)) = some u ∧ DR (Zw w) w (((ps.map en).getD i .dead).cells.getD j .dead) u := by
          intro i j hi' hj
          obtain ⟨p, hp, hg⟩ := hget i hi'
          obtain ⟨_, c, hk, hc⟩ := hq i p hp
          have hcl : c.length = P.cellsOf e := by rw [← hk.1, hl]
          refine ⟨c[j]'(by omega), hc j _ (List.getElem?_eq_getElem (by omega)), ?_⟩
          have := hk.2 j (by rw [hl]; exact hj)
          rw [hg]
          simpa [List.getD_eq_getElem?_getD, List.getElem?_eq_getElem (show j < c.length by omega)] using this
        have hsp : a.spot = none := by
          obtain ⟨u, hu, _⟩ := hcell 0 0 (by omega) hz
          simp only [Nat.zero_mul, Nat.add_zero, Addr.add, if_true] at hu
          unfold World.cell? at hu
          split at hu
          · split at hu
            · cases hu
            · rename_i hs; simpa using hs
          · cases hu
        obtain ⟨b, p, s⟩ := a
        simp only at hsp
        subst hsp
        have hadd : ∀ n, (⟨b, p, none⟩ : Addr).add n = ⟨b, p + n, none⟩ := fun n => Addr.add_lit _ _ _
        simp only [hadd] at hcell
        have hlen : (ps.map en).length = len := by simpa using hps
        have := DR.sl (Z := Zw w) (w := w) .no (ps.map en) b p cap (P.cellsOf e) (fun i j => (w.cell? ⟨b, p + (i * P.cellsOf e + j), none⟩).getD undef) (by omega) (fun i hi' => by
          obtain ⟨q, _, hg⟩ := hget i (by omega)
          rw [hg, hl]) (fun i j hi' hj => by
          obtain ⟨u, hu, _⟩ := hcell i j (by omega) hj
          exact ⟨World.block_lt_of_cell? w _ hu, by rw [hu]; rfl⟩) (fun i j hi' hj => by
          obtain ⟨u, hu, hd⟩ := hcell i j (by omega) hj
          rw [hu]; exact hd)
        rw [hlen] at this
        exact this
    · intro x hx
      obtain ⟨j, hj, rfl⟩ := List.getElem_of_mem hx
      exact (hq j _ (List.getElem?_eq_getElem hj)).1
    · have h2 : (len + (m - len)) * P.bytesOf e ≤ reachBytes := by simpa using hw2
      rw [hps]
      exact Nat.le_trans (Nat.mul_le_mul_right _ (by omega)) h2
def OpF (P : Program) (o : Nat) (fs : List Field) {α : Type} (enc : α → List AV) (Wf : α → Prop) : Prop :=
  ∀ {H : Type} (e : TypeId × Value → H) (w : World) (base : Nat) (spare : Nat → Bool) (held : Bool) (n : Nat) (cs : List Value) (xs : List (DataW H × List MemPlace)),
    (∀ (i : Nat) f, fs[i]? = some f → DataW.trod e P w base spare held n f.type ((cs.drop f.offset).take (P.cellsOf f.type)) = xs[i]?) → xs.length = fs.length →
    (DataW.weightsEach P (fs.map (·.type)) (xs.map (·.1))).all (· ≤ reachBytes) = true → ∃ a : α, KE w (enc a) ((cs.drop o).take (enc a).length) ∧ Wf a
theorem OpF.one {P : Program} {o z : Nat} {f : Field} {α : Type} {en : α → AV} {Wf : α → Prop} (ho : f.offset = o) (hz : P.cellsOf f.type = z) (hl : ∀ a, (en a).cells.length = z) (h : OpE P f.type en Wf) : OpF P o [f] (fun a => (en a).cells) Wf := by
  intro H enc w base spare held n cs xs hx hle hw
  match xs, hle with
  | [x], _ =>
    have h0 := hx 0 f rfl
    rw [ho, hz] at h0
    have hw' : (x.1.weights P f.type ++ DataW.weightsEach (H := H) P [] []).all (· ≤ reachBytes) = true := by rw [DataW.weightsEach.eq_def] at hw; exact hw
    obtain ⟨a, ha, wa⟩ := h enc w base spare held n _ x h0 (all_app hw').1
    exact ⟨a, by rw [hl]; exact ha, wa⟩
theorem OpF.cons {P : Program} {o z : Nat} {f : Field} {fs : List Field} {α β : Type} {en : α → AV} {en2 : β → List AV} {Wf : α → Prop} {Wf2 : β → Prop} (ho : f.offset = o) (hz : P.cellsOf f.type = z) (hl : ∀ a, (en a).cells.length = z) (h : OpE P f.type en Wf)
    (h2 : OpF P (o + z) fs en2 Wf2) : OpF P o (f :: fs) (fun x : α × β => (en x.1).cells ++ en2 x.2) (fun x => Wf x.1 ∧ Wf2 x.2) := by
  intro H enc w base spare held n cs xs hx hle hw
  match xs, hle with
  | x :: xs, hle =>
    have h0 := hx 0 f rfl
    rw [ho, hz] at h0
    have hw' : (x.1.weights P f.type ++ DataW.weightsEach P (fs.map (·.type)) (xs.map (·.1))).all (· ≤ reachBytes) = true := by
      rw [List.map_cons, List.map_cons, DataW.weightsEach.eq_def] at hw; exact hw
    obtain ⟨a, ha, wa⟩ := h enc w base spare held n _ x h0 (all_app hw').1
    obtain ⟨b, hb, wb⟩ := h2 enc w base spare held n cs xs (fun i g hg => hx (i + 1) g (by simpa using hg)) (by simpa using hle) (all_app hw').2
    refine ⟨(a, b), ?_, wa, wb⟩
    have e : (cs.drop o).take ((en a).cells ++ en2 b).length = (cs.drop o).take z ++ (cs.drop (o + z)).take (en2 b).length := by
      rw [List.length_append, hl, List.take_add, List.drop_drop]
    show KE w ((en a).cells ++ en2 b) _
    rw [e]
    exact ha.app hb
theorem OpE.struct {P : Program} {t : TypeId} {fs : Array Field} {α β : Type} {en : α → List AV} {Wf : α → Prop} (f : β → α) (g : α → β) (hg : ∀ a, f (g a) = a) (ht : P.underlying t = some (.struct fs)) (hz : ∀ a, P.cellsOf t = (en a).length) (h : OpF P 0 fs.toList en Wf) :
    OpE P t (fun b => .agg (en (f b))) (fun b => Wf (f b)) := by
  intro H enc w base spare held fuel cs x hx hw
  obtain ⟨xs, n, rfl, rfl, hcs, hl, hf⟩ := DataW.trod_struct ht hx
  have hw' : (DataW.weightsEach P (fs.toList.map (·.type)) (xs.map (·.1))).all (· ≤ reachBytes) = true := by
    have hw0 : (DataW.weights P t (.agg (xs.map (·.1)))).all (· ≤ reachBytes) = true := hw
    rw [DataW.weights] at hw0; simp only [ht] at hw0; exact hw0
  obtain ⟨a, ha, wa⟩ := h enc w base spare held n cs xs (fun i g hg' => hf i g (by rw [← Array.getElem?_toList]; exact hg')) (by simpa using hl) hw'
  rw [List.drop_zero, List.take_of_length_le (by rw [hcs, hz a]; exact Nat.le_refl _)] at ha
  exact ⟨g a, by show KE w (en (f (g a))) cs; rw [hg]; exact ha, by show Wf (f (g a)); rw [hg]; exact wa⟩
theorem OpE.imp {P : Program} {t : TypeId} {α : Type} {en : α → AV} {Wf Wf2 : α → Prop} (h : OpE P t en Wf) (hi : ∀ a, Wf a → Wf2 a) : OpE P t en Wf2 := by
  intro H enc w base spare held fuel cs x hx hw
  obtain ⟨a, ha, wa⟩ := h enc w base spare held fuel cs x hx hw
  exact ⟨a, ha, hi a wa⟩
/-- An argument of a row. -/
theorem OpE.arg {P : Program} {t : TypeId} {α : Type} {en : α → AV} {Wf : α → Prop} (h : OpE P t en Wf) {H : Type} {enc : TypeId × Value → H} {W : World} {base : Nat} {spare : Nat → Bool} {held : Bool} {v : Value} {x : DataW H} {p : List MemPlace} {ts : List TypeId} {ds : List (DataW H)} {j : Nat}
    (hsz : (DataW.weightsEach P ts ds).all (· ≤ reachBytes) = true) (ht : ts[j]? = some t) (hd : ds[j]? = some x) (hx : DataW.Trod enc P W base spare held t v x p) : ∃ a : α, KE W (en a).cells v.cells.toList ∧ Wf a := by
  obtain ⟨fuel, hf⟩ := hx
  refine h enc W base spare held fuel _ _ hf ?_
  clear hf h
  induction ts generalizing ds j with
  | nil => simp at ht
  | cons t0 ts ih =>
    cases ds with
    | nil => simp at hd
    | cons d0 ds =>
      have hsz' : (d0.weights P t0 ++ DataW.weightsEach P ts ds).all (· ≤ reachBytes) = true := by rw [DataW.weightsEach.eq_def] at hsz; exact hsz
      cases j with
      | zero =>
        simp at ht hd; subst ht hd
        exact (all_app hsz').1
      | succ j => exact ih (all_app hsz').2 (by simpa using ht) (by simpa using hd)
/-- What a call on values alone gives. -/
theorem Gv.pc {P : Program} {X : Prims} (hX : OKX P X) {f : FuncId} {args : List AV} {r : AV} (h : Gv P X f args r) (ha : args.all d2 = true) (hs : args.map s2 = args) : ∃ r0, s3 r0 = r ∧ PC P f args r0 := by
  obtain ⟨_, k, hk⟩ := h
  obtain ⟨r0, S', h0, hd, hr⟩ := hk k (Nat.le_refl _)
  exact ⟨r0, hr, FC.pure (evB_sound hX h0).2 ha (fun i hi => by
    have h2 := congrArg (fun l => l.getD i .dead) hs
    simpa [List.getD_eq_getElem?_getD, hi] using h2) hd⟩
theorem Gv.pcI {P : Program} {X : Prims} (hX : OKX P X) {f : FuncId} {args : List AV} {x : Value} (h : Gv P X f args (.v x)) (ha : args.all d2 = true) (hs : args.map s2 = args) : PC P f args (.v x) := by
  obtain ⟨r0, hr, hp⟩ := h.pc hX ha hs
  have hr0 : r0 = .v x := by
    cases r0 with
    | v x => simpa [s3, s2, s1, s0] using hr
    | _ => simp [s3, s2, s1, s0] at hr
  subst hr0
  exact hp
/-- THE LAW'S ANSWER: what a function gives on values, it gives; and nothing that was there changes. -/
theorem Gv.row {P : Program} {X : Prims} (hX : OKX P X) {f : FuncId} {args : List AV} {b : Bool} (h : Gv P X f args (.v (.bool b))) (ha : args.all d2 = true) (hs : args.map s2 = args) (W : World) (vs : Array Value)
    (hl : args.length = vs.size) (hR : ∀ i, i < args.length → DR (Zw W) W (args.getD i .dead) (vs.getD i undef)) : Calls P f vs W fun e w' => e = .returned (.bool b) ∧ Below W.heap.size W w' := by
  refine (h.pcI hX ha hs (Zw W) W vs (fun b o h => h) hl hR).mono ?_
  rintro e w' ⟨v, Z', rfl, G, _, _, _, hv⟩
  cases hv
  exact ⟨rfl, ⟨G.os, G.tape, G.output, G.size, fun k hk => G.old hk⟩⟩
end Go.Proofs.Ytplpmelpoajpdaa.Ev
namespace Go.Proofs.Ytplpmelpoajpdaa.Ev
open Go Go.Proofs
variable {P : Program}
set_option linter.unusedVariables false
set_option linter.unusedSimpArgs false
set_option maxRecDepth 100000
/-- A value to which a function that has to do with rows may append. -/
def Gro (P : Program) (e : TypeId) (S : Obs) (v : AV) (l : List AV) : Prop := (v = .sl .nil [] ∧ l = []) ∨ ∃ id ver n, v = .ms id ver l.length ∧ tsz P e = some n ∧ S[id]? = some (.row true ver n e l)
/-- What an append leaves as it was. -/
def Left (e : TypeId) (S S' : Obs) : Prop := S.length ≤ S'.length ∧ ∀ j, j < S.length → (∀ ver n l, S[j]? ≠ some (.row true ver n e l)) → S'[j]? = S[j]?
theorem Left.var {e : TypeId} {S S' : Obs} (h : Left e S S') {j : Nat} {d : Bool} {cs : List AV} (hj : S[j]? = some (.var d cs)) : S'[j]? = some (.var d cs) := by
  rw [h.2 j (List.getElem?_eq_some_iff.mp hj).1 (fun ver n l e => by rw [hj] at e; cases e)]; exact hj
theorem Gro.nil {e : TypeId} {S : Obs} : Gro P e S (.sl .nil []) [] := .inl ⟨rfl, rfl⟩
theorem Gro.left {e e' : TypeId} (hne : e' ≠ e) {S S' : Obs} {v : AV} {l : List AV} (h : Gro P e S v l) (hL : Left e' S S') : Gro P e S' v l := by
  rcases h with h | ⟨id, ver, n, h1, h2, h3⟩
  · exact .inl h
  · refine .inr ⟨id, ver, n, h1, h2, ?_⟩
    rw [hL.2 id (List.getElem?_eq_some_iff.mp h3).1 (fun ver n l e => by rw [h3] at e; cases e; exact hne rfl)]; exact h3
theorem Gro.set {e : TypeId} {S : Obs} {v : AV} {l : List AV} (h : Gro P e S v l) {j : Nat} {d d' : Bool} {cs cs' : List AV} (hj : S[j]? = some (.var d cs)) : Gro P e (S.set j (.var d' cs')) v l := by
  rcases h with h | ⟨id, ver, n, h1, h2, h3⟩
  · exact .inl h
  · refine .inr ⟨id, ver, n, h1, h2, ?_⟩
    rw [List.getElem?_set_ne (fun e => by subst e; rw [hj] at h3; cases h3)]; exact h3
theorem Gro.go {e t : TypeId} {S : Obs} {T : Toks} {v : AV} {l m : List AV} {o : Tok} {n b : Nat} {z : List AV} (h : Gro P e S v l) (ht : tel P t = some e) (hn : tsz P e = some n) (hb : tby P e = some b) (hz : tzero P e = some z)
    (hc : (decide (0 < n) && (z.length == n && (uni n m && m.all d2))) = true) (hne : m ≠ []) (h2 : m.map s2 = m) (hs : (l.length + m.length) * b ≤ 140737488355328) (hl : l.length + m.length ≤ maxLen) :
    ∃ v' S', appX P true t v (.sl o m) S T = some (v', S', T) ∧ Gro P e S' v' (l ++ m) ∧ Left e S S' := by
  simp only [Bool.and_eq_true, decide_eq_true_eq, beq_iff_eq] at hc
  obtain ⟨c1, c2, c3, c4⟩ := hc
  have hu : uni n [] = true := rfl
  rcases h with ⟨rfl, rfl⟩ | ⟨id, ver, n', rfl, hn', hS⟩
  · refine ⟨.ms S.length 0 m.length, S ++ [.row true 0 n e m], ?_, .inr ⟨S.length, 0, n, by simp, hn, by simp⟩, by simp, fun j hj _ => List.getElem?_append_left hj⟩
    simp only [appX, if_true, appR, ht, srcL, hn, hb, hz]
    rw [if_pos ⟨c1, c2, c3, c4⟩, if_pos ⟨by simp, hu, rfl, hs, hl⟩]
    cases m with
    | nil => exact absurd rfl hne
    | cons a m => simp only [List.nil_append, h2, Option.map_some, List.length_nil, Nat.zero_add]
  · have e1 : n' = n := by rw [hn] at hn'; cases hn'; rfl
    subst e1
    have hid := (List.getElem?_eq_some_iff.mp hS).1
    refine ⟨.ms id (ver + 1) (l.length + m.length), S.set id (.row true (ver + 1) n' e (l ++ m)), ?_, .inr ⟨id, ver + 1, n', by simp, hn, by simp [hid]⟩, by simp, fun j hj hr => ?_⟩
    · simp only [appX, if_true, appR, ht, srcL, hn, hb, hz]
      rw [if_pos ⟨c1, c2, c3, c4⟩]
      simp only [hS]
      rw [if_pos ⟨by simp, by simp, by simp, Nat.le_refl _, hs, hl⟩, List.take_length, h2]; rfl
    · rw [List.getElem?_set_ne (fun e2 => by subst e2; exact hr _ _ _ hS)]
theorem Gro.fz {e : TypeId} {S : Obs} {v : AV} {l : List AV} (h : Gro P e S v l) : ∃ o, fz0 S 0 v = .sl o l := by
  rcases h with ⟨rfl, rfl⟩ | ⟨id, ver, n, rfl, -, hS⟩
  · exact ⟨_, rfl⟩
  · refine ⟨.no, ?_⟩
    simp only [fz0, Nat.zero_le, if_true, rowA, hS, Nat.le_refl, List.take_length]
theorem Gro.one {e : TypeId} {S : Obs} {v : AV} {l : List AV} (h : Gro P e S v l) : one v = true ∧ t0 v = v ∧ AV.cells v = [v] ∧ nt v = true ∧ t1 v = v := by
  rcases h with ⟨rfl, rfl⟩ | ⟨id, ver, n, rfl, -, hS⟩ <;> exact ⟨rfl, rfl, rfl, rfl, rfl⟩
end Go.Proofs.Ytplpmelpoajpdaa.Ev
namespace Go.Proofs.Ytplpmelpoajpdaa.Ev
open Go Go.Proofs
open Go.RowKit (wrap64)
set_option linter.unusedVariables false
set_option linter.unusedSimpArgs false
set_option maxRecDepth 100000
set_option maxHeartbeats 2000000
theorem app_lit0 (l : List Int) (o : Tok) (h : l.length ≤ 100000) (S : Obs) (T : Toks) : appX P false 48 (.sl .full []) (.sl o (l.map I)) S T = some (.sl (.own T.length) (l.map I), S, T ++ [some 3]) := by
  have h1 := ty48.2.2.2.2
  have h2 := ty3.1
  have h3 := ty3.2.2.1
  have h4 := ty3.2.2.2
  simp only [appX, isSl, appA, h1, h2, h3, h4]
  simp [uniI, allI, maxLen]
  have h5 : uni 1 [] = true := rfl
  simp [h5]
  exact ⟨fun _ _ => rfl, by omega, by omega⟩
theorem gro_ring {S : Obs} {v : AV} {l : List SRr} (h : Gro P 56 S v (l.map encG)) (x : SRr) (hl : l.length ≤ 100000) (T : Toks) :
    ∃ v' S', appX P true 30 v (.sl .full [encG x]) S T = some (v', S', T) ∧ Gro P 56 S' v' ((l ++ [x]).map encG) ∧ Left 56 S S' := by
  obtain ⟨v', S', h1, h2, h3⟩ := h.go (t := 30) (T := T) (m := [encG x]) (o := .full) ty30.2.2.2.2 ty56.1 ty56.2.2.1 ty56.2.2.2.1 rfl (by simp) rfl (by simp; omega) (by simp [maxLen]; omega)
  exact ⟨v', S', h1, by simpa using h2, h3⟩
theorem gro_row {S : Obs} {v : AV} {l : List (List Int)} (h : Gro P 48 S v (l.map L)) (x : List Int) (hl : l.length ≤ 100000) (T : Toks) :
    ∃ v' S', appX P true 24 v (.sl .full [L x]) S T = some (v', S', T) ∧ Gro P 48 S' v' ((l ++ [x]).map L) ∧ Left 48 S S' := by
  obtain ⟨v', S', h1, h2, h3⟩ := h.go (t := 24) (T := T) (m := [L x]) (o := .full) ty24.2.2.2.2 ty48.1 ty48.2.2.1 ty48.2.2.2.1 rfl (by simp) rfl (by simp; omega) (by simp [maxLen]; omega)
  exact ⟨v', S', h1, by simpa using h2, h3⟩
theorem stf : ((some true : Option Bool) == some false) = false := rfl
section
variable {X : Prims} (hX : Low X)
include hX
theorem made_g (t : List SVtx) (a : Int) (R : List SRr) (H : List (List Int)) (s : Int) (f : Fw R H) : Gv P X 14 [encRR t a R H s] (encRR t a R H s) := by
  refine gm_of (rw := true) (hX _ (by decide)) fun14 rfl ?_
  have hr := f.r
  have hh := f.h
  simp +decide only [Try.f14, encRR, go_sem, Nat.reduceAdd]
  refine W_ind (fun k st => ∃ (i : Nat) (v : AV), i + k = R.length ∧ FrIs 60 [(1, .ptr 0 0), (2, .ptr 1 0), (3, .ptr 2 0), (4, I i)] st.fr ∧ st.S[0]? = some (.var false [encT t, I a, .sl .no (R.map encG), .sl .no (H.map L), U s]) ∧ st.S[1]? = some (.var false [.sl .nil [], I 0, .sl .nil [], .sl .nil [], U 0]) ∧ st.S[2]? = some (.var false [encT t, I a, v, .sl .nil [], U s]) ∧ Gro P 56 st.S v ((R.take i).map encG)) ?_ (n := R.length) ⟨0, .sl .nil [], by omega, ⟨rfl, rfl, rfl, rfl, rfl, trivial⟩, rfl, rfl, rfl, .nil⟩
  rintro k ⟨L', S, T⟩ ih ⟨i, v, hi, hF, hS0, hS1, hS2, hA⟩
  obtain ⟨j, rfl⟩ := hF.ex
  have hw := wrap_nat i (by omega)
  simp +decide only [fr, jl, Nat.reduceAdd, go_sem, hS0]
  refine Wif_of (fun h => ?_) (fun h => ?_)
  · have hlt : i < R.length := by simpa using h
    obtain ⟨x, hx, hm⟩ := getE hlt
    have hl := f.rl x hm
    simp +decide only [go_sem]
    refine W_drawM true hmx (by kernel_rfl) ?_
    have e0 := app_lit0 x.f1 .no (by omega)
    obtain ⟨v', S1, happ, hA', hL⟩ := gro_ring hA x (by simp; omega) (T ++ [some 3])
    have hv := hA.one
    have hv' := hA'.one
    have hS20 := hL.var hS0
    have hS21 := hL.var hS1
    have hS22 := hL.var hS2
    simp only [one, t0, t1, AV.cells, nt] at hv hv'
    change appX P true _ _ (.sl .full [.agg [I x.f0, L x.f1]]) S _ = _ at happ
    simp +decide only [go_sem, hS0, hS2, hx, encG, e0, happ, fillA, places, splice, rwO, lit, qO, usesT, appsT, isT, Nat.reduceBEq, stf, List.any_cons, List.any_nil, Option.isSome_some, Bool.true_and, Bool.and_true, Bool.false_or, Bool.or_false, Bool.true_or, Bool.or_true, Bool.not_true, Bool.not_false, hv.1, hv.2.1, hv.2.2.1, hv.2.2.2.1, hv.2.2.2.2, hv'.1, hv'.2.1, hv'.2.2.1, hv'.2.2.2.1, hv'.2.2.2.2, hS22, hw]
    refine ih (k - 1) _ (by omega) ⟨i + 1, v', by omega, ⟨rfl, rfl, rfl, rfl, rfl, trivial⟩, ?_, ?_, ?_, ?_⟩
    · rw [List.getElem?_set_ne (by decide)]; exact hS20
    · rw [List.getElem?_set_ne (by decide)]; exact hS21
    · exact List.getElem?_set_self (List.getElem?_eq_some_iff.mp hS22).1
    · rw [take_snoc hx]; exact hA'.set hS22
  · have hi' : i = R.length := by simp at h; omega
    subst hi'
    rw [List.take_length] at hA
    clear ih
    simp +decide only [go_sem, Nat.reduceAdd]
    refine W_ind (fun k st => ∃ (i : Nat) (w : AV), i + k = H.length ∧ FrIs 60 [(1, .ptr 0 0), (2, .ptr 1 0), (3, .ptr 2 0), (5, I i)] st.fr ∧ st.S[0]? = some (.var false [encT t, I a, .sl .no (R.map encG), .sl .no (H.map L), U s]) ∧ st.S[1]? = some (.var false [.sl .nil [], I 0, .sl .nil [], .sl .nil [], U 0]) ∧ st.S[2]? = some (.var false [encT t, I a, v, w, U s]) ∧ Gro P 56 st.S v (R.map encG) ∧ Gro P 48 st.S w ((H.take i).map L)) ?_ (n := H.length) ⟨0, .sl .nil [], by omega, ⟨rfl, rfl, rfl, rfl, rfl, trivial⟩, hS0, hS1, hS2, hA, .nil⟩
    rintro k ⟨L', S, T⟩ ih ⟨i, w, hi, hF, hS0, hS1, hS2, hA, hB⟩
    obtain ⟨j, rfl⟩ := hF.ex
    have hw := wrap_nat i (by omega)
    have hv := hA.one
    simp only [one, t0, t1, AV.cells, nt] at hv
    simp +decide only [fr, jl, Nat.reduceAdd, go_sem, hS0]
    refine Wif_of (fun h => ?_) (fun h => ?_)
    · have hlt : i < H.length := by simpa using h
      obtain ⟨x, hx, hm⟩ := getE hlt
      have hl := f.hl x hm
      simp +decide only [go_sem]
      refine W_drawM true hmx (by kernel_rfl) ?_
      have e0 := app_lit0 x .no (by omega)
      obtain ⟨w', S1, happ, hB', hL⟩ := gro_row hB x (by simp; omega) (T ++ [some 3])
      have hu := hB.one
      have hu' := hB'.one
      have hS20 := hL.var hS0
      have hS21 := hL.var hS1
      have hS22 := hL.var hS2
      simp only [one, t0, t1, AV.cells, nt] at hu hu'
      simp +decide only [go_sem, hS0, hS2, hx, e0, happ, fillA, places, splice, rwO, lit, qO, usesT, appsT, isT, Nat.reduceBEq, stf, List.any_cons, List.any_nil, Option.isSome_some, Bool.true_and, Bool.and_true, Bool.false_or, Bool.or_false, Bool.true_or, Bool.or_true, Bool.not_true, Bool.not_false, hu.1, hu.2.1, hu.2.2.1, hu.2.2.2.1, hu.2.2.2.2, hu'.1, hu'.2.1, hu'.2.2.1, hu'.2.2.2.1, hu'.2.2.2.2, hS22, hw]
      refine ih (k - 1) _ (by omega) ⟨i + 1, w', by omega, ⟨rfl, rfl, rfl, rfl, rfl, trivial⟩, ?_, ?_, ?_, ?_, ?_⟩
      · rw [List.getElem?_set_ne (by decide)]; exact hS20
      · rw [List.getElem?_set_ne (by decide)]; exact hS21
      · exact List.getElem?_set_self (List.getElem?_eq_some_iff.mp hS22).1
      · exact (hA.left (by decide) hL).set hS22
      · rw [take_snoc hx]; exact hB'.set hS22
    · have hi' : i = H.length := by simp at h; omega
      subst hi'
      rw [List.take_length] at hB
      clear ih
      have hu := hB.one
      simp only [one, t0, t1, AV.cells, nt] at hu
      obtain ⟨o1, z1⟩ := (hA.set (d' := false) (cs' := [encT t, I a, v, w, U s]) hS1).fz
      obtain ⟨o2, z2⟩ := (hB.set (d' := false) (cs' := [encT t, I a, v, w, U s]) hS1).fz
      have hset : (S.set 1 (.var false [encT t, I a, v, w, U s]))[1]? = some (.var false [encT t, I a, v, w, U s]) := List.getElem?_set_self (List.getElem?_eq_some_iff.mp hS1).1
      simp +decide only [go_sem, Nat.reduceAdd, hS1, hS2, hu.1, hu.2.1, hu.2.2.2.2, hv.1, hv.2.1, hv.2.2.2.2, splice, rwO, lit, qO, encT]
      simp only [encT] at hset z1 z2
      simp +decide only [go_sem, hset]
      refine ⟨_, rfl, ?_, ?_⟩
      · show [.sl .no (t.map encV), I a, fz0 _ 0 v, fz0 _ 0 w, U s].all d1 = true
        rw [z1, z2]; rfl
      · show AV.agg (List.map s1 [.sl .no (t.map encV), I a, fz0 _ 0 v, fz0 _ 0 w, U s]) = _
        rw [z1, z2]; rfl
end
end Go.Proofs.Ytplpmelpoajpdaa.Ev
namespace Go.Proofs.Ytplpmelpoajpdaa.Ev
open Go Go.Proofs
open Go.RowKit (wrap64)
set_option linter.unusedVariables false
set_option linter.unusedSimpArgs false
set_option maxRecDepth 100000
set_option maxHeartbeats 2000000
section
variable {X : Prims} (hX : Low X)
include hX
theorem made17_g (t : List SVtx) (a : Int) (R : List SRr) (H : List (List Int)) (s : Int) (f : Fw R H) : Gv P X 22 [encRR t a R H s] (encRR t a R H s) := by
  refine gm_of (rw := true) (hX _ (by decide)) fun22 rfl ?_
  have hr := f.r
  have hh := f.h
  simp +decide only [Try.f22, encRR, go_sem, Nat.reduceAdd]
  refine W_ind (fun k st => ∃ (i : Nat) (v : AV), i + k = R.length ∧ FrIs 60 [(1, .ptr 0 0), (2, .ptr 1 0), (3, .ptr 2 0), (4, I i)] st.fr ∧ st.S[0]? = some (.var false [encT t, I a, .sl .no (R.map encG), .sl .no (H.map L), U s]) ∧ st.S[1]? = some (.var false [.sl .nil [], I 0, .sl .nil [], .sl .nil [], U 0]) ∧ st.S[2]? = some (.var false [encT t, I a, v, .sl .nil [], U s]) ∧ Gro P 56 st.S v ((R.take i).map encG)) ?_ (n := R.length) ⟨0, .sl .nil [], by omega, ⟨rfl, rfl, rfl, rfl, rfl, trivial⟩, rfl, rfl, rfl, .nil⟩
  rintro k ⟨L', S, T⟩ ih ⟨i, v, hi, hF, hS0, hS1, hS2, hA⟩
  obtain ⟨j, rfl⟩ := hF.ex
  have hw := wrap_nat i (by omega)
  simp +decide only [fr, jl, Nat.reduceAdd, go_sem, hS0]
  refine Wif_of (fun h => ?_) (fun h => ?_)
  · have hlt : i < R.length := by simpa using h
    obtain ⟨x, hx, hm⟩ := getE hlt
    have hl := f.rl x hm
    simp +decide only [go_sem]
    refine W_drawM true hmx (by kernel_rfl) ?_
    have e0 := app_lit0 x.f1 .no (by omega)
    obtain ⟨v', S1, happ, hA', hL⟩ := gro_ring hA x (by simp; omega) (T ++ [some 3])
    have hv := hA.one
    have hv' := hA'.one
    have hS20 := hL.var hS0
    have hS21 := hL.var hS1
    have hS22 := hL.var hS2
    simp only [one, t0, t1, AV.cells, nt] at hv hv'
    change appX P true _ _ (.sl .full [.agg [I x.f0, L x.f1]]) S _ = _ at happ
    simp +decide only [go_sem, hS0, hS2, hx, encG, e0, happ, fillA, places, splice, rwO, lit, qO, usesT, appsT, isT, Nat.reduceBEq, stf, List.any_cons, List.any_nil, Option.isSome_some, Bool.true_and, Bool.and_true, Bool.false_or, Bool.or_false, Bool.true_or, Bool.or_true, Bool.not_true, Bool.not_false, hv.1, hv.2.1, hv.2.2.1, hv.2.2.2.1, hv.2.2.2.2, hv'.1, hv'.2.1, hv'.2.2.1, hv'.2.2.2.1, hv'.2.2.2.2, hS22, hw]
    refine ih (k - 1) _ (by omega) ⟨i + 1, v', by omega, ⟨rfl, rfl, rfl, rfl, rfl, trivial⟩, ?_, ?_, ?_, ?_⟩
    · rw [List.getElem?_set_ne (by decide)]; exact hS20
    · rw [List.getElem?_set_ne (by decide)]; exact hS21
    · exact List.getElem?_set_self (List.getElem?_eq_some_iff.mp hS22).1
    · rw [take_snoc hx]; exact hA'.set hS22
  · have hi' : i = R.length := by simp at h; omega
    subst hi'
    rw [List.take_length] at hA
    clear ih
    simp +decide only [go_sem, Nat.reduceAdd]
    refine W_ind (fun k st => ∃ (i : Nat) (w : AV), i + k = H.length ∧ FrIs 60 [(1, .ptr 0 0), (2, .ptr 1 0), (3, .ptr 2 0), (5, I i)] st.fr ∧ st.S[0]? = some (.var false [encT t, I a, .sl .no (R.map encG), .sl .no (H.map L), U s]) ∧ st.S[1]? = some (.var false [.sl .nil [], I 0, .sl .nil [], .sl .nil [], U 0]) ∧ st.S[2]? = some (.var false [encT t, I a, v, w, U s]) ∧ Gro P 56 st.S v (R.map encG) ∧ Gro P 48 st.S w ((H.take i).map L)) ?_ (n := H.length) ⟨0, .sl .nil [], by omega, ⟨rfl, rfl, rfl, rfl, rfl, trivial⟩, hS0, hS1, hS2, hA, .nil⟩
    rintro k ⟨L', S, T⟩ ih ⟨i, w, hi, hF, hS0, hS1, hS2, hA, hB⟩
    obtain ⟨j, rfl⟩ := hF.ex
    have hw := wrap_nat i (by omega)
    have hv := hA.one
    simp only [one, t0, t1, AV.cells, nt] at hv
    simp +decide only [fr, jl, Nat.reduceAdd, go_sem, hS0]
    refine Wif_of (fun h => ?_) (fun h => ?_)
    · have hlt : i < H.length := by simpa using h
      obtain ⟨x, hx, hm⟩ := getE hlt
      have hl := f.hl x hm
      simp +decide only [go_sem]
      refine W_drawM true hmx (by kernel_rfl) ?_
      have e0 := app_lit0 x .no (by omega)
      obtain ⟨w', S1, happ, hB', hL⟩ := gro_row hB x (by simp; omega) (T ++ [some 3])
      have hu := hB.one
      have hu' := hB'.one
      have hS20 := hL.var hS0
      have hS21 := hL.var hS1
      have hS22 := hL.var hS2
      simp only [one, t0, t1, AV.cells, nt] at hu hu'
      simp +decide only [go_sem, hS0, hS2, hx, e0, happ, fillA, places, splice, rwO, lit, qO, usesT, appsT, isT, Nat.reduceBEq, stf, List.any_cons, List.any_nil, Option.isSome_some, Bool.true_and, Bool.and_true, Bool.false_or, Bool.or_false, Bool.true_or, Bool.or_true, Bool.not_true, Bool.not_false, hu.1, hu.2.1, hu.2.2.1, hu.2.2.2.1, hu.2.2.2.2, hu'.1, hu'.2.1, hu'.2.2.1, hu'.2.2.2.1, hu'.2.2.2.2, hS22, hw]
      refine ih (k - 1) _ (by omega) ⟨i + 1, w', by omega, ⟨rfl, rfl, rfl, rfl, rfl, trivial⟩, ?_, ?_, ?_, ?_, ?_⟩
      · rw [List.getElem?_set_ne (by decide)]; exact hS20
      · rw [List.getElem?_set_ne (by decide)]; exact hS21
      · exact List.getElem?_set_self (List.getElem?_eq_some_iff.mp hS22).1
      · exact (hA.left (by decide) hL).set hS22
      · rw [take_snoc hx]; exact hB'.set hS22
    · have hi' : i = H.length := by simp at h; omega
      subst hi'
      rw [List.take_length] at hB
      clear ih
      have hu := hB.one
      simp only [one, t0, t1, AV.cells, nt] at hu
      obtain ⟨o1, z1⟩ := (hA.set (d' := false) (cs' := [encT t, I a, v, w, U s]) hS1).fz
      obtain ⟨o2, z2⟩ := (hB.set (d' := false) (cs' := [encT t, I a, v, w, U s]) hS1).fz
      have hset : (S.set 1 (.var false [encT t, I a, v, w, U s]))[1]? = some (.var false [encT t, I a, v, w, U s]) := List.getElem?_set_self (List.getElem?_eq_some_iff.mp hS1).1
      simp +decide only [go_sem, Nat.reduceAdd, hS1, hS2, hu.1, hu.2.1, hu.2.2.2.2, hv.1, hv.2.1, hv.2.2.2.2, splice, rwO, lit, qO, encT]
      simp only [encT] at hset z1 z2
      simp +decide only [go_sem, hset]
      refine ⟨_, rfl, ?_, ?_⟩
      · show [.sl .no (t.map encV), I a, fz0 _ 0 v, fz0 _ 0 w, U s].all d1 = true
        rw [z1, z2]; rfl
      · show AV.agg (List.map s1 [.sl .no (t.map encV), I a, fz0 _ 0 v, fz0 _ 0 w, U s]) = _
        rw [z1, z2]; rfl
end
end Go.Proofs.Ytplpmelpoajpdaa.Ev
namespace Go.Proofs.Ytplpmelpoajpdaa.Ev
open Go Go.Proofs
set_option linter.unusedVariables false
set_option linter.unusedSimpArgs false
open Go.RowKit (wrap64)
set_option maxRecDepth 100000
section
variable {X : Prims} (hX : Low X)
include hX
theorem node_g (t : List SVtx) (p : Int) (ht : t.length ≤ 1000) : Gv P X 77 [encT t, I p] (I (nodeOf t p)) := by
  refine gv_of (hX _ (by decide)) fun77 rfl ?_
  simp +decide only [Try.f77, encT, go_sem]
  refine WO_call rfl rfl rfl rfl rfl (proc_g hX t p ht) ?_
  unfold nodeOf
  by_cases hp : inP t p
  · obtain ⟨h1, h2, -⟩ := vx_at hp
    have hv := hp.valid
    have h0 : ¬ (vx t p : Int) < 0 := by omega
    have hu : up t (vx t p : Int) 1 = (anc t 2 (vx t p) : Nat) := up_at hv h1 h2 2 (by omega)
    have hl := vsOf_len t 1
    rw [if_pos hp, if_pos hp]
    simp +decide only [go_sem, h0]
    refine WO_call rfl rfl rfl rfl rfl (nodes_g hX t ht) ?_
    simp +decide only [go_sem]
    refine WO_call rfl rfl rfl rfl rfl (up_g hX t _ 1 ht) ?_
    rw [hu]
    simp +decide only [go_sem]
    refine WO_call rfl rfl rfl rfl rfl (index_g hX (vsOf t 1) _ (by omega)) ?_
    simp +decide only [go_sem]
    exact ⟨_, rfl, rfl, rfl⟩
  · rw [if_neg hp, if_neg hp]
    simp +decide only [go_sem]
    exact ⟨_, rfl, rfl, rfl⟩
end
end Go.Proofs.Ytplpmelpoajpdaa.Ev
namespace Go.Proofs.Ytplpmelpoajpdaa.Ev
open Go Go.Proofs
set_option linter.unusedVariables false
set_option linter.unusedSimpArgs false
set_option maxRecDepth 100000
def rg (R : List SRr) (q : Int) : SRr := R.getD q.toNat default
def hrow (H : List (List Int)) (n : Int) : List Int := H.getD n.toNat []
def takeR (x : SRr) : SRr × Int := if x.f0 = 0 then (⟨x.f0, x.f1.tail⟩, x.f1.headD 0) else (⟨0, x.f1⟩, x.f0)
def halfR (x : SRr) : SRr × List Int := if x.f1 = [] then (⟨0, []⟩, if x.f0 = 0 then [] else [x.f0]) else (⟨x.f0, x.f1.drop ((x.f1.length + 1) / 2)⟩, x.f1.take ((x.f1.length + 1) / 2))
def victP (t : List SVtx) (R : List SRr) (p far q : Int) : Bool := decide (0 < (rAll (rg R q)).length) && decide (farOf t p q ≤ far)
def victOf (t : List SVtx) (a : Int) (R : List SRr) (H : List (List Int)) (s p far : Int) : List Int := if mayB t a R H s = true then (nearOf t p).filter (victP t R p far) else []
def thiefB (t : List SVtx) (a : Int) (R : List SRr) (H : List (List Int)) (s p : Int) : Bool := mayB t a R H s && (tb s p && (decide ((rAll (rg R p)).length = 0) && decide ((hrow H (nodeOf t p)).length = 0)))
structure Sto where
  R : List SRr
  H : List (List Int)
  g : Int
  d : Int
def takeOf (t : List SVtx) (a : Int) (R : List SRr) (H : List (List Int)) (p q : Int) : Sto :=
  ⟨(R.set q.toNat (halfR (rg R q)).1).set p.toNat ⟨0, (halfR (rg R q)).2.tail.take a.toNat⟩, H.set (nodeOf t p).toNat (hrow H (nodeOf t p) ++ (halfR (rg R q)).2.tail.drop a.toNat), (halfR (rg R q)).2.headD 0, farOf t p q⟩
/-- The first row that somebody stands in. -/
def scanRow (H : List (List Int)) (own : Nat) : Nat → Nat → Option Nat
  | 0, _ => none
  | m + 1, k => if (hrow H ((own + k) % H.length : Nat)).length = 0 then scanRow H own m (k + 1) else some ((own + k) % H.length)
def rowOfS (t : List SVtx) (R : List SRr) (H : List (List Int)) (p : Int) : Sto :=
  match scanRow H (nodeOf t p).toNat (H.length - 1) 1 with
  | some m => ⟨R, H.set m (hrow H m).tail, (hrow H m).headD 0, 3⟩
  | none => ⟨R, H, 0, -1⟩
def stealOf (t : List SVtx) (a : Int) (R : List SRr) (H : List (List Int)) (s p far : Int) : Sto :=
  if thiefB t a R H s p = true then (match victOf t a R H s p far with
    | q :: _ => takeOf t a R H p q
    | [] => if 3 ≤ far then rowOfS t R H p else ⟨R, H, 0, -1⟩)
  else ⟨R, H, 0, -1⟩
/-! What may be. -/
theorem okL_iff {l : List Int} : okL l 0 = true ↔ (∀ x ∈ l, 1 ≤ x) ∧ l.Nodup := by
  unfold okL
  rw [decide_eq_true_eq]
  constructor
  · intro h
    refine ⟨fun x hx => ?_, ?_⟩
    · obtain ⟨i, hi, rfl⟩ := List.getElem_of_mem hx
      have := (h i hi (Nat.zero_le _)).1
      rwa [show rd l (i : Int) = l[i] by simp [rd, hi]] at this
    · show List.Pairwise (· ≠ ·) l
      rw [List.pairwise_iff_getElem]
      intro i j hi hj hij e
      have h2 := (h j hj (Nat.zero_le _)).2
      apply h2
      rw [show rd l (j : Int) = l[j] by simp [rd, hj], List.mem_take_iff_getElem]
      exact ⟨i, by omega, e⟩
  · rintro ⟨h1, h2⟩ j hj _
    rw [show rd l (j : Int) = l[j] by simp [rd, hj]]
    refine ⟨h1 _ (List.getElem_mem hj), fun hm => ?_⟩
    rw [List.mem_take_iff_getElem] at hm
    obtain ⟨i, hi, e⟩ := hm
    have h3 : List.Pairwise (· ≠ ·) l := h2
    rw [List.pairwise_iff_getElem] at h3
    exact h3 i j (by omega) hj (by omega) e
structure May (t : List SVtx) (a : Int) (R : List SRr) (H : List (List Int)) (s : Int) : Prop where
  v : Valid t
  a2 : 2 ≤ a
  a16 : a ≤ 16
  r : R.length = (vsOf t 3).length
  h : H.length = (vsOf t 1).length
  s0 : s ≠ 0
  on : ∀ m, tb s m = true → m < (R.length : Int)
  len : ∀ j : Nat, j < R.length → ((rg R j).f1.length : Int) ≤ a
  off : ∀ j : Nat, j < R.length → tb s j = false → rAll (rg R j) = []
  pos : ∀ x ∈ allR R H, 1 ≤ x
  nd : (allR R H).Nodup
theorem rg_at {R : List SRr} {j : Nat} (h : j < R.length) : R[j]? = some (rg R j) := by simp [rg, h]
theorem hrow_at {H : List (List Int)} {j : Nat} (h : j < H.length) : H[j]? = some (hrow H j) := by simp [hrow, h]
theorem rg_mem {R : List SRr} {j : Nat} (h : j < R.length) : rg R j ∈ R := List.mem_of_getElem? (rg_at h)
theorem hrow_mem {H : List (List Int)} {j : Nat} (h : j < H.length) : hrow H j ∈ H := List.mem_of_getElem? (hrow_at h)
theorem sub_flat {α β : Type} {f : α → List β} {x : α} : ∀ {l : List α}, x ∈ l → (f x).Sublist (l.flatMap f)
  | [], h => by cases h
  | a :: l, h => by
    rw [List.flatMap_cons]
    rcases List.mem_cons.mp h with rfl | h
    · exact List.sublist_append_left _ _
    · exact (sub_flat h).trans (List.sublist_append_right _ _)
theorem may_iff {t : List SVtx} {a : Int} {R : List SRr} {H : List (List Int)} {s : Int} : mayB t a R H s = true ↔ May t a R H s := by
  have e0 : ∀ j : Nat, R.getD j default = rg R j := fun j => by simp [rg]
  unfold mayB wholeB ringsB ringOk
  simp only [Bool.and_eq_true, decide_eq_true_eq, beq_iff_eq, Bool.not_eq_true', List.any_eq_false, Bool.or_eq_true, okL_iff, e0, bne_iff_ne, decide_eq_false_iff_not]
  constructor
  · rintro ⟨⟨⟨⟨⟨⟨⟨h1, h2⟩, h3⟩, h4⟩, h5⟩, h6⟩, h7⟩, h8, h9, h10⟩
    refine ⟨h1, by omega, by omega, by omega, by omega, h6, fun m hm => ?_, fun j hj => ?_, fun j hj ho => ?_, h9, h10⟩
    · have := h7 m (allB_mem.mpr hm); omega
    · have := (h8 j hj).1.2; unfold mx at this; split at this <;> omega
    · have := (h8 j hj).2
      rw [ho] at this
      rcases this with h | h
      · cases h
      · exact List.eq_nil_of_length_eq_zero (by omega)
  · intro h
    refine ⟨⟨⟨⟨⟨⟨⟨h.v, by have := h.a2; omega⟩, by have := h.a16; omega⟩, by rw [h.r]⟩, by rw [h.h]⟩, h.s0⟩, fun m hm => ?_⟩, fun j hj => ⟨⟨⟨fun x hx => ?_, ?_⟩, ?_⟩, ?_⟩, h.pos, h.nd⟩
    · have := h.on m (allB_mem.mp hm); rw [h.r] at this; omega
    · exact h.pos x (List.mem_append_left _ (List.mem_flatMap.mpr ⟨_, rg_mem hj, hx⟩))
    · exact ((sub_flat (f := rAll) (rg_mem hj)).trans (List.sublist_append_left _ _)).nodup h.nd
    · have := h.len j hj; have := h.a2; unfold mx; split <;> omega
    · cases ho : tb s (j : Int) with
      | true => exact .inl rfl
      | false => exact .inr (by rw [h.off j hj ho]; simp)
theorem May.inP {t : List SVtx} {a : Int} {R : List SRr} {H : List (List Int)} {s p : Int} (h : May t a R H s) : inP t p ↔ 0 ≤ p ∧ p < (R.length : Int) := by
  unfold Ev.inP; rw [procN_of h.v, h.r]
theorem tb_nn {s p : Int} (h : tb s p = true) : 0 ≤ p := (tb_range h).1
theorem node_at {t : List SVtx} {p : Int} (hp : inP t p) : 0 ≤ nodeOf t p ∧ nodeOf t p < ((vsOf t 1).length : Int) := by
  unfold nodeOf
  rw [if_pos hp]
  have := idxOf_mem (anc2_node hp)
  exact ⟨this.1, by omega⟩
structure Thief (t : List SVtx) (a : Int) (R : List SRr) (H : List (List Int)) (s p : Int) : Prop where
  m : May t a R H s
  on : tb s p = true
  e : rAll (rg R p) = []
  n : hrow H (nodeOf t p) = []
theorem thief_iff {t : List SVtx} {a : Int} {R : List SRr} {H : List (List Int)} {s p : Int} : thiefB t a R H s p = true ↔ Thief t a R H s p := by
  unfold thiefB
  simp only [Bool.and_eq_true, decide_eq_true_eq, may_iff, List.length_eq_zero_iff]
  exact ⟨fun ⟨h1, h2, h3, h4⟩ => ⟨h1, h2, h3, h4⟩, fun h => ⟨h.m, h.on, h.e, h.n⟩⟩
theorem Thief.p {t : List SVtx} {a : Int} {R : List SRr} {H : List (List Int)} {s p : Int} (h : Thief t a R H s p) : inP t p := h.m.inP.mpr ⟨tb_nn h.on, h.m.on p h.on⟩
end Go.Proofs.Ytplpmelpoajpdaa.Ev
namespace Go.Proofs.Ytplpmelpoajpdaa.Ev
open Go Go.Proofs
open Go.RowKit (wrap64)
set_option linter.unusedVariables false
set_option linter.unusedSimpArgs false
set_option maxRecDepth 100000
set_option maxHeartbeats 2000000
theorem int_beq {a b : Int} : (a == b) = decide (a = b) := rfl
theorem dec_no {p : Prop} [Decidable p] (h : ¬ p) : decide p = false := decide_eq_false h
section
variable {X : Prims} (hX : Low X)
include hX
theorem ints_g (a b : List Int) (ha : a.length ≤ 100000) : Gv P X 27 [L a, L b] (B (decide (a = b))) := by
  refine gv_of (hX _ (by decide)) fun27 rfl ?_
  simp +decide only [Try.f27, go_sem]
  refine Wif_of (fun h => ?_) (fun h => ?_)
  · have hne : a ≠ b := fun e => by subst e; simp at h
    simp +decide only [go_sem]
    exact ⟨_, rfl, rfl, by rw [dec_no hne]⟩
  · have hl : a.length = b.length := by simp at h; omega
    simp +decide only [go_sem]
    refine W_ind (fun k st => ∃ i : Nat, i + k = a.length ∧ FrIs 26 [(0, L a), (1, L b), (5, I i)] st.fr ∧ st.S = [] ∧ st.T = [] ∧ a.take i = b.take i) ?_ (n := a.length) ⟨0, by omega, ⟨rfl, rfl, rfl, rfl, trivial⟩, rfl, rfl, rfl⟩
    rintro k ⟨L', S, T⟩ ih ⟨i, hi, hF, rfl, rfl, he⟩
    obtain ⟨j, rfl⟩ := hF.ex
    have hw := wrap_nat i (by omega)
    simp +decide only [fr, jl, Nat.reduceAdd, go_sem]
    refine Wif_of (fun h => ?_) (fun h => ?_)
    · have hlt : i < a.length := by simpa using h
      have hx := rd_at hlt
      have hy := rd_at (show i < b.length by omega)
      simp +decide only [go_sem]
      refine W_draw hmx (by kernel_rfl) ?_
      simp +decide only [go_sem, hx, hy]
      refine Wif_of (fun h => ?_) (fun h => ?_)
      · have hne : a ≠ b := fun e => by subst e; simp at h
        simp +decide only [go_sem]
        exact ⟨_, rfl, rfl, by rw [dec_no hne]⟩
      · simp +decide only [go_sem, hw]
        exact ih (k - 1) _ (by omega) ⟨i + 1, by omega, ⟨rfl, rfl, rfl, rfl, trivial⟩, rfl, rfl, by rw [take_snoc hx, take_snoc hy, he]; simp at h; rw [h]⟩
    · have hi' : i = a.length := by simp at h; omega
      subst hi'
      have heq : a = b := by rw [List.take_length, hl, List.take_length] at he; exact he
      simp +decide only [go_sem]
      exact ⟨_, rfl, rfl, by rw [decide_eq_true heq]⟩
theorem rsame_g (x y : SRr) (hx : x.f1.length ≤ 100000) : Gv P X 57 [encG x, encG y] (B (decide (x = y))) := by
  refine gv_of (hX _ (by decide)) fun57 rfl ?_
  obtain ⟨n, a⟩ := x
  obtain ⟨m, b⟩ := y
  have e : decide ((⟨n, a⟩ : SRr) = ⟨m, b⟩) = ((n == m) && decide (a = b)) := by
    rw [show (n == m) = decide (n = m) from rfl, ← Bool.decide_and]; exact decide_eq_decide.mpr (by simp)
  rw [e]
  simp +decide only [Try.f57, encG, go_sem, Nat.reduceAdd]
  cases h : (n == m)
  · simp +decide only [go_sem]
    refine WO_not rfl ?_
    simp +decide only [go_sem]
    exact ⟨_, rfl, rfl, rfl⟩
  · simp +decide only [go_sem]
    refine WO_call rfl rfl rfl rfl rfl (ints_g hX a b hx) ?_
    simp +decide only [go_sem]
    exact ⟨_, rfl, rfl, rfl⟩
theorem same_g (t t' : List SVtx) (a a' : Int) (R R' : List SRr) (H H' : List (List Int)) (s s' : Int) (f : Fw R H) : Gv P X 25 [encRR t a R H s, encRR t' a' R' H' s'] (B (decide (R = R' ∧ H = H' ∧ s = s'))) := by
  refine gv_of (hX _ (by decide)) fun25 rfl ?_
  have hr := f.r
  have hh := f.h
  cases c1 : ((R.length : Int) != (R'.length : Int))
  case true =>
    simp +decide only [Try.f25, encRR, go_sem, Nat.reduceAdd, c1]
    exact ⟨_, rfl, rfl, by rw [dec_no (fun h => by rw [h.1] at c1; simp at c1)]⟩
  cases c2 : ((H.length : Int) != (H'.length : Int))
  case true =>
    simp +decide only [Try.f25, encRR, go_sem, Nat.reduceAdd, c1, c2]
    exact ⟨_, rfl, rfl, by rw [dec_no (fun h => by rw [h.2.1] at c2; simp at c2)]⟩
  cases c3 : (s != s')
  case true =>
    simp +decide only [Try.f25, encRR, go_sem, Nat.reduceAdd, c1, c2, c3]
    exact ⟨_, rfl, rfl, by rw [dec_no (fun h => by rw [h.2.2] at c3; simp at c3)]⟩
  have l1 : R.length = R'.length := by simp at c1; omega
  have l2 : H.length = H'.length := by simp at c2; omega
  have hs : s = s' := by simpa using c3
  simp +decide only [Try.f25, encRR, go_sem, Nat.reduceAdd, c1, c2, c3]
  refine W_ind (fun k st => ∃ i : Nat, i + k = R.length ∧ FrIs 68 [(2, .ptr 0 0), (3, .ptr 1 0), (5, I i)] st.fr ∧ st.S = [.var false [encT t, I a, .sl .no (R.map encG), .sl .no (H.map L), U s], .var false [encT t', I a', .sl .no (R'.map encG), .sl .no (H'.map L), U s']] ∧ st.T = [] ∧ R.take i = R'.take i) ?_ (n := R.length) ⟨0, by omega, ⟨rfl, rfl, rfl, rfl, trivial⟩, rfl, rfl, rfl⟩
  rintro k ⟨L', S, T⟩ ih ⟨i, hi, hF, rfl, rfl, he⟩
  obtain ⟨j, rfl⟩ := hF.ex
  have hw := wrap_nat i (by omega)
  simp +decide only [fr, jl, Nat.reduceAdd, go_sem]
  refine Wif_of (fun h => ?_) (fun h => ?_)
  · have hlt : i < R.length := by simpa using h
    obtain ⟨x, hx, hm⟩ := getE hlt
    obtain ⟨y, hy, hn⟩ := getE (show i < R'.length by omega)
    have := f.rl x hm
    simp +decide only [go_sem, Nat.reduceAdd]
    refine W_draw hmx (by kernel_rfl) ?_
    simp +decide only [go_sem, Nat.reduceAdd, hx, hy, encG]
    refine WO_call rfl rfl rfl rfl rfl (rsame_g hX x y (by omega)) ?_
    by_cases hxy : x = y
    · simp +decide only [go_sem, Nat.reduceAdd, hxy, hw]
      exact ih (k - 1) _ (by omega) ⟨i + 1, by omega, ⟨rfl, rfl, rfl, rfl, trivial⟩, rfl, rfl, by rw [take_snoc hx, take_snoc hy, he, hxy]⟩
    · simp +decide only [go_sem, Nat.reduceAdd, hxy]
      exact ⟨_, rfl, rfl, by rw [dec_no (fun h => hxy (by rw [h.1, hy] at hx; exact (Option.some.inj hx).symm))]⟩
  · have hi' : i = R.length := by simp at h; omega
    subst hi'
    have hR : R = R' := by rw [List.take_length, l1, List.take_length] at he; exact he
    clear ih
    simp +decide only [go_sem, Nat.reduceAdd]
    refine W_ind (fun k st => ∃ i : Nat, i + k = H.length ∧ FrIs 68 [(2, .ptr 0 0), (3, .ptr 1 0), (6, I i)] st.fr ∧ st.S = [.var false [encT t, I a, .sl .no (R.map encG), .sl .no (H.map L), U s], .var false [encT t', I a', .sl .no (R'.map encG), .sl .no (H'.map L), U s']] ∧ st.T = [] ∧ H.take i = H'.take i) ?_ (n := H.length) ⟨0, by omega, ⟨rfl, rfl, rfl, rfl, trivial⟩, rfl, rfl, rfl⟩
    rintro k ⟨L', S, T⟩ ih ⟨i, hi, hF, rfl, rfl, he⟩
    obtain ⟨j, rfl⟩ := hF.ex
    have hw := wrap_nat i (by omega)
    simp +decide only [fr, jl, Nat.reduceAdd, go_sem]
    refine Wif_of (fun h => ?_) (fun h => ?_)
    · have hlt : i < H.length := by simpa using h
      obtain ⟨x, hx, hm⟩ := getE hlt
      obtain ⟨y, hy, hn⟩ := getE (show i < H'.length by omega)
      have := f.hl x hm
      simp +decide only [go_sem, Nat.reduceAdd]
      refine W_draw hmx (by kernel_rfl) ?_
      simp +decide only [go_sem, Nat.reduceAdd, hx, hy]
      refine WO_call rfl rfl rfl rfl rfl (ints_g hX x y (by omega)) ?_
      by_cases hxy : x = y
      · simp +decide only [go_sem, Nat.reduceAdd, hxy, hw]
        exact ih (k - 1) _ (by omega) ⟨i + 1, by omega, ⟨rfl, rfl, rfl, rfl, trivial⟩, rfl, rfl, by rw [take_snoc hx, take_snoc hy, he, hxy]⟩
      · simp +decide only [go_sem, Nat.reduceAdd, hxy]
        exact ⟨_, rfl, rfl, by rw [dec_no (fun h => hxy (by rw [h.2.1, hy] at hx; exact (Option.some.inj hx).symm))]⟩
    · have hi' : i = H.length := by simp at h; omega
      subst hi'
      have hH : H = H' := by rw [List.take_length, l2, List.take_length] at he; exact he
      simp +decide only [go_sem, Nat.reduceAdd]
      exact ⟨_, rfl, rfl, by rw [decide_eq_true ⟨hR, hH, hs⟩]⟩
end
end Go.Proofs.Ytplpmelpoajpdaa.Ev
namespace Go.Proofs.Ytplpmelpoajpdaa.Ev
open Go Go.Proofs
open Go.RowKit (wrap64)
set_option linter.unusedVariables false
set_option linter.unusedSimpArgs false
set_option maxRecDepth 100000
set_option maxHeartbeats 2000000
theorem inP_at {t : List SVtx} {a : Int} {R : List SRr} {H : List (List Int)} {s p : Int} (hm : May t a R H s) (hp : inP t p) : 0 ≤ p ∧ R[p.toNat]? = some (rg R p) ∧ rg R p ∈ R ∧ 0 ≤ nodeOf t p ∧ H[(nodeOf t p).toNat]? = some (hrow H (nodeOf t p)) ∧ hrow H (nodeOf t p) ∈ H := by
  obtain ⟨h0, h1⟩ := hm.inP.mp hp
  obtain ⟨n0, n1⟩ := node_at hp
  have e1 : R[p.toNat]? = some (rg R p) := by simp [rg, show p.toNat < R.length by omega]
  have e2 : H[(nodeOf t p).toNat]? = some (hrow H (nodeOf t p)) := by
    have : (nodeOf t p).toNat < H.length := by rw [hm.h]; omega
    simp [hrow, this]
  exact ⟨h0, e1, List.mem_of_getElem? e1, n0, e2, List.mem_of_getElem? e2⟩
section
variable {X : Prims} (hX : Low X)
include hX
theorem thief_g (t : List SVtx) (a : Int) (R : List SRr) (H : List (List Int)) (s p : Int) (ht : t.length ≤ 64) (hs : U64 s) (f : Fw R H) : Gv P X 30 [encRR t a R H s, I p] (B (thiefB t a R H s p)) := by
  refine gv_of (hX _ (by decide)) fun30 rfl ?_
  unfold thiefB
  simp +decide only [Try.f30, encRR, go_sem, Nat.reduceAdd]
  refine WO_call rfl rfl rfl rfl rfl (rmay_g hX t a R H s ht hs f) ?_
  cases hM : mayB t a R H s
  · simp +decide only [go_sem]
    refine WO_not rfl ?_
    simp +decide only [go_sem]
    exact ⟨_, rfl, rfl, rfl⟩
  simp +decide only [go_sem, Nat.reduceAdd]
  refine WO_call rfl rfl rfl rfl rfl (on_g hX hs t a R H p) ?_
  cases hO : tb s p
  · simp +decide only [go_sem]
    exact ⟨_, rfl, rfl, rfl⟩
  have hm := may_iff.mp hM
  have hp := hm.inP.mpr ⟨tb_nn hO, hm.on p hO⟩
  obtain ⟨h0, e1, m1, n0, e2, m2⟩ := inP_at hm hp
  have l1 := f.rl _ m1
  simp +decide only [go_sem, Nat.reduceAdd]
  refine W_draw hmx (by kernel_rfl) ?_
  simp +decide only [go_sem, Nat.reduceAdd, h0, e1, encG]
  refine WO_call rfl rfl rfl rfl rfl (rring_all_g hX (rg R p).f0 (rg R p).f1 (by omega)) ?_
  change WO P X _ _ _ _ _ ⟨put _ _ (L (rAll (rg R p))), _, _⟩ _
  simp +decide only [go_sem, Nat.reduceAdd]
  cases hz : (((rAll (rg R p)).length : Int) == 0)
  · have hz' : ¬ (rAll (rg R p)).length = 0 := fun e => by rw [e] at hz; exact absurd hz (by decide)
    simp +decide only [go_sem]
    refine WO_not rfl ?_
    simp +decide only [go_sem, Nat.reduceAdd]
    exact ⟨_, rfl, rfl, by rw [decide_eq_false hz']; rfl⟩
  · have hz' : (rAll (rg R p)).length = 0 := by have := eq_of_beq hz; omega
    simp +decide only [go_sem, Nat.reduceAdd]
    refine WO_call rfl rfl rfl rfl rfl (rnode_g hX t p (by omega)) ?_
    simp +decide only [go_sem, Nat.reduceAdd, n0, e2]
    refine ⟨_, rfl, rfl, ?_⟩
    rw [decide_eq_true hz']
    have e : (((hrow H (nodeOf t p)).length : Int) == 0) = decide ((hrow H (nodeOf t p)).length = 0) := decide_eq_decide.mpr (by omega)
    rw [← e]; rfl
end
end Go.Proofs.Ytplpmelpoajpdaa.Ev
namespace Go.Proofs.Ytplpmelpoajpdaa.Up
open Go
set_option linter.unusedVariables false
set_option linter.unusedSimpArgs false

theorem ask_up {α : Type} (q : Ask α) (w : World) : w.drawn ≤ (w.ask q).2.drawn := by
  induction q generalizing w with
  | done a => simp [World.ask]
  | ask what range k ih =>
    simp only [World.ask]
    split
    · exact ih _ _
    · exact Nat.le_trans (Nat.le_succ _) (ih _ { w with drawn := w.drawn + 1 })

theorem sys_up (w : World) (c : Sys) : w.drawn ≤ (w.sys c).2.drawn := by
  have h := ask_up (Kernel.perform c w.os) w
  unfold World.sys
  split
  · exact Nat.le_refl _
  · rename_i r os w2 h2
    rw [h2] at h
    exact h

theorem viewStore_up {p : Program} {w w' : World} {a : Addr} {u : TypeId} {k : Addr} {v : Value} {at_ : Bool} {l : List Addr} (h : w.viewStore p a u k v at_ = .ok (w', l)) : w'.drawn = w.drawn := by
  unfold World.viewStore at h
  simp only [bind, Except.bind, pure, Except.pure, throw, throwThe, MonadExceptOf.throw] at h
  repeat' (split at h <;> try contradiction)
  all_goals (cases h; rfl)

theorem farStore_up {p : Program} {w w' : World} {a : Addr} {v : Value} {at_ : Bool} {l : List Addr} (h : w.farStore p a v at_ = .ok (w', l)) : w'.drawn = w.drawn := by
  unfold World.farStore at h
  split at h
  · split at h
    · rename_i r h1
      cases h
      exact viewStore_up h1
    · cases h
  · cases h

theorem freeze_up (w : World) (a : Addr) (n : Nat) : (w.freeze a n).drawn = w.drawn := by
  unfold World.freeze; split <;> rfl

def Result.world {α : Type} : Result α → World
  | .ok _ w => w
  | .halt _ w => w

theorem run_up {α : Type} (p : Program) (s : Sem α) (w : World) : w.drawn ≤ (Result.world (s.run p w)).drawn := by
  induction s generalizing w with
  | pure a => exact Nat.le_refl _
  | load m a k ih =>
    simp only [Sem.run]
    split
    · exact ih _ _
    · split
      · exact ih _ _
      · exact Nat.le_refl _
  | store m a v k ih =>
    have key : w.drawn ≤ (Result.world (match w.cell? a with
      | some _ => if w.frozen? a then .halt (.unsupported (.unsafePointer "a write to bytes that a string shares")) w else k.run p (w.setCell a v)
      | none => match w.farStore p a v (m == .atomic) with
        | .ok (w, _) => k.run p w
        | .error h => .halt h w)).drawn := by
      split
      · split
        · exact Nat.le_refl _
        · exact ih (w.setCell a v)
      · split
        · rename_i w' l h2
          have := farStore_up h2
          have := ih w'
          omega
        · exact Nat.le_refl _
    cases v <;> simp only [Sem.run] <;> first | exact Nat.le_refl _ | exact key
  | new o k ih => simp only [Sem.run]; exact ih _ { w with heap := w.heap.push o }
  | shape r k ih => simp only [Sem.run]; exact ih _ _
  | freeze a n k ih => simp only [Sem.run]; have := ih (w.freeze a n); rw [freeze_up] at this; exact this
  | frozen a k ih => simp only [Sem.run]; exact ih _ _
  | getObj r k ih =>
    simp only [Sem.run]
    split
    · exact Nat.le_refl _
    · exact ih _ _
    · exact Nat.le_refl _
  | setObj r o k ih =>
    simp only [Sem.run]
    split
    · exact Nat.le_refl _
    · exact ih { w with heap := w.heap.setIfInBounds r o }
    · exact Nat.le_refl _
  | choose q k ih =>
    simp only [Sem.run]
    split
    · exact ih _ _
    · exact Nat.le_trans (Nat.le_succ _) (ih _ { w with drawn := w.drawn + 1 })
  | sys c k ih => simp only [Sem.run]; exact Nat.le_trans (sys_up w c) (ih _ _)
  | program k ih => simp only [Sem.run]; exact ih _ _
  | mark m k ih => simp only [Sem.run]; exact ih _
  | halt h => exact Nat.le_refl _

theorem runT_fst {α : Type} (p : Program) (s : Sem α) (w : World) (es : Array Event) : (s.runT p w es).1 = s.run p w := by
  induction s generalizing w es with
  | pure a => rfl
  | load m a k ih =>
    simp only [Sem.run, Sem.runT]
    split
    · exact ih _ _ _
    · split
      · exact ih _ _ _
      · rfl
  | store m a v k ih =>
    cases v <;> simp only [Sem.run, Sem.runT] <;> first | rfl | (split <;> (first | rfl | (split <;> first | rfl | exact ih _ _)))
  | new o k ih => simp only [Sem.run, Sem.runT]; exact ih _ _ _
  | shape r k ih => simp only [Sem.run, Sem.runT]; exact ih _ _ _
  | freeze a n k ih => simp only [Sem.run, Sem.runT]; exact ih _ _
  | frozen a k ih => simp only [Sem.run, Sem.runT]; exact ih _ _ _
  | getObj r k ih =>
    simp only [Sem.run, Sem.runT]
    split
    · rfl
    · exact ih _ _ _
    · rfl
  | setObj r o k ih =>
    simp only [Sem.run, Sem.runT]
    split
    · rfl
    · exact ih _ _
    · rfl
  | choose q k ih =>
    simp only [Sem.run, Sem.runT]
    split
    · exact ih _ _ _
    · exact ih _ _ _
  | sys c k ih => simp only [Sem.run, Sem.runT]; exact ih _ _ _
  | program k ih => simp only [Sem.run, Sem.runT]; exact ih _ _ _
  | mark m k ih => simp only [Sem.run, Sem.runT]; exact ih _ _
  | halt h => rfl
end Go.Proofs.Ytplpmelpoajpdaa.Up
namespace Go.Proofs.Ytplpmelpoajpdaa.Up
open Go
set_option linter.unusedVariables false
set_option linter.unusedSimpArgs false

/-- A goroutine's step, whose world has been asked at least 'n' times (nothing is said of a program that has ended). -/
def GUp (n : Nat) : GStep → Prop
  | .go _ w _ => n ≤ w.drawn
  | .comm _ _ _ _ w _ => n ≤ w.drawn
  | .spawn _ _ w _ => n ≤ w.drawn
  | .count _ w _ => n ≤ w.drawn
  | .timer _ _ w _ => n ≤ w.drawn
  | .alone _ _ w _ => n ≤ w.drawn
  | .newcoro _ _ _ w _ => n ≤ w.drawn
  | .coroswitch _ _ _ w _ => n ≤ w.drawn
  | .collect _ w _ => n ≤ w.drawn
  | .watch _ w _ => n ≤ w.drawn
  | .ended _ _ _ => True

theorem GUp.after {n : Nat} {es : Array Event} {g : GStep} (h : GUp n g) : GUp n (g.after es) := by
  cases g <;> exact h

theorem gup_ite {n : Nat} {c : Prop} [Decidable c] {a b : GStep} (ha : c → GUp n a) (hb : ¬ c → GUp n b) : GUp n (if c then a else b) := by
  split
  · exact ha (by assumption)
  · exact hb (by assumption)

theorem ok_up {α : Type} {p : Program} {s : Sem α} {w w' : World} {a : α} {n : Nat} (h : s.run p w = .ok a w') (hn : n ≤ w.drawn) : n ≤ w'.drawn := by
  have := run_up p s w
  rw [h] at this
  exact Nat.le_trans hn this

theorem halt_up {α : Type} {p : Program} {s : Sem α} {w w' : World} {a : Halt} {n : Nat} (h : s.run p w = .halt a w') (hn : n ≤ w.drawn) : n ≤ w'.drawn := by
  have := run_up p s w
  rw [h] at this
  exact Nat.le_trans hn this

theorem okT_up {α : Type} {p : Program} {s : Sem α} {w w' : World} {es : Array Event} {a : α} {n : Nat} (h : (s.runT p w es).1 = .ok a w') (hn : n ≤ w.drawn) : n ≤ w'.drawn := by
  rw [runT_fst] at h; exact ok_up h hn

theorem haltT_up {α : Type} {p : Program} {s : Sem α} {w w' : World} {es : Array Event} {a : Halt} {n : Nat} (h : (s.runT p w es).1 = .halt a w') (hn : n ≤ w.drawn) : n ≤ w'.drawn := by
  rw [runT_fst] at h; exact halt_up h hn

theorem dieOf_up {fr : Frame} {a : List ByteArray} {m : String} {b : Bool} {w : World} {n : Nat} (hn : n ≤ w.drawn) : GUp n (dieOf fr a m b w) := hn
theorem endThrow_up {fr : Frame} {m : String} {w : World} {n : Nat} (hn : n ≤ w.drawn) : GUp n (endThrow fr m w) := hn

theorem endWith_up {w : World} {fd : Nat} {t : ByteArray} {o : Outcome} {n : Nat} : GUp n (endWith w fd t o) := by
  simp only [endWith]
  repeat' (first | trivial | split)

theorem endPrinting_up {p : Program} {fr : Frame} {v : Value} {w : World} {n : Nat} (hn : n ≤ w.drawn) : GUp n (endPrinting p fr v w) := by
  simp only [endPrinting]
  split
  · exact endThrow_up hn
  · trivial

theorem endFatal_up {p : Program} {fr : Frame} {cs : List Frame} {d : Option Dying} {m : String} {w : World} {n : Nat} (hn : n ≤ w.drawn) : GUp n (endFatal p fr cs d m w) := by
  simp only [endFatal]
  split
  · rename_i h; exact dieOf_up (ok_up h hn)
  · trivial
  · trivial

theorem writeOn_up {p : Program} {fr : Frame} {d : Dying} {f : Fatal} {w : World} {n : Nat} (hn : n ≤ w.drawn) : GUp n (writeOn p fr d f w) := by
  simp only [writeOn]
  split
  · trivial
  · split
    · rename_i h; exact okT_up (congrArg Prod.fst h) hn
    · rename_i h; exact haltT_up (congrArg Prod.fst h) hn
    · trivial
    · trivial

theorem die_up {p : Program} {fr : Frame} {d : Dying} {w : World} {n : Nat} (hn : n ≤ w.drawn) : GUp n (die p fr d w) := by
  unfold die
  split
  · exact writeOn_up hn
  · split
    · split
      · exact hn
      · exact endWith_up
    · simp only
      split
      · exact hn
      · split
        · rename_i h; exact ok_up h hn
        · trivial
      · refine GUp.after ?_
        split
        · rename_i h; exact okT_up h hn
        · rename_i h; exact okT_up h hn
        · trivial
        · rename_i h; exact endPrinting_up (haltT_up h hn)
        · trivial
      · trivial

theorem doReturn_up {p : Program} {main : Bool} {fr : Frame} {cs : List Frame} {d : Option Dying} {v : Value} {w : World} {n : Nat} (hn : n ≤ w.drawn) : GUp n (doReturn p main fr cs d v w) := by
  unfold doReturn
  split
  · split <;> exact hn
  · split
    · exact hn
    · trivial
    · split
      · exact hn
      · split
        · exact hn
        · trivial

theorem callDeferred_up {p : Program} {fr : Frame} {cs : List Frame} {d : Option Dying} {df : Deferred} {w : World} {n : Nat} (hn : n ≤ w.drawn) : GUp n (callDeferred p fr cs d df w) := by
  unfold callDeferred
  refine gup_ite (fun _ => trivial) fun _ => ?_
  · rcases hr : (invoke df.target df.args).runT p w #[] with ⟨r, es⟩
    have hw : n ≤ (Result.world r).drawn := by
      have h1 := runT_fst p (invoke df.target df.args) w #[]
      rw [hr] at h1
      have h2 := run_up p (invoke df.target df.args) w
      rw [← h1] at h2
      exact Nat.le_trans hn h2
    clear hr
    refine GUp.after ?_
    cases r with
    | ok v w' =>
      cases v <;> first | exact hw | trivial | skip
      case recover => simp only; split <;> exact hw
      case coroswitch c e => cases e <;> first | exact hw | trivial
      case alone e v => cases e <;> first | exact hw | trivial
    | halt h w' =>
      cases h <;> first | exact hw | trivial | exact endFatal_up hw | exact endThrow_up hw

theorem unwind_up {p : Program} {main : Bool} {fr : Frame} {cs : List Frame} {d : Option Dying} {w : World} {n : Nat} (hn : n ≤ w.drawn) : GUp n (unwind p main fr cs d w) := by
  unfold unwind
  split
  · refine GUp.after ?_
    split
    · rename_i h; exact okT_up h hn
    · trivial
  · exact callDeferred_up hn
  · split
    · trivial
    · split
      · trivial
      · split
        · exact hn
        · split
          · split
            · exact hn
            · split
              · rename_i h; exact ok_up h hn
              · trivial
              · trivial
          · split
            · exact endPrinting_up hn
            · trivial
    · split
      · exact doReturn_up hn
      · refine GUp.after ?_
        split
        · rename_i h; exact doReturn_up (okT_up h hn)
        · trivial
        · trivial

theorem early_up {p : Program} {fr : Frame} {cs : List Frame} {d : Option Dying} {g : Nat} {w : World} {n : Nat} (hn : n ≤ w.drawn) : GUp n (early p fr cs d g w) := by
  have ny : ∀ w : World, n ≤ w.drawn → GUp n (match w.heap[g]? with
    | some (.pending c elem) => .go { frame := fr, callers := cs, status := .running, dying := d } { w with heap := w.heap.setIfInBounds g (.cells c elem) }
    | _ => .ended (.stuck "early: the variable does not wait" (fr.pos p)) w) := by
    intro w hn
    split
    · exact hn
    · trivial
  simp only [early]
  repeat' (first | exact ny _ hn | trivial | exact hn | (rename_i h; exact ny _ (ok_up h hn)) | (rename_i h; exact (ok_up h hn : n ≤ World.drawn _)) | split)
end Go.Proofs.Ytplpmelpoajpdaa.Up
namespace Go.Proofs.Ytplpmelpoajpdaa.Up
open Go Go.Sort Go.RowKit
set_option linter.unusedVariables false
set_option linter.unusedSimpArgs false

theorem gup_ifp {n : Nat} {c : Prop} [Decidable c] {a b : Result Next × Array Event} {P : Result Next × Array Event → Prop} (ha : P a) (hb : P b) : P (if c then a else b) := by
  split
  · exact ha
  · exact hb

theorem apply_up {p : Program} {main listen : Bool} {fr : Frame} {cs : List Frame} {d : Option Dying} {s : Sem Next} {w : World} {n : Nat} (hn : n ≤ w.drawn) : GUp n (stepG.apply p listen fr cs d s w) := by
  unfold stepG.apply
  rcases hr : (if listen = true then s.runT p w #[] else (s.run p w, #[])) with ⟨r, es⟩
  have hw : n ≤ (Result.world r).drawn := by
    have h1 : (if listen = true then s.runT p w #[] else (s.run p w, #[])).1 = s.run p w := by
      split
      · exact runT_fst _ _ _ _
      · rfl
    rw [hr] at h1
    have h2 := run_up p s w
    rw [← h1] at h2
    exact Nat.le_trans hn h2
  clear hr
  refine GUp.after ?_
  cases r with
  | ok v w' =>
    cases v <;> first | exact hw | trivial | skip
    case recover => simp only; split <;> exact hw
    case spawn => exact gup_ite (fun _ => endThrow_up hw) fun _ => hw
    case callThen => simp only; split <;> exact hw
    case row => simp only; split <;> exact hw
    case stack => simp only; split <;> exact hw
  | halt h w' =>
    cases h <;> first | exact hw | trivial | exact endFatal_up hw | exact endThrow_up hw | skip
    case unsupported u => cases u <;> first | trivial | exact early_up hw

theorem oper_up {p : Program} {listen : Bool} {fr : Frame} {cs : List Frame} {d : Option Dying} {w : World} {n : Nat} (hn : n ≤ w.drawn) : GUp n (stepG.oper p listen fr cs d w) := by
  unfold stepG.oper
  split
  · trivial
  · split
    · exact apply_up (main := false) hn
    · exact apply_up (main := false) hn

theorem gup_elim {α : Type} {n : Nat} {o : Option α} {a : GStep} {f : α → GStep} (ha : GUp n a) (hf : ∀ x, GUp n (f x)) : GUp n (o.elim a f) := by
  cases o with
  | none => exact ha
  | some x => exact hf x

theorem exec_up {p : Program} {main listen : Bool} {fr : Frame} {cs : List Frame} {d : Option Dying} {w : World} {n : Nat} (hn : n ≤ w.drawn) : GUp n (stepG.exec p main listen fr cs d w) := by
  unfold stepG.exec
  dsimp only
  split
  all_goals repeat' (first
    | exact hn
    | trivial
    | exact apply_up (main := main) hn
    | exact oper_up hn
    | (rename_i h; exact doReturn_up (okT_up h hn))
    | (rename_i h; exact apply_up (main := main) (okT_up h hn))
    | (rename_i h; exact (okT_up h hn : n ≤ World.drawn _))
    | (rename_i h; exact (haltT_up h hn : n ≤ World.drawn _))
    | (rename_i h; exact (ok_up h hn : n ≤ World.drawn _))
    | refine GUp.after ?_
    | refine gup_elim ?_ fun _ => ?_
    | refine gup_ite (fun _ => ?_) fun _ => ?_
    | split)

theorem stepG_up {p : Program} {main listen : Bool} {g : Goroutine} {w : World} : GUp w.drawn (stepG p main g w listen) := by
  unfold stepG
  simp only
  split
  · exact die_up (Nat.le_refl _)
  · exact exec_up (Nat.le_refl _)
  · exact unwind_up (Nat.le_refl _)

/-- What the machine has stepped to: nothing is said of a program that has ended. -/
def SUp (n : Nat) : Stepped → Prop
  | .next m => n ≤ m.world.drawn
  | .ended _ _ => True

theorem sup_ite {n : Nat} {c : Prop} [Decidable c] {a b : Stepped × Array MemOp} (ha : c → SUp n a.1) (hb : ¬ c → SUp n b.1) : SUp n (if c then a else b).1 := by
  split
  · exact ha (by assumption)
  · exact hb (by assumption)

theorem waitingAt_up {rest : Rest} {cases_ : Array CommCase} {w w' : World} (h : waitingAt rest cases_ w = some w') : w'.drawn = w.drawn := by
  unfold waitingAt at h
  split at h
  · split at h
    · cases h; rfl
    · cases h
  · cases h; rfl

theorem communicate_up {p : Program} {rest : Rest} {gs : Array Goroutine} {i : Nat} {g : Goroutine} {cases_ : Array CommCase} {blocking : Bool} {shape : CommShape} {w : World} {n : Nat} (hn : n ≤ w.drawn) :
    SUp n (communicate p rest gs i g cases_ blocking shape w).1 := by
  unfold communicate
  refine sup_ite (fun _ => trivial) fun _ => ?_
  refine sup_ite (fun _ => sup_ite (fun _ => ?_) fun _ => hn) fun _ => ?_
  · split
    · rename_i h; have := waitingAt_up h; exact (by rw [this]; exact hn : n ≤ World.drawn _)
    · trivial
  · simp only
    split
    · trivial
    · rename_i h
      have h1 := ok_up h hn
      clear h
      split
      · split
        · rename_i h; exact halt_up h h1
        · trivial
      · exact h1
      · exact h1
      · split
        · exact h1
        · split
          · rename_i h; have h2 := ok_up h h1; exact h2
          · trivial
      · exact h1
      · exact h1
      · trivial

theorem look_up {p : Program} {gs : Array Goroutine} {rest : Rest} {w : World} {n : Nat} (hn : n ≤ w.drawn) : SUp n (look p gs rest w) := by
  simp only [look]
  repeat' (first | trivial | (rename_i h; exact (ok_up h hn : n ≤ World.drawn _)) | split)

theorem serve_up {p : Program} {m : Machine} {k : Nat} {n : Nat} (hn : n ≤ m.world.drawn) : SUp n (serve p m k) := by
  unfold serve
  split
  · trivial
  · exact hn
  · simp only
    split
    · trivial
    · exact hn

theorem drain_up (w : World) (c : Nat) : (drain w c).2.drawn = w.drawn := by
  unfold drain; split <;> rfl

theorem retime_up (m : Machine) (k : Nat) (t : Timer) (a b : Nat) : (retime m k t a b).2.world.drawn = m.world.drawn := by
  unfold retime
  cases h : t.chan with
  | none => rfl
  | some c => exact drain_up _ _

theorem timerOp_up {m m' : Machine} {op : TimerOp} {v : Value} (h : timerOp m op = .ok (v, m')) : m'.world.drawn = m.world.drawn := by
  have hnamed : ∀ (m0 m : Machine) (var : Addr) (a : Nat) (b : Timer → Nat) (v : Value) (m' : Machine), timerOp.named m0 var (fun k t => retime m k t a (b t)) = .ok (v, m') → m'.world.drawn = m.world.drawn := by
    intro m0 m var a b v m' h
    unfold timerOp.named at h
    split at h
    · rename_i k hk
      have : m' = (retime m k (m0.rest.timers.getD k default) a (b (m0.rest.timers.getD k default))).2 := by
        injection h with h
        have h2 : retime m k (m0.rest.timers.getD k default) a (b (m0.rest.timers.getD k default)) = (v, m') := h
        rw [h2]
      rw [this]
      exact retime_up _ _ _ _ _
    · cases h
  cases op with
  | new t =>
    simp only [timerOp] at h
    split at h
    · cases h; rfl
    · split at h
      · split at h
        · cases h
        · cases h; rfl
      · cases h
  | stop var => exact hnamed m m var 0 (fun t => t.period) v m' h
  | reset var a b =>
    simp only [timerOp] at h
    split at h
    · rename_i m1 h1
      have e1 : m1.world.drawn = m.world.drawn := by
        unfold timerOp.opened at h1
        split at h1
        · split at h1
          · cases h1; rfl
          · cases h1
        · cases h1; rfl
      rw [← e1]
      exact hnamed m m1 var a (fun _ => b) v m' h
    · cases h
  | deadline => simp only [timerOp] at h; cases h; rfl

theorem runT_machine_up {p : Program} {m : Machine} {i : Nat} {listen : Bool} : SUp m.world.drawn (runT p m i listen).1 := by
  have hg := fun g => @stepG_up p (i == 0) listen g m.world
  unfold runT
  dsimp only
  have h := hg (m.gs.swapAt! i { (default : Goroutine) with status := .finished }).1
  generalize stepG p (i == 0) (m.gs.swapAt! i { (default : Goroutine) with status := .finished }).1 m.world listen = s at h ⊢
  split
  · trivial
  · exact communicate_up h
  · exact h
  · exact h
  · show SUp _ (if _ then _ else _)
    split
    · trivial
    · exact h
  · exact h
  · exact look_up h
  · exact h
  · exact h
  · split
    · exact h
    · exact h
    · trivial
  · split
    · rename_i h1
      have := timerOp_up h1
      exact (by rw [this]; exact h : m.world.drawn ≤ World.drawn _)
    · exact h
    · trivial
    · trivial

/-- What a move has brought. -/
def MUp (n : Nat) : Move → Prop
  | .goroutine m _ => n ≤ m.world.drawn
  | .machine s _ => SUp n s

theorem mup_ite {n : Nat} {c : Prop} [Decidable c] {a b : Move} (ha : c → MUp n a) (hb : ¬ c → MUp n b) : MUp n (if c then a else b) := by
  split
  · exact ha (by assumption)
  · exact hb (by assumption)

theorem askOn_up {p : Program} {m : Machine} {n : Nat} (hn : n ≤ m.world.drawn) : MUp n (askOn p m) := by
  have hpick : ∀ m' : Machine, n ≤ m'.world.drawn → MUp n (match (choose (.sched (runnable m.gs m.world.os.mono).length)).run p m'.world with
      | .halt _ w => .machine (.ended (.stuck "sched" "") w)
      | .ok k world =>
        if (runnable m.gs m.world.os.mono).length ≤ 1 then .goroutine { m' with world } ((runnable m.gs m.world.os.mono).getD k 0) else
        match (choose (.extern "sched.slice" 65536)).run p world with
        | .halt _ w => .machine (.ended (.stuck "sched.slice" "") w)
        | .ok n world => .goroutine { m' with world, rest := { m'.rest with slice := if n = 0 then none else some ((runnable m.gs m.world.os.mono).getD k 0, n) } } ((runnable m.gs m.world.os.mono).getD k 0)) := by
    intro m' hn
    split
    · trivial
    · rename_i h
      have h1 := ok_up h hn
      refine mup_ite (fun _ => h1) fun _ => ?_
      split
      · trivial
      · rename_i h; exact ok_up h h1
  unfold askOn
  dsimp only
  split
  · trivial
  · rename_i h
    have h1 := ok_up h hn
    clear h
    refine mup_ite (fun _ => serve_up h1) fun _ => ?_
    split
    · split
      · exact h1
      · refine mup_ite (fun _ => h1) fun _ => ?_
        split
        · trivial
        · trivial
    · split
      · exact hpick { m with world := _ } h1
      · split
        · trivial
        · rename_i h; exact hpick { m with world := _ } (ok_up h h1)
        · rename_i h; have h2 := ok_up h h1; exact h2
        · rename_i h; have h2 := ok_up h h1; exact hpick _ h2

theorem ask_up' {p : Program} {m : Machine} {n : Nat} (hn : n ≤ m.world.drawn) : MUp n (ask p m) := by
  unfold ask
  refine mup_ite (fun _ => ?_) fun _ => askOn_up hn
  split
  · trivial
  · rename_i h
    have h1 := ok_up h hn
    clear h
    have h2 := @look_up p m.gs m.rest _ n h1
    split
    · rename_i h3; rw [h3] at h2; exact askOn_up h2
    · exact h2
  · rename_i h
    exact askOn_up (ok_up h hn)

theorem move_up {p : Program} {m : Machine} : MUp m.world.drawn (move p m) := by
  unfold move
  split
  · exact mup_ite (fun _ => Nat.le_refl _) fun _ => trivial
  · split
    · exact mup_ite (fun _ => Nat.le_refl _) fun _ => ask_up' (Nat.le_refl _)
    · exact ask_up' (Nat.le_refl _)

theorem step_up {p : Program} {m m' : Machine} (h : step p m = .next m') : m.world.drawn ≤ m'.world.drawn := by
  have hm := @move_up p m
  unfold step stepT at h
  split at h
  · rename_i m1 i h1
    rw [h1] at hm
    have h2 := @runT_machine_up p m1 i true
    rw [h] at h2
    exact Nat.le_trans hm h2
  · rename_i s ops h1
    rw [h1] at hm
    simp only at h
    rw [h] at hm
    exact hm

theorem steps_up {p : Program} {m m' : Machine} (h : Steps p m m') : m.world.drawn ≤ m'.world.drawn := by
  obtain ⟨k, hk⟩ := h
  induction k generalizing m with
  | zero => cases hk; exact Nat.le_refl _
  | succ k ih =>
    simp only [runN] at hk
    split at hk
    · rename_i m1 h1
      exact Nat.le_trans (step_up h1) (ih hk)
    · rename_i h1
      rw [hk] at h1
      exact absurd rfl (h1 m')

theorem calls_up {P : Program} {f : FuncId} {args : Array Value} {w : World} {R : Ending → World → Prop} (h : Calls P f args w R) (hr : ∀ e w', R e w' → ∃ v, e = .returned v) :
    Calls P f args w fun e w' => R e w' ∧ w.drawn ≤ w'.drawn := by
  intro cs
  obtain ⟨e, w', fr, hR, hc, hf, hl⟩ := h cs
  obtain ⟨v, rfl⟩ := hr e w' hR
  exact ⟨_, w', fr, ⟨hR, steps_up hc⟩, hc, hf, hl⟩

/-- A call that leaves what was there as it was: how often the tape has been asked, and which blocks have been laid. -/
theorem calls_grown {P : Program} {f : FuncId} {args : Array Value} {w : World} {v : Value} (h : Calls P f args w fun e w' => e = .returned v ∧ Below w.heap.size w w') :
    Calls P f args w fun e w' => e = .returned v ∧ ∃ q os', w' = grow (w.drewN q) os' := by
  refine (calls_up h fun e w' h => ⟨v, h.1⟩).mono ?_
  rintro e w' ⟨⟨rfl, hb⟩, hu⟩
  refine ⟨rfl, w'.drawn - w.drawn, ?_⟩
  obtain ⟨⟨d, os'⟩, hp⟩ := regrown_of_below hb
  refine ⟨os', ?_⟩
  have hd : w'.drawn = d := by rw [hp]; rfl
  have hq : w.drawn + (w'.drawn - w.drawn) = d := by omega
  have e1 : w.drewN (w'.drawn - w.drawn) = redrawn w d := by
    simp only [World.drewN, redrawn, hq]
  rw [e1]
  exact hp

end Go.Proofs.Ytplpmelpoajpdaa.Up
namespace Go.Proofs
open Go.Shelf
def Try.sortL_ren : Go.Shelf.Ren := ⟨fun | 6 => 73 | 15 => 100 | 14 => 99 | 28 => 112 | 29 => 113 | 20 => 104 | 21 => 105 | 22 => 106 | 23 => 107 | 24 => 108 | 25 => 109 | 26 => 110 | 27 => 111 | 46 => 114 | 47 => 115 | 48 => 116 | 49 => 117 | 50 => 118 | 57 => 119 | n => n, fun | 22 => 48 | 24 => 3 | 25 => 92 | 3 => 3 | 39 => 109 | 0 => 0 | 53 => 122 | 55 => 25 | 4 => 4 | 46 => 115 | 45 => 114 | 50 => 119 | 5 => 5 | 9 => 9 | 66 => 124 | 70 => 128 | 76 => 130 | 77 => 58 | n => n, fun | n => n⟩
theorem Try.sortL : Go.Proofs.SlLaysF.n6 Try.prog Try.sortL_ren := {
  mixed := by kernel_rfl
  f6 := ⟨Try.f73.name, by decide, Try.func73.trans (congrArg some (by kernel_rfl))⟩
  f14 := ⟨Try.f99.name, by decide, Try.func99.trans (congrArg some (by kernel_rfl))⟩
  f15 := Try.func100.trans (congrArg some (by kernel_rfl))
  f20 := ⟨Try.f104.name, by decide, Try.func104.trans (congrArg some (by kernel_rfl))⟩
  f21 := ⟨Try.f105.name, by decide, Try.func105.trans (congrArg some (by kernel_rfl))⟩
  f22 := ⟨Try.f106.name, by decide, Try.func106.trans (congrArg some (by kernel_rfl))⟩
  f23 := ⟨Try.f107.name, by decide, Try.func107.trans (congrArg some (by kernel_rfl))⟩
  f24 := ⟨Try.f108.name, by decide, Try.func108.trans (congrArg some (by kernel_rfl))⟩
  f25 := ⟨Try.f109.name, by decide, Try.func109.trans (congrArg some (by kernel_rfl))⟩
  f26 := ⟨Try.f110.name, by decide, Try.func110.trans (congrArg some (by kernel_rfl))⟩
  f27 := ⟨Try.f111.name, by decide, Try.func111.trans (congrArg some (by kernel_rfl))⟩
  f28 := Try.func112.trans (congrArg some (by kernel_rfl))
  f29 := Try.func113.trans (congrArg some (by kernel_rfl))
  f46 := ⟨Try.f114.name, by decide, Try.func114.trans (congrArg some (by kernel_rfl))⟩
  f47 := Try.func115.trans (congrArg some (by kernel_rfl))
  f48 := Try.func116.trans (congrArg some (by kernel_rfl))
  f49 := ⟨Try.f117.name, by decide, Try.func117.trans (congrArg some (by kernel_rfl))⟩
  f50 := ⟨Try.f118.name, by decide, Try.func118.trans (congrArg some (by kernel_rfl))⟩
  f57 := ⟨Try.f119.name, by decide, Try.func119.trans (congrArg some (by kernel_rfl))⟩
  t0 := Try.underlying0
  a0 := Try.isAgg0
  z0 := Try.sizeOf0
  v0 := Try.zeroValue0
  t3 := Try.underlying3
  a3 := Try.isAgg3
  z3 := Try.sizeOf3
  v3 := Try.zeroValue3
  t4 := Try.underlying4
  a4 := Try.isAgg4
  z4 := Try.sizeOf4
  v4 := Try.zeroValue4
  t5 := Try.underlying5
  a5 := Try.isAgg5
  z5 := Try.sizeOf5
  v5 := Try.zeroValue5
  t9 := Try.underlying9
  a9 := Try.isAgg9
  z9 := Try.sizeOf9
  v9 := Try.zeroValue9
  t22 := Try.underlying48
  a22 := Try.isAgg48
  z22 := Try.sizeOf48
  v22 := Try.zeroValue48
  a24 := Try.isAgg3
  z24 := Try.sizeOf3
  t25 := Try.underlying92
  a25 := Try.isAgg92
  z25 := Try.sizeOf92
  v25 := Try.zeroValue92
  t39 := Try.underlying109
  a39 := Try.isAgg109
  z39 := Try.sizeOf109
  v39 := Try.zeroValue109
  t45 := Try.underlying114
  a45 := Try.isAgg114
  z45 := Try.sizeOf114
  v45 := Try.zeroValue114
  t46 := Try.underlying115
  a46 := Try.isAgg115
  z46 := Try.sizeOf115
  v46 := Try.zeroValue115
  t50 := Try.underlying119
  a50 := Try.isAgg119
  z50 := Try.sizeOf119
  v50 := Try.zeroValue119
  t53 := Try.underlying122
  a53 := Try.isAgg122
  z53 := Try.sizeOf122
  v53 := Try.zeroValue122
  t55 := Try.underlying25
  a55 := Try.isAgg25
  z55 := Try.sizeOf25
  v55 := Try.zeroValue25
  t66 := Try.underlying124
  a66 := Try.isAgg124
  z66 := Try.sizeOf124
  v66 := Try.zeroValue124
  t70 := Try.underlying128
  a70 := Try.isAgg128
  z70 := Try.sizeOf128
  v70 := Try.zeroValue128
  t76 := Try.underlying130
  a76 := Try.isAgg130
  z76 := Try.sizeOf130
  v76 := Try.zeroValue130
  t77 := Try.underlying58
  a77 := Try.isAgg58
  z77 := Try.sizeOf58
  v77 := Try.zeroValue58 }
end Go.Proofs
namespace Go.Proofs.Ytplpmelpoajpdaa.Ev
open Go Go.Proofs Go.Sort
set_option linter.unusedVariables false
set_option linter.unusedSimpArgs false
set_option maxRecDepth 100000
theorem sw_keep {α : Type} [Inhabited α] (enc : α → Value) (W : World) (g q : Nat) (dk : Array α) (os : Array Obj) : Keep (fun k => k = g) W (Go.Proofs.sortWorld enc W g 0 q dk os) := by
  have hs : (putRow enc (Sort.ahead W q) g 0 dk).heap.size = W.heap.size := by simp [putRow, mapBlock, Sort.ahead]
  refine ⟨rfl, rfl, rfl, by simp [Go.Proofs.sortWorld, hs], fun k hk hne => ?_⟩
  simp only [Go.Proofs.sortWorld]
  rw [heap_grow_old _ _ (by omega)]
  simp [putRow, mapBlock, Sort.ahead, Array.getElem?_modify, Ne.symm hne]
theorem closure_at {t : List SVtx} {p n x y : Int} {Z : Zs} {W : World} {bt bp bn : Nat} {vt : Value} (ht : t.length ≤ 1000) (hx : 0 ≤ x ∧ x < n) (hy : 0 ≤ y ∧ y < n) (hp : 0 ≤ p ∧ p < n) (hn : n ≤ 1000000)
    (hz : ∀ b o, Z b o → b < W.heap.size) (hD : DR Z W (encT t) vt) (ct : W.cell? ⟨bt, 0, none⟩ = some vt) (cp : W.cell? ⟨bp, 0, none⟩ = some (.int .i64 p)) (cn : W.cell? ⟨bn, 0, none⟩ = some (.int .i64 n)) :
    Calls P 74 #[.int .i64 x, .int .i64 y, .pointer (some ⟨bt, 0, none⟩), .pointer (some ⟨bp, 0, none⟩), .pointer (some ⟨bn, 0, none⟩)] W fun e w' => e = .returned (.int .i64 (cf t n p x y)) ∧ Go.RowKit.Below W.heap.size W w' := by
  have hpc := (closure_g low0 t p n x y ht hx hy hp hn).pcI okx0 rfl rfl
  have E : ZExt Z (fun b o => Z b o ∨ (o = 0 ∧ (b = bt ∨ b = bp ∨ b = bn))) W W := ⟨fun b o h => .inl h, fun _ _ _ => rfl⟩
  have he : ∀ (a : AV) (b : Nat) (v : Value), (b = bt ∨ b = bp ∨ b = bn) → W.cell? ⟨b, 0, none⟩ = some v → DR (fun b o => Z b o ∨ (o = 0 ∧ (b = bt ∨ b = bp ∨ b = bn))) W a v → DR (fun b o => Z b o ∨ (o = 0 ∧ (b = bt ∨ b = bp ∨ b = bn))) W (.ea [a]) (.pointer (some ⟨b, 0, none⟩)) := by
    intro a b v hb hc hd
    refine .ea [a] b 0 (fun _ => v) (fun j hj => ?_) (fun j hj => ?_)
    · obtain rfl : j = 0 := by simpa using hj
      exact ⟨.inr ⟨rfl, hb⟩, hc⟩
    · obtain rfl : j = 0 := by simpa using hj
      exact hd
  refine (hpc (fun b o => Z b o ∨ (o = 0 ∧ (b = bt ∨ b = bp ∨ b = bn))) W _ ?_ rfl ?_).mono ?_
  · rintro b o (h | ⟨rfl, rfl | rfl | rfl⟩)
    · exact hz b o h
    · exact World.block_lt_of_cell? W _ ct
    · exact World.block_lt_of_cell? W _ cp
    · exact World.block_lt_of_cell? W _ cn
  · intro i hi
    match i, hi with
    | 0, _ => exact .v _ rfl
    | 1, _ => exact .v _ rfl
    | 2, _ => exact he _ _ _ (.inl rfl) ct (DR.ext E hD)
    | 3, _ => exact he _ _ _ (.inr (.inl rfl)) cp (.v _ rfl)
    | 4, _ => exact he _ _ _ (.inr (.inr rfl)) cn (.v _ rfl)
  · rintro e w' ⟨v, Z', rfl, G, _, _, _, hv⟩
    cases hv
    exact ⟨rfl, ⟨G.os, G.tape, G.output, G.size, fun k hk => G.old hk⟩⟩
theorem sort_run {t : List SVtx} {p : Int} {n : Nat} {Z : Zs} {W : World} {bt bp bn : Nat} {vt v : Value} (ht : t.length ≤ 1000) (hp : 0 ≤ p ∧ p < n) (hn : n ≤ 1000)
    (hz : ∀ b o, Z b o → b < W.heap.size) (hD : DR Z W (encT t) vt) (ct : W.cell? ⟨bt, 0, none⟩ = some vt) (cp : W.cell? ⟨bp, 0, none⟩ = some (.int .i64 p)) (cn : W.cell? ⟨bn, 0, none⟩ = some (.int .i64 n))
    (hrow : W.ownsRow 0 3 1 v (others p n).length ((others p n).map (Value.int .i64))) (hZg : ∀ g c k, v = .slice (some ⟨g, 0, none⟩) k c → 0 < k → (∀ o, ¬ Z g o) ∧ g ≠ bt ∧ g ≠ bp ∧ g ≠ bn) :
    Calls P 73 #[v, .func (.func 74) #[] #[.pointer (some ⟨bt, 0, none⟩), .pointer (some ⟨bp, 0, none⟩), .pointer (some ⟨bn, 0, none⟩)]] W fun e w' =>
      e = .returned (.tuple #[]) ∧ w'.ownsRow 0 3 1 v (others p n).length ((sorted n p t).map (Value.int .i64)) ∧ Keep (fun k => v.ownBlock = some k) W w' := by
  have eg : ∀ args w, (callFunc 74 args).run P w = .ok (.enter 74 args) w := enters_of Try.func74 (by kernel_rfl) rfl
  haveI : Inhabited (Q n) := ⟨⟨p, hp⟩⟩
  rcases Nat.eq_zero_or_pos (others p n).length with h0 | h0
  · obtain ⟨A1, c1, rfl⟩ : ∃ A c, v = .slice A 0 c := by
      rcases hrow.2 with ⟨rfl, _⟩ | ⟨g, cap, cur, rfl, _⟩
      · exact ⟨_, _, rfl⟩
      · rw [h0]; exact ⟨_, _, rfl⟩
    refine (Go.Proofs.AnyF.slices_SortFunc_none (P := P) (ρ := Try.sortL_ren) { Try.sortL with } A1 c1 (.func (.func 74) #[] #[.pointer (some ⟨bt, 0, none⟩), .pointer (some ⟨bp, 0, none⟩), .pointer (some ⟨bn, 0, none⟩)]) W).mono ?_
    rintro e w' ⟨rfl, rfl⟩
    have hnil : others p n = [] := List.eq_nil_of_length_eq_zero h0
    refine ⟨rfl, ?_, .refl _ _⟩
    have : sorted n p t = [] := by simp [sorted, hnil]
    rw [this, ← hnil]
    exact hrow
  · obtain ⟨g, cap, cur, rfl, hrow'⟩ : ∃ g cap cur, v = .slice (some ⟨g, 0, none⟩) (others p n).length cap ∧ W.heap[g]? = some (.cells cur 3 (0, 0)) := by
      rcases hrow.2 with ⟨_, h⟩ | ⟨g, cap, cur, h1, _, h2, _⟩
      · omega
      · exact ⟨g, cap, cur, h1, h2⟩
    obtain ⟨hg1, hg2, hg3, hg4⟩ := hZg g cap _ rfl h0
    obtain ⟨d, hd⟩ := lift n (others p n) fun x hx => by have := others_mem.mp hx; omega
    have hlen : d.length = (others p n).length := by rw [← hd, List.length_map]
    have henc : (others p n).map (Value.int .i64) = d.map enc := by rw [← hd, List.map_map]; rfl
    rw [henc] at hrow
    obtain ⟨g', cap', hv', -, hgW, -, -, -, hH⟩ := Go.Lib.holds_of_ownsRow hrow (by simp)
    have hgg : g' = g ∧ cap' = cap := by
      simp only [Value.slice.injEq, Option.some.injEq, Addr.mk.injEq] at hv'
      exact ⟨hv'.1.1.symm, hv'.2.2.symm⟩
    obtain ⟨rfl, rfl⟩ := hgg
    clear hv'
    have hcmp : Go.Proofs.CmpLays1 P 74 #[.pointer (some ⟨bt, 0, none⟩), .pointer (some ⟨bp, 0, none⟩), .pointer (some ⟨bn, 0, none⟩)] enc (fun x y : Q n => cf t n p x.1 y.1) g' 0 d.toArray.size W := by
      intro m os dk hdk x y
      have hS := sw_keep (enc (n := n)) W g' m dk os
      have hx := x.2
      have hy := y.2
      have hcell : ∀ b o, b ≠ g' → b < W.heap.size → (Go.Proofs.sortWorld (enc (n := n)) W g' 0 m dk os).cell? ⟨b, o, none⟩ = W.cell? ⟨b, o, none⟩ := fun b o hb hlt => World.cell?_of_block (w := W) (hS.block b hlt hb)
      refine Go.Proofs.Ytplpmelpoajpdaa.Up.calls_grown ?_
      exact closure_at ht hx hy hp (by omega) (fun b o h => Nat.lt_of_lt_of_le (hz b o h) hS.size)
        (DR.ext ⟨fun _ _ h => h, fun b o h => hcell b o (fun hb => hg1 o (hb ▸ h)) (hz b o h)⟩ hD)
        ((hcell bt 0 (Ne.symm hg2) (World.block_lt_of_cell? W _ ct)).trans ct) ((hcell bp 0 (Ne.symm hg3) (World.block_lt_of_cell? W _ cp)).trans cp) ((hcell bn 0 (Ne.symm hg4) (World.block_lt_of_cell? W _ cn)).trans cn)
    have hS := Go.Proofs.Any.slices_SortFunc_total (P := P) Try.sortL enc (fun _ => rfl) (fun x y : Q n => cf t n p x.1 y.1) (swo n p t) 74 #[.pointer (some ⟨bt, 0, none⟩), .pointer (some ⟨bp, 0, none⟩), .pointer (some ⟨bn, 0, none⟩)] g' 0 cap' d.toArray W eg hcmp hH hgW
      (by have := @others_len p n; simp; omega) (tot n p hp t)
    have hsz : d.toArray.size = (others p n).length := by simp [hlen]
    rw [hsz] at hS
    refine Calls.mono hS ?_
    rintro e w' ⟨rfl, q, os, rfl⟩
    have hms := sort_map n p t d
    rw [hd] at hms
    have hl2 : (d.mergeSort fun x y => !(Go.Proofs.ltOf (fun x y : Q n => cf t n p x.1 y.1)) y x).length = (others p n).length := by rw [List.length_mergeSort, hlen]
    have ho := Go.Lib.ownsRow_putRow (q := q) hrow hl2 (Nat.le_refl _)
    rw [List.take_of_length_le (by omega)] at ho
    refine ⟨rfl, ?_, ?_⟩
    · have e1 : (sorted n p t).map (Value.int .i64) = (d.mergeSort fun x y => !(Go.Proofs.ltOf (fun x y : Q n => cf t n p x.1 y.1)) y x).map enc := by
        have e2 : sorted n p t = (d.mergeSort fun x y => !(Go.Proofs.ltOf (fun x y : Q n => cf t n p x.1 y.1)) y x).map (·.1) := hms.symm
        rw [e2, List.map_map]
        rfl
      rw [e1]
      refine ⟨ho.1, ?_⟩
      rcases ho.2 with h | ⟨g, cap, cur, h1, h2, h3, h4⟩
      · exact .inl h
      · refine .inr ⟨g, cap, cur, h1, h2, ?_, h4⟩
        simp only [Go.Proofs.sortWorld]
        rw [heap_grow_old]
        · exact h3
        · rcases Nat.lt_or_ge g (putRow (enc (n := n)) (Sort.ahead W q) g' 0 (d.mergeSort fun x y => !(Go.Proofs.ltOf (fun x y : Q n => cf t n p x.1 y.1)) y x).toArray).heap.size with h | h
          · exact h
          · rw [Array.getElem?_eq_none h] at h3; cases h3
    · have hk := sw_keep (enc (n := n)) W g' q (d.toArray.toList.mergeSort fun x y => !(Go.Proofs.ltOf (fun x y : Q n => cf t n p x.1 y.1)) y x).toArray os
      exact ⟨hk.os, hk.tape, hk.output, hk.size, fun k h1 h2 => hk.block k h1 (fun h => h2 (by rw [h]; rfl))⟩
end Go.Proofs.Ytplpmelpoajpdaa.Ev
namespace Go.Proofs.Ytplpmelpoajpdaa.Ev
open Go Go.Proofs
set_option linter.unusedVariables false
set_option linter.unusedSimpArgs false
open Go.RowKit (Below)
set_option maxRecDepth 100000
/-- A fact that the walk's simp doesn't look into. -/
structure Aside0 (p : Prop) : Prop where mk :: (out : p)
section
variable {P : Program} {ops : Array Oper} {rest : List Oper} {o : Oper} {a : Act} {Q : Exit → Act → World → Prop} {W : World}
theorem gate_builtin {b : Builtin} {xs : Array Operand} {ts : Array TypeId} (_ho : o.op = .call { callee := .builtin b, args := xs, argTypes := ts }) (h : wpList P ops Q (o :: rest) a W) : wpList P ops Q (o :: rest) a W := h
end
theorem below_alloc' {w W : World} (h : Below w.heap.size w W) (o : Obj) : Below w.heap.size w (W.alloc o) := h.alloc h.size o
theorem below_step' {w W w2 : World} (h : Below w.heap.size w W) (k : Below W.heap.size W w2) : Below w.heap.size w w2 :=
  ⟨k.os.trans h.os, k.tape.trans h.tape, k.output.trans h.output, Nat.le_trans h.size k.size, fun i hi => (k.block i (Nat.lt_of_lt_of_le hi h.size)).trans (h.block i hi)⟩
theorem cell_below' {w w1 : World} (h : Below w.heap.size w w1) {a : Addr} {v : Value} (hc : w.cell? a = some v) : w1.cell? a = some v :=
  (World.cell?_of_block (w := w) (h.block a.block (World.block_lt_of_cell? w a hc))).trans hc
theorem DR.under {Z : Zs} {w W : World} {a : AV} {v : Value} (hz : ∀ b o, Z b o → b < w.heap.size) (h : DR Z w a v) (hB : Below w.heap.size w W) : DR Z W a v :=
  DR.ext ⟨fun _ _ h => h, fun b o hb => World.cell?_of_block (w := w) (hB.block b (hz b o hb))⟩ h
theorem pcI_at {f : FuncId} {args : List AV} {x : Value} {Z : Zs} {w W : World} {vs : Array Value} (hpc : PC P f args (.v x)) (hz : ∀ b o, Z b o → b < w.heap.size) (hl : args.length = vs.size) (hR : ∀ i, i < args.length → DR Z w (args.getD i .dead) (vs.getD i undef)) (hB : Below w.heap.size w W) :
    Calls P f vs W fun e w' => e = .returned x ∧ Below W.heap.size W w' := by
  refine (hpc Z W vs (fun b o h => Nat.lt_of_lt_of_le (hz b o h) hB.size) hl (fun i hi => (hR i hi).under hz hB)).mono ?_
  rintro e w' ⟨v, Z', rfl, G, _, _, _, hv⟩
  cases hv
  exact ⟨rfl, ⟨G.os, G.tape, G.output, G.size, fun k hk => G.old hk⟩⟩
theorem Gv.pcS {P : Program} {X : Prims} (hX : OKX P X) {f : FuncId} {args : List AV} {l : List AV} (h : Gv P X f args (.sl .no l)) (ha : args.all d2 = true) (hs : args.map s2 = args) : ∃ o, PC P f args (.sl o l) := by
  obtain ⟨r0, hr, hp⟩ := h.pc hX ha hs
  obtain ⟨o, rfl⟩ : ∃ o, r0 = .sl o l := by
    cases r0 with
    | sl o m => simp only [s3, s2, s1, s0, AV.sl.injEq, true_and] at hr; exact ⟨o, by rw [hr]⟩
    | _ => simp [s3, s2, s1, s0] at hr
  exact ⟨o, hp⟩
theorem len_at {f : FuncId} {args : List AV} {o : Tok} {l : List AV} {Z : Zs} {w W : World} {vs : Array Value} (hpc : PC P f args (.sl o l)) (hz : ∀ b o, Z b o → b < w.heap.size) (hl : args.length = vs.size) (hR : ∀ i, i < args.length → DR Z w (args.getD i .dead) (vs.getD i undef)) (hB : Below w.heap.size w W) :
    Calls P f vs W fun e w' => (∃ A c, e = .returned (.slice A l.length c)) ∧ Below W.heap.size W w' := by
  refine (hpc Z W vs (fun b o h => Nat.lt_of_lt_of_le (hz b o h) hB.size) hl (fun i hi => (hR i hi).under hz hB)).mono ?_
  rintro e w' ⟨v, Z', rfl, G, _, _, _, hv⟩
  refine ⟨?_, ⟨G.os, G.tape, G.output, G.size, fun k hk => G.old hk⟩⟩
  rcases hv.sl_inv with ⟨rfl, A, c, rfl, _⟩ | ⟨b, p, c, k, xs, rfl, _⟩
  · exact ⟨A, c, rfl⟩
  · exact ⟨_, c, rfl⟩
theorem own_move' {w w1 : World} {base : Nat} {e : TypeId} {size n : Nat} {v : Value} {xs : List Value} (h : w.ownsRow base e size v n xs) (hm : ∀ k, v.ownBlock = some k → w1.heap[k]? = w.heap[k]?) : w1.ownsRow base e size v n xs :=
  ⟨h.1, h.2.imp id fun ⟨g, cap, cur, hv, hb, hg, hr⟩ => ⟨g, cap, cur, hv, hb, (hm g (by rw [hv]; rfl)).trans hg, hr⟩⟩
theorem own_low {W : World} {b base n : Nat} {e : TypeId} {size : Nat} {v : Value} {xs : List Value} (h : W.ownsRow b e size v n xs) (hle : base ≤ b) : W.ownsRow base e size v n xs :=
  ⟨h.1, h.2.imp id fun ⟨g, cap, cur, he, hb, hr⟩ => ⟨g, cap, cur, he, Nat.le_trans hle hb, hr⟩⟩
theorem below_grown' {B : Nat} {W5 wr w8 : World} {u : Value} {o : Obj} {e : TypeId} {size n : Nat} {xs : List Value} (h : Below B W5 wr) (hB : B ≤ W5.heap.size) (hr : wr.ownsRow B e size u n xs) (hg : (wr.alloc o).grownBy w8 u.ownBlock) : Below B W5 w8 := by
  have hs : (wr.alloc o).heap.size = wr.heap.size + 1 := by simp
  refine ⟨hg.os.trans h.os, hg.tape.trans h.tape, hg.output.trans h.output, by have := hg.size; have := h.size; omega, fun k hk => ?_⟩
  have h1 := h.size
  rw [hg.block k (by omega) (fun he => ?_), heap_alloc_old _ _ (by omega)]
  · exact h.block k hk
  · rcases hr.2 with ⟨rfl, _⟩ | ⟨g, cap, cur, rfl, hb, _⟩
    · cases he
    · simp only [Value.ownBlock, Option.some.injEq] at he; omega
theorem own_base {W wr : World} {b B n : Nat} {e : TypeId} {size : Nat} {v : Value} {xs ys : List Value} (h : W.ownsRow b e size v n xs) (h2 : wr.ownsRow B e size v n ys) : W.ownsRow B e size v n xs := by
  refine ⟨h.1, ?_⟩
  rcases h.2 with h1 | ⟨g, cap, cur, rfl, hb, hr⟩
  · exact .inl h1
  · rcases h2.2 with ⟨h1, _⟩ | ⟨g', cap', cur', h1, hb', _⟩
    · cases h1
    · cases h1; exact .inr ⟨g, cap, cur, rfl, hb', hr⟩
theorem below_keep {W5 w' wr : World} {B n0 : Nat} {e : TypeId} {size n : Nat} {v : Value} {xs : List Value} {w : World} (h : Below w.heap.size w wr) (hr : wr.ownsRow B e size v n xs) (hB : w.heap.size ≤ B) (hk : Keep (fun k => v.ownBlock = some k) wr w') : Below w.heap.size w w' := by
  refine ⟨hk.os.trans h.os, hk.tape.trans h.tape, hk.output.trans h.output, Nat.le_trans h.size hk.size, fun k hlt => ?_⟩
  have h1 := h.size
  rw [hk.block k (by omega) (fun he => ?_)]
  · exact h.block k hlt
  · rcases hr.2 with ⟨rfl, _⟩ | ⟨g, cap, cur, rfl, hb, _⟩
    · cases he
    · simp only [Value.ownBlock, Option.some.injEq] at he; omega
theorem infoI : (P.info? 3).map (fun i => (i.zero, i.size, i.bytes)) = some (some (.int .i64 0), 1, 8) := by kernel_rfl
set_option maxHeartbeats 2000000 in
theorem near_run {t : List SVtx} {p : Int} {Z : Zs} {w : World} {A0 : Option Addr} {c0 : Nat} (ht : t.length ≤ 1000) (hin : inP t p) (hz : ∀ b o, Z b o → b < w.heap.size) (hD : DR Z w (encT t) (.slice A0 t.length c0)) :
    Calls P 45 #[.slice A0 t.length c0, .int .i64 p] w fun e w' => ∃ v : Value, e = .returned v ∧ w'.ownsRow w.heap.size 3 1 v (others p (procN t)).length ((sorted (procN t) p t).map (Value.int .i64)) ∧ Below w.heap.size w w' := by
  have hN := procN_of hin.valid
  have h32 := procN_le t
  obtain ⟨hp0, hp1⟩ := hin
  have hin : inP t p := ⟨hp0, hp1⟩
  have HPROC : Aside0 (∀ W, Below w.heap.size w W → Calls P 47 #[.slice A0 t.length c0, .int .i64 p] W fun e w' => e = .returned (.int .i64 (vx t p : Int)) ∧ Below W.heap.size W w') := ⟨fun W hB => by
    have h := (proc_g low0 t p ht).pcI okx0 rfl rfl
    rw [if_pos hin] at h
    exact pcI_at h hz rfl (fun i hi => match i, hi with
      | 0, _ => hD
      | 1, _ => .v _ rfl) hB⟩
  have HPROCS : Aside0 (∀ W, Below w.heap.size w W → Calls P 71 #[.slice A0 t.length c0] W fun e w' => (∃ A c, e = .returned (.slice A (procN t) c)) ∧ Below W.heap.size W w') := ⟨fun W hB => by
    obtain ⟨o, h⟩ := (procs_g low0 t ht).pcS okx0 rfl rfl
    have h2 := len_at h hz rfl (vs := #[.slice A0 t.length c0]) (fun i hi => match i, hi with | 0, _ => hD) hB
    rw [List.length_map, ← hN] at h2
    exact h2⟩
  have HK := Aside0.mk (And.intro hp0 (And.intro hp1 h32))
  have HZD := Aside0.mk (And.intro hz hD)
  clear hz hD hp0 hp1 h32 hN hin
  have hneg' : decide ((vx t p : Int) < 0) = false := decide_eq_false (by omega)
  generalize (vx t p : Int) = v at *
  have Hb1 : Below w.heap.size w ((w.alloc (.cells #[.slice A0 t.length c0] 22)).alloc (.cells #[.int .i64 p] 3)) := below_alloc' (below_alloc' (Below.refl _ _) _) _
  have HT1 := Aside0.mk (show ((w.alloc (.cells #[.slice A0 t.length c0] 22)).alloc (.cells #[.int .i64 p] 3)).cell? ⟨w.heap.size, 0, none⟩ = some (.slice A0 t.length c0) by simp)
  have HP1 := Aside0.mk (show ((w.alloc (.cells #[.slice A0 t.length c0] 22)).alloc (.cells #[.int .i64 p] 3)).cell? ⟨w.heap.size + 1, 0, none⟩ = some (.int .i64 p) by simp)
  go_enter Try.func45, Try.ntmps45
  go_wp2_with (first | (go_at_call 47; (with_reducible refine (HPROC.out _ Hb1).mono ?_); rintro e w3 ⟨rfl, hb⟩; have HB := Aside0.mk (below_step' Hb1 hb); have ct3 := cell_below' hb HT1.out; have cp3 := cell_below' hb HP1.out; clear hb HT1 HP1 Hb1) | (go_at_call 71; (with_reducible refine (HPROCS.out _ HB.out).mono ?_); rintro e w4 ⟨⟨A4, c4, rfl⟩, hb⟩; have HB4 := Aside0.mk (below_step' HB.out hb); have ct4 := cell_below' hb ct3; have cp4 := cell_below' hb cp3; clear hb ct3 cp3))
  have z1 : w.heap.size < w4.heap.size := World.block_lt_of_cell? w4 _ ct4
  have z2 : w.heap.size + 1 < w4.heap.size := World.block_lt_of_cell? w4 _ cp4
  have ct5 : (w4.alloc (.cells #[.int .i64 (procN t : Int)] 3)).cell? ⟨w.heap.size, 0, none⟩ = some (.slice A0 t.length c0) := cell_below' (below_alloc' (Below.refl _ _) _) ct4
  have cp5 : (w4.alloc (.cells #[.int .i64 (procN t : Int)] 3)).cell? ⟨w.heap.size + 1, 0, none⟩ = some (.int .i64 p) := cell_below' (below_alloc' (Below.refl _ _) _) cp4
  have cn5 : (w4.alloc (.cells #[.int .i64 (procN t : Int)] 3)).cell? ⟨w4.heap.size, 0, none⟩ = some (.int .i64 (procN t : Int)) := by simp
  have hz5 : (w4.alloc (.cells #[.int .i64 (procN t : Int)] 3)).heap.size = w4.heap.size + 1 := by simp
  have HB5 := Aside0.mk (below_alloc' HB4.out (.cells #[.int .i64 (procN t : Int)] 3))
  clear HB4 ct4 cp4 HB
  generalize w4.alloc (.cells #[.int .i64 (procN t : Int)] 3) = W5 at ct5 cp5 cn5 hz5 HB5 ⊢
  generalize w4.heap.size = b4 at z1 z2 cn5 hz5 ⊢
  have HT := Aside0.mk ct5
  have HN := Aside0.mk cn5
  have HPc := Aside0.mk cp5
  have Z5 := Aside0.mk (And.intro z1 (And.intro z2 hz5))
  clear ct5 cn5 cp5 z1 z2 hz5 HPROC HPROCS
  have HQ : Aside0 (∃ n, n = procN t) := ⟨_, rfl⟩
  go_loopg [6, 7, 16] (procN t + 1) (fun kq v6 v7 v16 w' => ∃ i : Nat, v16 = .int .i64 (i : Int) ∧ Aside0 (i + kq = procN t + 1 ∧ 1 ≤ kq) ∧ Aside0 (w'.ownsRow (b4 + 1) 3 1 v6 (others p i).length ((others p i).map (Value.int .i64))) ∧ Aside0 (Below (b4 + 1) W5 w'))
  case atStart => exact ⟨0, rfl, ⟨by omega, by omega⟩, ⟨⟨rfl, .inl ⟨rfl, rfl⟩⟩⟩, ⟨Below.refl _ _⟩⟩
  case round =>
    obtain ⟨i, rfl, HA, HO, HBw⟩ := hrel
    cases gk with
    | zero => exact absurd HA.out.2 (by omega)
    | succ k1 =>
      have cpw : wr.cell? ⟨w.heap.size + 1, 0, none⟩ = some (.int .i64 p) := (HBw.out.cell (p := ⟨w.heap.size + 1, 0, none⟩) (by show w.heap.size + 1 < b4 + 1; have := Z5.out.2.1; omega)).trans HPc.out
      by_cases hin : i < procN t
      · have hnext : Value.int .i64 (Go.RowKit.wrap64 ((i : Int) + 1)) = Value.int .i64 ((i + 1 : Nat) : Int) := by rw [show Go.RowKit.wrap64 ((i : Int) + 1) = ((i + 1 : Nat) : Int) by have := HK.out; unfold Go.RowKit.wrap64; omega]
        have c1 : decide ((i : Int) < (procN t : Int)) = true := decide_eq_true (by omega)
        by_cases hne : (i : Int) = p
        · have c2 : ((i : Int) != p) = false := bne_eq_false_iff_eq.mpr hne
          go_wp2
          go_roundg k1
          case measure => have := HA.out; omega
          case rel => exact ⟨i + 1, by first | exact hnext | (rw [← hne]; exact hnext), ⟨by have := HA.out; omega, by have := HA.out; omega⟩, ⟨by rw [others, if_neg (by omega)]; exact HO.out⟩, HBw⟩
        · have c2 : ((i : Int) != p) = true := bne_iff_ne.mpr hne
          obtain ⟨ii, hi0, hi1, hi2, hi3⟩ := info_parts infoI
          have HO1 : Aside0 (∀ b, (wr.alloc (.cells #[.int .i64 b] 3)).ownsRow (b4 + 1) 3 1 u6 (others p i).length ((others p i).map (Value.int .i64))) := ⟨fun b => HO.out.alloc _⟩
          have HN1 : Aside0 (∀ j u, ([.int .i64 (i : Int)] : List Value)[j]? = some u → (wr.alloc (.cells #[.int .i64 (i : Int)] 3)).cell? ((⟨wr.heap.size, 0, none⟩ : Addr).add j) = some u) := ⟨fun j u hj => by
            obtain ⟨hj0, rfl⟩ := List.getElem?_eq_some_iff.1 hj
            obtain rfl : j = 0 := by simpa using hj0
            simp [Addr.add]⟩
          have HU1 : Aside0 (∀ u ∈ ([.int .i64 (i : Int)] : List Value), u.oneCell' = true) := ⟨fun u hu => by simp at hu; subst hu; rfl⟩
          have HM1 : Aside0 ((others p i).length + 1 ≤ maxLen ∧ ((others p i).length + 1) * 8 ≤ 140737488355328 ∧ b4 + 1 ≤ (wr.alloc (.cells #[.int .i64 (i : Int)] 3)).heap.size) := ⟨by
            have h1 := @others_len p i
            have h2 := HBw.out.size
            have h3 := Z5.out
            have h4 := HK.out
            refine ⟨by simp only [maxLen]; omega, by omega, by simp; omega⟩⟩
          go_wp2_with (first | ((with_reducible refine gate_builtin (b := .append) (xs := #[.tmp 22, .tmp 24]) rfl ?_); at_builtin; refine wpList_append_own _ rfl (.tmp 22) (.tmp 24) 48 rfl (b4 + 1) 3 ii (.int .i64 0) 1 8 Try.underlying48 hi0 hi1 hi2 hi3 rfl (by decide) u6 (others p i).length ((others p i).map (Value.int .i64)) rfl (HO1.out _) ⟨wr.heap.size, 0, none⟩ 1 1 [.int .i64 (i : Int)] rfl rfl ?aN ?aU ?aM ?aL ?aS ?_; (case aN => exact HN1.out); (case aU => exact HU1.out); (case aM => exact HM1.out.1); (case aL => exact HM1.out.2.1); (case aS => exact HM1.out.2.2); intro v103 w8 ho hg hat; have HO2 := Aside0.mk ho; have HG2 := Aside0.mk hg; clear ho hg hat))
          go_roundg k1
          case measure => have := HA.out; omega
          case rel => exact ⟨i + 1, hnext, ⟨by have := HA.out; omega, by have := HA.out; omega⟩, ⟨by have := HO2.out; rw [others, if_pos hne, List.map_append, List.length_append]; exact this⟩, ⟨below_grown' HBw.out (by have := Z5.out; omega) HO.out HG2.out⟩⟩
      · have c1 : decide ((i : Int) < (procN t : Int)) = false := decide_eq_false (by omega)
        have hi : i = procN t := by have := HA.out; omega
        subst hi
        have hBW : Below w.heap.size w wr := HB5.out.trans (HBw.out.mono (by have := Z5.out; omega))
        have HS := Aside0.mk (sort_run (Z := Z) (W := wr) (bt := w.heap.size) (bp := w.heap.size + 1) (bn := b4) (v := u6) ht ⟨HK.out.1, HK.out.2.1⟩ (by have := HK.out; omega) (fun b o h => Nat.lt_of_lt_of_le (HZD.out.1 b o h) hBW.size) (DR.under HZD.out.1 HZD.out.2 hBW)
          ((HBw.out.cell (p := ⟨w.heap.size, 0, none⟩) (by show w.heap.size < b4 + 1; have := Z5.out; omega)).trans HT.out) cpw ((HBw.out.cell (p := ⟨b4, 0, none⟩) (by show b4 < b4 + 1; omega)).trans HN.out) (own_low HO.out (Nat.zero_le _))
          (fun g c k hv hk => by
            have hg : b4 + 1 ≤ g := by
              rcases HO.out.2 with ⟨h, h2⟩ | ⟨g', cap, cur, h, h2, _⟩
              · rw [hv] at h; cases h
              · rw [hv] at h; cases h; exact h2
            have := Z5.out
            exact ⟨fun o h => by have := HZD.out.1 g o h; omega, by omega, by omega, by omega⟩))
        have HBW := Aside0.mk hBW
        clear hBW
        go_wp2_with (go_at_call 73; (with_reducible refine (HS.out).mono ?_); rintro e w' ⟨rfl, hR, hb⟩; have HR9 := Aside0.mk hR; have HB9 := Aside0.mk hb; clear hR hb)
        go_ret
        refine ⟨_, rfl, ?_, ?_⟩
        · exact own_low (own_base HR9.out HO.out) (by have := Z5.out; omega)
        · exact below_keep (W5 := W5) (n0 := 0) HBW.out HO.out (by have := Z5.out; omega) HB9.out
theorem near_no {t : List SVtx} {p : Int} (ht : t.length ≤ 1000) (hin : ¬ inP t p) (S : Obs) : Gs P X0 45 [encT t, I p] S fun r S' => r = .sl .nil [] ∧ S' = S ++ [.var false [encT t], .var false [I p]] := by
  refine gs_of (X := X0) (rw := false) (kf := true) ⟨rfl, rfl, rfl, rfl⟩ fun45 rfl ?_
  simp +decide only [Try.f45, encT, go_sem, Nat.reduceAdd, List.append_assoc, List.length_append]
  refine WO_call rfl rfl rfl rfl rfl (proc_g low0 t p ht) ?_
  rw [if_neg hin]
  simp +decide only [go_sem]
  exact ⟨_, rfl, rfl⟩
def decV : AV → Option SVtx
  | .agg [.v (.int .i64 a), .v (.int .i64 b)] => some ⟨a, b⟩
  | _ => none
def decT : List AV → Option (List SVtx)
  | [] => some []
  | a :: l => match decV a, decT l with
    | some x, some t => some (x :: t)
    | _, _ => none
theorem decV_ok {a : AV} {x : SVtx} (h : decV a = some x) : a = encV x := by
  unfold decV at h
  split at h
  · cases h; rfl
  · cases h
theorem decT_ok : ∀ {l : List AV} {t : List SVtx}, decT l = some t → l = t.map encV
  | [], t, h => by cases h; rfl
  | a :: l, t, h => by
    unfold decT at h
    split at h
    · rename_i x t' h1 h2
      cases h
      rw [decV_ok h1, decT_ok h2]; rfl
    · cases h
theorem decT_enc : ∀ t : List SVtx, decT (t.map encV) = some t
  | [] => rfl
  | x :: t => by rw [List.map_cons, decT, decT_enc t]; rfl
/-- dist.Near: a new row, where there is anybody. -/
def nearR (t : List SVtx) (p : Int) (S : Obs) : AV × Obs :=
  if inP t p then (if nearOf t p = [] then (.sl .no [], S) else (.ms S.length 0 (nearOf t p).length, S ++ [.row true 0 1 3 ((nearOf t p).map I)]))
  else (.sl .nil [], S ++ [.var false [encT t], .var false [I p]])
def nearG : List AV → Obs → Option (AV × Obs)
  | [.sl _ l, .v (.int .i64 p)], S => match decT l with
    | some t => if t.length ≤ 1000 then some (nearR t p S) else none
    | none => none
  | _, _ => none
theorem near_fc {t : List SVtx} {p : Int} {o : Tok} (ht : t.length ≤ 1000) (S : Obs) : FC P 45 [.sl o (t.map encV), I p] S (nearR t p S).1 (nearR t p S).2 := by
  by_cases hin : inP t p
  · intro w0 Z0 M0 Z β w vs E hl hR
    obtain ⟨v0, v1, rfl⟩ : ∃ a b, vs = #[a, b] := by
      obtain ⟨l⟩ := vs
      match l, hl with
      | [a, b], _ => exact ⟨a, b, rfl⟩
    have h0 : DR Z w (encT t) v0 := (show R3 Z β [] [] w P (.sl o (t.map encV)) v0 from hR 0 (by simp)).1.tok
    obtain ⟨rfl, _⟩ := (show R3 Z β [] [] w P (I p) v1 from hR 1 (by simp)).v_inv
    obtain ⟨A0, c0, rfl⟩ : ∃ A c, v0 = .slice A t.length c := by
      rcases h0.sl_inv with ⟨h, A, c, rfl, _⟩ | ⟨b, q, c, k, xs, rfl, _⟩
      · have : t.length = 0 := by simpa using congrArg List.length h
        rw [this]; exact ⟨A, c, rfl⟩
      · exact ⟨_, c, by rw [List.length_map]⟩
    refine (near_run ht hin E.zs h0).mono ?_
    rintro e w' ⟨v, rfl, hrow, hB⟩
    have hs : sorted (procN t) p t = nearOf t p := sorted_near hin
    have hlen : (others p (procN t)).length = (nearOf t p).length := by rw [← hs]; simp [sorted]
    rw [hs, hlen] at hrow
    have G : Grow w w' := ⟨hB.os, hB.tape, hB.output, hB.size, fun k hk _ => hB.block k hk⟩
    by_cases hn : nearOf t p = []
    · rw [nearR, if_pos hin, if_pos hn]
      obtain ⟨E', X'⟩ := E.grow (Z' := Z) G (fun _ _ h => h) (fun _ _ h => .inl h) (fun b q h => Nat.lt_of_lt_of_le (E.zs b q h) G.size)
      refine ⟨v, Z, β, rfl, E', X', ?_⟩
      rw [hn] at hrow
      rcases hrow.2 with ⟨rfl, _⟩ | ⟨g, cap, cur, rfl, _⟩
      · exact ⟨.nil _ none 0 (fun _ => rfl), trivial⟩
      · exact ⟨.nil _ _ cap (fun h => by cases h), trivial⟩
    · rw [nearR, if_pos hin, if_neg hn]
      rcases hrow.2 with ⟨_, h⟩ | ⟨g, cap, cur, rfl, hb, hg, hn1, hm, hsz, htk⟩
      · exact absurd (List.eq_nil_of_length_eq_zero h) hn
      · have hgl := lt_of_heap hg
        obtain ⟨E', X'⟩ := E.new' (o := .row true 0 1 3 ((nearOf t p).map I)) (bk := ⟨g, 0, cap, 1⟩) G ⟨hb, hgl⟩ (fun X => by
          refine ⟨rfl, rfl, by decide, ty3.1, by simpa using hn1, hm, fun x hx => ?_, fun _ => ?_, cur, hg, by simpa using hsz, fun i j hi hj => ?_⟩
          · obtain ⟨y, _, rfl⟩ := List.mem_map.1 hx; rfl
          · rw [List.all_map]; exact List.all_eq_true.mpr fun _ _ => rfl
          · have hi' : i < (nearOf t p).length := by simpa using hi
            obtain rfl : j = 0 := by omega
            have h2 : (cur.toList.take ((nearOf t p).length * 1))[i]? = some (.int .i64 ((nearOf t p).getD i 0)) := by
              rw [htk]; simp [List.getD_eq_getElem?_getD, hi']
            rw [List.getElem?_take, if_pos (by omega)] at h2
            have h3 : cur.getD (i * 1 + 0) undef = .int .i64 ((nearOf t p).getD i 0) := by
              rw [← getD_toList]; simp [List.getD_eq_getElem?_getD, h2]
            have e : (((nearOf t p).map I).getD i .dead) = I ((nearOf t p).getD i 0) := by simp [List.getD_eq_getElem?_getD, hi']
            rw [h3, e]
            exact DR.v _ rfl)
        refine ⟨_, Z, _, rfl, E', X', ⟨⟨g, 0, cap, 1⟩, _, cap, ?_, Nat.le_refl _, rfl, hn1, (fun h => by cases h), fun _ => ⟨rfl, rfl⟩⟩⟩
        rw [← E.bl, List.getElem?_append_right (Nat.le_refl _)]; simp
  · rw [nearR, if_neg hin]
    obtain ⟨k, r, S', h1, h2, h3⟩ := near_no ht hin S
    subst h2 h3
    have h4 := (evB_sound okx0 (h1 k (Nat.le_refl _))).2
    intro w0 Z0 M0 Z β w vs E hl hR
    refine h4 w0 Z0 M0 Z β w vs E hl (fun i hi => ?_)
    match i, hi with
    | 0, _ =>
      have := (show R3 Z β [] [] w P (.sl o (t.map encV)) (vs.getD 0 undef) from hR 0 (by simp)).1
      exact ⟨this.tok, trivial⟩
    | 1, _ => exact hR 1 (by simp)
end Go.Proofs.Ytplpmelpoajpdaa.Ev
namespace Go.Proofs.Ytplpmelpoajpdaa.Ev
open Go Go.Proofs
set_option linter.unusedVariables false
set_option linter.unusedSimpArgs false
set_option maxRecDepth 100000
/-- A copy: where there is nothing, there is nothing behind it. -/
def cloneG (k b : Nat) (e : TypeId) : List AV → Obs → Option (AV × Obs)
  | [.sl _ l], S => if l = [] then some (.sl .full [], S) else if uni k l = true ∧ l.all d2 = true ∧ l.length * b ≤ 140737488355328 ∧ l.length ≤ maxLen then some (.ms S.length 0 l.length, S ++ [.row true 0 k e (l.map s2)]) else none
  | _, _ => none
theorem clone_ok {f : FuncId} {k b : Nat} {e : TypeId} (h1 : ∀ S, Gs P X0 f [.sl .nil []] S fun r S' => r = .sl .nil [] ∧ S' = S) (h2 : ∀ S, Gs P X0 f [.sl .sm []] S fun r S' => r = .sl .full [] ∧ S' = S)
    (h3 : ∀ o l S, l ≠ [] → uni k l = true ∧ l.all d2 = true ∧ l.length * b ≤ 140737488355328 ∧ l.length ≤ maxLen → Gs P X0 f [.sl o l] S fun r S' => r = .ms S.length 0 l.length ∧ S' = S ++ [.row true 0 k e (l.map s2)]) :
    ∀ a S r S', cloneG k b e a S = some (r, S') → Fun P f ∧ FC P f a S r S' := by
  intro a S r S' h
  unfold cloneG at h
  split at h
  case h_2 => cases h
  rename_i x2 o l
  split at h
  · rename_i hl
    subst hl
    simp only [Option.some.injEq, Prod.mk.injEq] at h
    obtain ⟨rfl, rfl⟩ := h
    obtain ⟨n1, r1, S1, e1, rfl, rfl⟩ := h1 S
    obtain ⟨n2, r2, S2, e2, rfl, e3⟩ := h2 S1
    have f1 := evB_sound okx0 (e1 n1 (Nat.le_refl _))
    have f2 := evB_sound okx0 (e2 n2 (Nat.le_refl _))
    rw [e3] at f2
    refine ⟨f1.1, fun w0 Z0 M0 Z β w vs E hl hR => ?_⟩
    obtain ⟨v0, rfl⟩ : ∃ a, vs = #[a] := by
      obtain ⟨l⟩ := vs
      match l, hl with
      | [a], _ => exact ⟨a, rfl⟩
    have h0 : DR Z w (.sl o []) v0 := (show R3 Z β [] [] w P (.sl o []) v0 from hR 0 (by simp)).1
    have one : ∀ y, R3 Z β [] [] w P y v0 → ∀ i, i < [y].length → R3 Z β [] [] w P ([y].getD i .dead) ((#[v0] : Array Value).getD i undef) := fun y hy i hi => by
      obtain rfl : i = 0 := by simpa using hi
      exact hy
    rcases h0.sl_inv with ⟨_, A, c, rfl, hA⟩ | ⟨b, p, c, k, xs, rfl, _⟩
    · cases A with
      | none =>
        obtain rfl := hA rfl
        refine (f1.2 w0 Z0 M0 Z β w _ E rfl (one (.sl .nil []) ⟨.nil _ _ _ (fun _ => rfl), rfl⟩)).mono ?_
        rintro e w' ⟨v, Z', β', rfl, E', X', hv⟩
        have hvn : v = .slice none 0 0 := (show R3 Z' β' [] [] w' P (.sl .nil []) v from hv).2
        subst hvn
        exact ⟨_, Z', β', rfl, E', X', .nil _ _ _ (fun _ => rfl), none, rfl⟩
      | some a => exact f2.2 w0 Z0 M0 Z β w _ E rfl (one (.sl .sm []) ⟨.nil _ _ _ (fun h => by cases h), a, 0, c, rfl⟩)
    · exact f2.2 w0 Z0 M0 Z β w _ E rfl (one (.sl .sm []) ⟨h0.tok, _, _, _, rfl⟩)
  · rename_i hl
    split at h
    case isFalse => cases h
    rename_i hc
    simp only [Option.some.injEq, Prod.mk.injEq] at h
    obtain ⟨rfl, rfl⟩ := h
    obtain ⟨n1, r1, S1, e1, rfl, rfl⟩ := h3 o l S hl hc
    exact evB_sound okx0 (e1 n1 (Nat.le_refl _))
theorem clone69_ok : ∀ a S r S', cloneG 2 16 61 a S = some (r, S') → Fun P 69 ∧ FC P 69 a S r S' := by
  refine clone_ok (fun S => ?_) (fun S => ?_) (fun o l S hl hc => ?_)
  · refine gs_of (X := X0) (rw := true) (kf := true) ⟨rfl, rfl, rfl, rfl⟩ fun69 rfl ?_
    simp +decide only [Try.f69, go_sem, rwO, lit, usesT, appsT, isT, Nat.reduceBEq, List.any_cons, List.any_nil, Option.isSome_some]
    exact ⟨_, rfl, rfl⟩
  · refine gs_of (X := X0) (rw := true) (kf := true) ⟨rfl, rfl, rfl, rfl⟩ fun69 rfl ?_
    simp +decide only [Try.f69, go_sem, rwO, lit, usesT, appsT, isT, Nat.reduceBEq, List.any_cons, List.any_nil, Option.isSome_some, appX, appR, srcL, uni, maxLen]
    exact ⟨_, rfl, rfl⟩
  · refine gs_of (X := X0) (rw := true) (kf := true) ⟨rfl, rfl, rfl, rfl⟩ fun69 rfl ?_
    obtain ⟨h1, h2, h3, h4⟩ := hc
    obtain ⟨y, l, rfl⟩ := List.exists_cons_of_ne_nil hl
    have h5 : (0 + (y :: l).length) * 16 ≤ 140737488355328 := by rw [Nat.zero_add]; exact h3
    have h6 : 0 + (y :: l).length ≤ maxLen := by rw [Nat.zero_add]; exact h4
    have happ : ∀ S, appX P true 22 (.sl .full []) (.sl o (y :: l)) S [] = some (.ms S.length 0 (y :: l).length, S ++ [.row true 0 2 61 ((y :: l).map s2)], []) := fun S => by
      have h7 : uni 2 [] = true := rfl
      simp only [appX, appR, srcL, ty22, ty61, h1, h2, h5, h6, h7, List.all_nil, List.length_nil, List.nil_append, if_true, and_self, or_true, Option.map_some]
      simp +decide only [if_true, Nat.zero_add, Option.map_some]
    simp +decide only [Try.f69, go_sem, rwO, lit, usesT, appsT, isT, Nat.reduceBEq, List.any_cons, List.any_nil, Option.isSome_some, happ]
    exact ⟨_, rfl, rfl⟩
theorem clone85_ok : ∀ a S r S', cloneG 2 32 56 a S = some (r, S') → Fun P 85 ∧ FC P 85 a S r S' := by
  refine clone_ok (fun S => ?_) (fun S => ?_) (fun o l S hl hc => ?_)
  · refine gs_of (X := X0) (rw := true) (kf := true) ⟨rfl, rfl, rfl, rfl⟩ fun85 rfl ?_
    simp +decide only [Try.f85, go_sem, rwO, lit, usesT, appsT, isT, Nat.reduceBEq, List.any_cons, List.any_nil, Option.isSome_some]
    exact ⟨_, rfl, rfl⟩
  · refine gs_of (X := X0) (rw := true) (kf := true) ⟨rfl, rfl, rfl, rfl⟩ fun85 rfl ?_
    simp +decide only [Try.f85, go_sem, rwO, lit, usesT, appsT, isT, Nat.reduceBEq, List.any_cons, List.any_nil, Option.isSome_some, appX, appR, srcL, uni, maxLen]
    exact ⟨_, rfl, rfl⟩
  · refine gs_of (X := X0) (rw := true) (kf := true) ⟨rfl, rfl, rfl, rfl⟩ fun85 rfl ?_
    obtain ⟨h1, h2, h3, h4⟩ := hc
    obtain ⟨y, l, rfl⟩ := List.exists_cons_of_ne_nil hl
    have h5 : (0 + (y :: l).length) * 32 ≤ 140737488355328 := by rw [Nat.zero_add]; exact h3
    have h6 : 0 + (y :: l).length ≤ maxLen := by rw [Nat.zero_add]; exact h4
    have happ : ∀ S, appX P true 30 (.sl .full []) (.sl o (y :: l)) S [] = some (.ms S.length 0 (y :: l).length, S ++ [.row true 0 2 56 ((y :: l).map s2)], []) := fun S => by
      have h7 : uni 2 [] = true := rfl
      simp only [appX, appR, srcL, ty30, ty56, h1, h2, h5, h6, h7, List.all_nil, List.length_nil, List.nil_append, if_true, and_self, or_true, Option.map_some]
      simp +decide only [if_true, Nat.zero_add, Option.map_some]
    simp +decide only [Try.f85, go_sem, rwO, lit, usesT, appsT, isT, Nat.reduceBEq, List.any_cons, List.any_nil, Option.isSome_some, happ]
    exact ⟨_, rfl, rfl⟩
theorem clone86_ok : ∀ a S r S', cloneG 1 24 48 a S = some (r, S') → Fun P 86 ∧ FC P 86 a S r S' := by
  refine clone_ok (fun S => ?_) (fun S => ?_) (fun o l S hl hc => ?_)
  · refine gs_of (X := X0) (rw := true) (kf := true) ⟨rfl, rfl, rfl, rfl⟩ fun86 rfl ?_
    simp +decide only [Try.f86, go_sem, rwO, lit, usesT, appsT, isT, Nat.reduceBEq, List.any_cons, List.any_nil, Option.isSome_some]
    exact ⟨_, rfl, rfl⟩
  · refine gs_of (X := X0) (rw := true) (kf := true) ⟨rfl, rfl, rfl, rfl⟩ fun86 rfl ?_
    simp +decide only [Try.f86, go_sem, rwO, lit, usesT, appsT, isT, Nat.reduceBEq, List.any_cons, List.any_nil, Option.isSome_some, appX, appR, srcL, uni, maxLen]
    exact ⟨_, rfl, rfl⟩
  · refine gs_of (X := X0) (rw := true) (kf := true) ⟨rfl, rfl, rfl, rfl⟩ fun86 rfl ?_
    obtain ⟨h1, h2, h3, h4⟩ := hc
    obtain ⟨y, l, rfl⟩ := List.exists_cons_of_ne_nil hl
    have h5 : (0 + (y :: l).length) * 24 ≤ 140737488355328 := by rw [Nat.zero_add]; exact h3
    have h6 : 0 + (y :: l).length ≤ maxLen := by rw [Nat.zero_add]; exact h4
    have happ : ∀ S, appX P true 24 (.sl .full []) (.sl o (y :: l)) S [] = some (.ms S.length 0 (y :: l).length, S ++ [.row true 0 1 48 ((y :: l).map s2)], []) := fun S => by
      have h7 : uni 1 [] = true := rfl
      simp only [appX, appR, srcL, ty24, ty48, h1, h2, h5, h6, h7, List.all_nil, List.length_nil, List.nil_append, if_true, and_self, or_true, Option.map_some]
      simp +decide only [if_true, Nat.zero_add, Option.map_some]
    simp +decide only [Try.f86, go_sem, rwO, lit, usesT, appsT, isT, Nat.reduceBEq, List.any_cons, List.any_nil, Option.isSome_some, happ]
    exact ⟨_, rfl, rfl⟩
theorem clone88_ok : ∀ a S r S', cloneG 1 8 3 a S = some (r, S') → Fun P 88 ∧ FC P 88 a S r S' := by
  refine clone_ok (fun S => ?_) (fun S => ?_) (fun o l S hl hc => ?_)
  · refine gs_of (X := X0) (rw := true) (kf := true) ⟨rfl, rfl, rfl, rfl⟩ fun88 rfl ?_
    simp +decide only [Try.f88, go_sem, rwO, lit, usesT, appsT, isT, Nat.reduceBEq, List.any_cons, List.any_nil, Option.isSome_some]
    exact ⟨_, rfl, rfl⟩
  · refine gs_of (X := X0) (rw := true) (kf := true) ⟨rfl, rfl, rfl, rfl⟩ fun88 rfl ?_
    simp +decide only [Try.f88, go_sem, rwO, lit, usesT, appsT, isT, Nat.reduceBEq, List.any_cons, List.any_nil, Option.isSome_some, appX, appR, srcL, uni, maxLen]
    exact ⟨_, rfl, rfl⟩
  · refine gs_of (X := X0) (rw := true) (kf := true) ⟨rfl, rfl, rfl, rfl⟩ fun88 rfl ?_
    obtain ⟨h1, h2, h3, h4⟩ := hc
    obtain ⟨y, l, rfl⟩ := List.exists_cons_of_ne_nil hl
    have h5 : (0 + (y :: l).length) * 8 ≤ 140737488355328 := by rw [Nat.zero_add]; exact h3
    have h6 : 0 + (y :: l).length ≤ maxLen := by rw [Nat.zero_add]; exact h4
    have happ : ∀ S, appX P true 48 (.sl .full []) (.sl o (y :: l)) S [] = some (.ms S.length 0 (y :: l).length, S ++ [.row true 0 1 3 ((y :: l).map s2)], []) := fun S => by
      have h7 : uni 1 [] = true := rfl
      simp only [appX, appR, srcL, ty48, ty3, h1, h2, h5, h6, h7, List.all_nil, List.length_nil, List.nil_append, if_true, and_self, or_true, Option.map_some]
      simp +decide only [if_true, Nat.zero_add, Option.map_some]
    simp +decide only [Try.f88, go_sem, rwO, lit, usesT, appsT, isT, Nat.reduceBEq, List.any_cons, List.any_nil, Option.isSome_some, happ]
    exact ⟨_, rfl, rfl⟩
/-- Which functions copy, and what. -/
def cloneP (f : FuncId) : Option (List AV → Obs → Option (AV × Obs)) :=
  if f = 69 then some (cloneG 2 16 61) else
  if f = 85 then some (cloneG 2 32 56) else
  if f = 86 then some (cloneG 1 24 48) else
  if f = 88 then some (cloneG 1 8 3) else
  none
theorem cloneP_ok : ∀ f g a S r S', cloneP f = some g → g a S = some (r, S') → Fun P f ∧ FC P f a S r S' := by
  intro f g a S r S' h hg
  unfold cloneP at h
  by_cases h69 : f = 69
  · subst h69; cases h; exact clone69_ok a S r S' hg
  rw [if_neg h69] at h
  by_cases h85 : f = 85
  · subst h85; cases h; exact clone85_ok a S r S' hg
  rw [if_neg h85] at h
  by_cases h86 : f = 86
  · subst h86; cases h; exact clone86_ok a S r S' hg
  rw [if_neg h86] at h
  by_cases h88 : f = 88
  · subst h88; cases h; exact clone88_ok a S r S' hg
  rw [if_neg h88] at h
  cases h
end Go.Proofs.Ytplpmelpoajpdaa.Ev
namespace Go.Proofs
open Go.Shelf
def Try.growL_ren : Go.Shelf.Ren := ⟨fun | 4 => 103 | n => n, fun | 22 => 48 | 25 => 3 | 3 => 3 | 4 => 4 | 9 => 9 | 20 => 20 | 0 => 0 | n => n, fun | n => n⟩
theorem Try.growL : Go.Proofs.Lays8.n4 Try.prog Try.growL_ren := {
  mixed := by kernel_rfl
  f4 := ⟨Try.f103.name, by decide, Try.func103.trans (congrArg some (by kernel_rfl))⟩
  t0 := Try.underlying0
  a0 := Try.isAgg0
  z0 := Try.sizeOf0
  v0 := Try.zeroValue0
  t3 := Try.underlying3
  a3 := Try.isAgg3
  z3 := Try.sizeOf3
  v3 := Try.zeroValue3
  t4 := Try.underlying4
  a4 := Try.isAgg4
  z4 := Try.sizeOf4
  v4 := Try.zeroValue4
  t9 := Try.underlying9
  a9 := Try.isAgg9
  z9 := Try.sizeOf9
  v9 := Try.zeroValue9
  t20 := Try.underlying20
  a20 := Try.isAgg20
  z20 := Try.sizeOf20
  v20 := Try.zeroValue20
  t22 := Try.underlying48
  a22 := Try.isAgg48
  z22 := Try.sizeOf48
  v22 := Try.zeroValue48 }
end Go.Proofs
namespace Go.Proofs.Ytplpmelpoajpdaa.Ev
open Go Go.Proofs
set_option linter.unusedVariables false
set_option linter.unusedSimpArgs false
set_option maxRecDepth 100000
def growG : List AV → Obs → Option (AV × Obs)
  | [.sl .nil [], .v (.int .i64 n)], S => if n = 0 then some (.sl .nil [], S) else if 0 < n ∧ n ≤ 1000000 then some (.ms S.length 0 0, S ++ [.row true 0 1 3 []]) else none
  | _, _ => none
theorem fun_of {f : FuncId} {fn : Func} (h : P.funcs[f]? = some fn) (hn : fn.name ≠ "runtime.NumGoroutine") (hb : fn.body.isSome = true) : Fun P f := ⟨fn, h, hn, hb⟩
theorem growG_ok : ∀ a S r S', growG a S = some (r, S') → Fun P 103 ∧ FC P 103 a S r S' := by
  intro a S r S' h
  refine ⟨⟨_, Try.func103, by decide, rfl⟩, ?_⟩
  unfold growG at h
  split at h
  case h_2 => cases h
  rename_i x2 n
  intro w0 Z0 M0 Z β w vs E hl hR
  obtain ⟨v0, v1, rfl⟩ : ∃ a b, vs = #[a, b] := by
    obtain ⟨l⟩ := vs
    match l, hl with
    | [a, b], _ => exact ⟨a, b, rfl⟩
  have h0 : v0 = .slice none 0 0 := (show R3 Z β [] [] w P (.sl .nil []) v0 from hR 0 (by simp)).2
  obtain ⟨h1, _⟩ := (show R3 Z β [] [] w P (.v (.int .i64 n)) v1 from hR 1 (by simp)).v_inv
  subst h0 h1
  by_cases hn : n = 0
  · subst hn
    rw [if_pos rfl] at h
    simp only [Option.some.injEq, Prod.mk.injEq] at h
    obtain ⟨rfl, rfl⟩ := h
    refine (Any8.slices_Grow_room Try.growL none 0 0 0 w (by decide) (by decide) (by decide) (by decide)).mono ?_
    rintro e w' ⟨rfl, rfl⟩
    exact ⟨_, Z, β, rfl, E, .refl _ _ _ _ _, .nil _ _ _ (fun _ => rfl), rfl⟩
  · rw [if_neg hn] at h
    split at h
    case isFalse => cases h
    rename_i hc
    simp only [Option.some.injEq, Prod.mk.injEq] at h
    obtain ⟨rfl, rfl⟩ := h
    obtain ⟨m, rfl⟩ : ∃ m : Nat, n = m := ⟨n.toNat, by omega⟩
    have hm : 0 < m := by omega
    obtain ⟨i, z0, hi, hsz, hby, hz0, hzs⟩ := tby_inv ty3.1 ty3.2.2.1 ty3.2.2.2
    have hg := grownCap_ge w (0 + m) 0 3
    refine (Any8.slices_Grow_grow Try.growL i z0 hi hz0 (by omega) none 0 0 m [] w (by decide) (by omega) (by rw [hby]; omega) (by omega) (by simp) (fun _ => rfl) (fun a h => by cases h)).mono ?_
    rintro e w' ⟨rfl, rfl⟩
    have G : Grow w (w.drew.alloc (.cells (([] : List Value).toArray ++ Builtin.zeroCells z0.cells (0 + m - 0) ++ Builtin.zeroCells z0.cells (grownCap w (0 + m) 0 3 - (0 + m))) 3)) :=
      ⟨rfl, rfl, rfl, by simp, fun k hk _ => heap_alloc_old w.drew _ hk⟩
    have hzc : z0.cells.size = 1 := by rw [hzs]; rfl
    obtain ⟨E', X'⟩ := E.new' (o := .row true 0 1 3 []) (bk := ⟨w.heap.size, 0, grownCap w (0 + m) 0 3, 1⟩) G ⟨Nat.le_refl _, by simp⟩ (fun X => by
      refine ⟨rfl, rfl, by decide, ty3.1, Nat.zero_le _, grownCap_le_maxLen w (0 + m) 0 3 (by simp only [maxLen]; omega), fun x hx => absurd hx (by simp), fun _ => rfl, _, heap_alloc_new w.drew _, ?_, fun i j hi => absurd hi (by simp)⟩
      simp only [Array.size_append, size_zeroCells, hzc]
      generalize grownCap w (0 + m) 0 3 = q at hg ⊢
      simp; omega)
    refine ⟨_, Z, _, rfl, E', X', ⟨⟨w.heap.size, 0, grownCap w (0 + m) 0 3, 1⟩, _, _, ?_, Nat.le_refl _, rfl, Nat.zero_le _, (fun h => by cases h), fun _ => ⟨rfl, rfl⟩⟩⟩
    rw [← E.bl, List.getElem?_append_right (Nat.le_refl _)]; simp
/-- The functions that are known otherwise. -/
def primX (f : FuncId) : Option (List AV → Obs → Option (AV × Obs)) :=
  if f = 45 then some nearG else if f = 103 then some growG else cloneP f
abbrev XN : Prims := ⟨primX, keepF, rowsF, varsF⟩
theorem lowN : Low XN := by
  intro f h
  refine ⟨?_, rfl, rfl, rfl⟩
  have hne : ∀ n, primF n = true → f ≠ n := fun n hn e => by rw [e, hn] at h; cases h
  show primX f = none
  unfold primX cloneP
  repeat (first | rw [if_neg (hne _ (by decide))])
theorem okxN : OKX P XN := by
  intro f g a S r S' hf hg
  change primX f = some g at hf
  unfold primX at hf
  split at hf
  · rename_i he
    subst he
    cases hf
    unfold nearG at hg
    split at hg
    case h_2 => cases hg
    rename_i x2 o l p
    split at hg
    case h_2 => cases hg
    rename_i t ht
    split at hg
    case isFalse => cases hg
    rename_i hle
    simp only [Option.some.injEq] at hg
    obtain rfl := decT_ok ht
    have := near_fc (o := o) hle S (p := p)
    rw [hg] at this
    exact ⟨⟨_, Try.func45, by decide, rfl⟩, this⟩
  · split at hf
    · rename_i he
      subst he
      cases hf
      exact growG_ok a S r S' hg
    · exact cloneP_ok f g a S r S' hf hg
/-- dist.Near. -/
theorem near_gs (o : Tok) (t : List SVtx) (p : Int) (ht : t.length ≤ 1000) (S : Obs) : Gs P XN 45 [.sl o (t.map encV), I p] S fun r S' => r = t3 (nearR t p S).1 ∧ S' = (nearR t p S).2 := by
  refine ⟨0, _, _, fun k _ => ?_, rfl, rfl⟩
  have e1 : XN.prim 45 = some nearG := rfl
  unfold evB
  rw [e1]
  show (nearG [.sl o (t.map encV), I p] S).map _ = _
  simp only [nearG, decT_enc, if_pos ht, Option.map_some]
theorem grow_gs (n : Int) (h : 0 ≤ n ∧ n ≤ 1000000) (S : Obs) : Gs P XN 103 [.sl .nil [], I n] S fun r S' => (n = 0 ∧ r = .sl .nil [] ∧ S' = S) ∨ (n ≠ 0 ∧ r = .ms S.length 0 0 ∧ S' = S ++ [.row true 0 1 3 []]) := by
  have e1 : XN.prim 103 = some growG := rfl
  by_cases hn : n = 0
  · refine ⟨0, _, _, fun k _ => ?_, .inl ⟨hn, rfl, rfl⟩⟩
    unfold evB
    rw [e1]
    simp [growG, hn, t3, t2, t1, t0]
  · refine ⟨0, _, _, fun k _ => ?_, .inr ⟨hn, rfl, rfl⟩⟩
    unfold evB
    rw [e1]
    have : 0 < n ∧ n ≤ 1000000 := by omega
    simp [growG, hn, this, t3, t2, t1, t0]
end Go.Proofs.Ytplpmelpoajpdaa.Ev
namespace Go.Proofs.Ytplpmelpoajpdaa.Ev
open Go Go.Proofs
open Go.RowKit (wrap64)
set_option linter.unusedVariables false
set_option linter.unusedSimpArgs false
set_option maxRecDepth 100000
set_option maxHeartbeats 4000000
theorem clI_gs (o : Tok) (l : List Int) (hl : l.length ≤ 100000) (S : Obs) : Gs P XN 88 [.sl o (l.map I)] S fun r S' => (l = [] ∧ r = .sl .full [] ∧ S' = S) ∨ (l ≠ [] ∧ r = .ms S.length 0 l.length ∧ S' = S ++ [.row true 0 1 3 (l.map I)]) := by
  have e1 : XN.prim 88 = some (cloneG 1 8 3) := rfl
  by_cases hn : l = []
  · subst hn
    refine ⟨0, _, _, fun k _ => ?_, .inl ⟨rfl, rfl, rfl⟩⟩
    unfold evB
    rw [e1]; rfl
  · refine ⟨0, _, _, fun k _ => ?_, .inr ⟨hn, rfl, rfl⟩⟩
    unfold evB
    rw [e1]
    have h0 : l.map I ≠ [] := by simpa using hn
    have hs : (l.map I).map s2 = l.map I := by rw [List.map_map]; rfl
    show (cloneG 1 8 3 [.sl o (l.map I)] S).map _ = _
    simp only [cloneG]
    rw [if_neg h0, if_pos ⟨uniI l, allI l, by simp; omega, by simp [maxLen]; omega⟩, hs]
    simp [t3, t2, t1, t0]
theorem clG_gs (o : Tok) (R : List SRr) (hn : R ≠ []) (hl : R.length ≤ 100000) (S : Obs) : Gs P XN 85 [.sl o (R.map encG)] S fun r S' => r = .ms S.length 0 R.length ∧ S' = S ++ [.row true 0 2 56 (R.map encG)] := by
  have e1 : XN.prim 85 = some (cloneG 2 32 56) := rfl
  refine ⟨0, _, _, fun k _ => ?_, rfl, rfl⟩
  unfold evB
  rw [e1]
  have h0 : R.map encG ≠ [] := by simpa using hn
  have hu : uni 2 (R.map encG) = true := by simp [uni, encG, AV.cells]
  have hd : (R.map encG).all d2 = true := by simp [encG]; intro x _; rfl
  have hs : (R.map encG).map s2 = R.map encG := by rw [List.map_map]; rfl
  show (cloneG 2 32 56 [.sl o (R.map encG)] S).map _ = _
  simp only [cloneG]
  rw [if_neg h0, if_pos ⟨hu, hd, by simp; omega, by simp [maxLen]; omega⟩, hs]
  simp [t3, t2, t1, t0]
theorem clH_gs (o : Tok) (H : List (List Int)) (hn : H ≠ []) (hl : H.length ≤ 100000) (S : Obs) : Gs P XN 86 [.sl o (H.map L)] S fun r S' => r = .ms S.length 0 H.length ∧ S' = S ++ [.row true 0 1 48 (H.map L)] := by
  have e1 : XN.prim 86 = some (cloneG 1 24 48) := rfl
  refine ⟨0, _, _, fun k _ => ?_, rfl, rfl⟩
  unfold evB
  rw [e1]
  have h0 : H.map L ≠ [] := by simpa using hn
  have hu : uni 1 (H.map L) = true := by simp [uni, AV.cells]
  have hd : (H.map L).all d2 = true := by simp; intro x _; rfl
  have hs : (H.map L).map s2 = H.map L := by rw [List.map_map]; rfl
  show (cloneG 1 24 48 [.sl o (H.map L)] S).map _ = _
  simp only [cloneG]
  rw [if_neg h0, if_pos ⟨hu, hd, by simp; omega, by simp [maxLen]; omega⟩, hs]
  simp [t3, t2, t1, t0]
theorem take_g (x : SRr) (h : x.f1.length ≤ 1000) : Gv P XN 102 [encG x] (.tup [encG (takeR x).1, I (takeR x).2]) := by
  refine gm_of (rw := false) (lowN _ (by decide)) fun102 rfl ?_
  obtain ⟨n, l⟩ := x
  have h : l.length ≤ 1000 := h
  unfold takeR
  simp +decide only [Try.f102, encG, go_sem, Nat.reduceAdd]
  by_cases h0 : n = 0
  · subst h0
    refine Wif_of (fun h => absurd h (by decide)) (fun _ => ?_)
    cases l with
    | nil =>
      simp +decide only [go_sem, Nat.reduceAdd, wrc, splice]
      exact ⟨_, rfl, rfl, rfl⟩
    | cons g l =>
      have hl : l.length ≤ 1000 := by simp at h; omega
      have hb : (0 : Int) < ((g :: l).length : Int) := by rw [List.length_cons]; omega
      have h1 : (1 : Int) ≤ ((g :: l).length : Int) := by rw [List.length_cons]; omega
      have hu : uni 1 (List.map I (g :: l)) = true := uniI _
      have htk : List.take l.length (List.map I l) = List.map I l := List.take_of_length_le (by simp)
      simp only [List.map_cons, List.length_cons] at hu hb h1
      simp +decide only [go_sem, Nat.reduceAdd, wrc, splice, hb]
      simp +decide only [go_sem, Nat.reduceAdd, wrc, splice, slA, h1, hu, Int.reduceToNat, htk]
      refine WO_calls rfl rfl rfl rfl rfl rfl ((clI_gs .no l (by omega) _).mono fun r S' h => ?_)
      rcases h with ⟨rfl, rfl, rfl⟩ | ⟨hne, rfl, rfl⟩
      · simp +decide only [go_sem, Nat.reduceAdd, wrc, splice]
        exact ⟨_, rfl, rfl, rfl⟩
      · simp +decide only [go_sem, Nat.reduceAdd, wrc, splice]
        refine ⟨_, rfl, ?_, ?_⟩
        · simp +decide only [go_sem, Nat.reduceAdd, List.length_map, Nat.le_refl, Nat.zero_le]
        · simp +decide only [go_sem, Nat.reduceAdd, List.length_map, Nat.le_refl, Nat.zero_le]
          rw [List.take_of_length_le (by simp)]; rfl
  · have h0' : (n != 0) = true := by simpa using h0
    simp +decide only [h0']
    simp +decide only [go_sem, Nat.reduceAdd, wrc, splice]
    refine WO_calls rfl rfl rfl rfl rfl rfl ((clI_gs .no l (by omega) _).mono fun r S' h => ?_)
    rcases h with ⟨rfl, rfl, rfl⟩ | ⟨hne, rfl, rfl⟩
    · simp +decide only [go_sem, Nat.reduceAdd, wrc, splice]
      exact ⟨_, rfl, rfl, by rw [if_neg h0]; rfl⟩
    · simp +decide only [go_sem, Nat.reduceAdd, wrc, splice]
      refine ⟨_, rfl, ?_, ?_⟩
      · simp +decide only [go_sem, Nat.reduceAdd, List.length_map, Nat.le_refl, Nat.zero_le]
      · simp +decide only [go_sem, Nat.reduceAdd, List.length_map, Nat.le_refl, Nat.zero_le]
        rw [if_neg h0, List.take_of_length_le (by simp)]
theorem half_g (x : SRr) (h : x.f1.length ≤ 1000) : Gv P XN 84 [encG x] (.tup [encG (halfR x).1, L (halfR x).2]) := by
  refine gm_of (rw := false) (lowN _ (by decide)) fun84 rfl ?_
  have htk := take_g x h
  obtain ⟨n, l⟩ := x
  have h : l.length ≤ 1000 := h
  unfold halfR
  simp +decide only [Try.f84, encG, go_sem, Nat.reduceAdd]
  by_cases hl0 : l = []
  · subst hl0
    refine Wif_of (fun h => absurd h (by decide)) (fun _ => ?_)
    simp +decide only [go_sem, Nat.reduceAdd, wrc, splice]
    refine WO_call rfl rfl rfl rfl rfl htk ?_
    unfold takeR
    by_cases h0 : n = 0
    · subst h0
      simp +decide only [go_sem, Nat.reduceAdd, wrc, splice, encG]
      refine Wif_of (fun _ => ?_) (fun h => absurd h (by decide))
      simp +decide only [go_sem, Nat.reduceAdd, wrc, splice]
      exact ⟨_, rfl, rfl, rfl⟩
    · have h0' : (n == 0) = false := by simpa using h0
      simp +decide only [go_sem, Nat.reduceAdd, wrc, splice, encG, if_neg h0, h0']
      exact ⟨_, rfl, rfl, rfl⟩
  · have hpos : 0 < l.length := by cases l <;> simp at hl0 ⊢
    have hb : (0 : Int) < (l.length : Int) := by omega
    have w1 : IntKind.i64.wrap ((l.length : Int) + 1) = ((l.length + 1 : Nat) : Int) := wrap_nat _ (by omega)
    have w2 : IntKind.i64.wrap (((l.length + 1 : Nat) : Int).tdiv 2) = (((l.length + 1) / 2 : Nat) : Int) := by rw [show ((l.length + 1 : Nat) : Int).tdiv 2 = (((l.length + 1) / 2 : Nat) : Int) from rfl]; exact wrap64_of (by omega)
    have b1 : (0 : Int) ≤ (((l.length + 1) / 2 : Nat) : Int) := by omega
    have b2 : (((l.length + 1) / 2 : Nat) : Int) ≤ (l.length : Int) := by omega
    have n2 : ¬ (2 : Int) = 0 := by decide
    have hk : 0 < (l.length + 1) / 2 := by omega
    generalize (l.length + 1) / 2 = c at *
    simp +decide only [hb]
    simp +decide only [go_sem, Nat.reduceAdd, wrc, splice, w1, w2, n2, slA, b1, b2, ← List.map_take, ← List.map_drop]
    refine WO_calls rfl rfl rfl rfl rfl rfl ((clI_gs .full (l.take c) (by simp; omega) _).mono fun r S' h => ?_)
    rcases h with ⟨hz, -⟩ | ⟨hne, rfl, rfl⟩
    · exact absurd hz (by simp [hl0]; omega)
    have hlen : (l.take c).length = c := by simp; omega
    simp +decide only [go_sem, Nat.reduceAdd, wrc, splice, slA, b1, b2, uniI, List.take_length, ← List.map_take, ← List.map_drop]
    refine WO_calls rfl rfl rfl rfl rfl rfl ((clI_gs .no (l.drop c) (by simp; omega) _).mono fun r S' h => ?_)
    rcases h with ⟨hz, rfl, rfl⟩ | ⟨hne, rfl, rfl⟩
    · simp +decide only [go_sem, Nat.reduceAdd, wrc, splice]
      refine ⟨_, rfl, ?_, ?_⟩
      · simp +decide only [go_sem, Nat.reduceAdd, List.length_map, Nat.le_refl, Nat.zero_le]
      · simp +decide only [go_sem, Nat.reduceAdd, List.length_map, Nat.le_refl, Nat.zero_le]
        rw [if_neg hl0, List.take_of_length_le (by simp), hz]; rfl
    · simp +decide only [go_sem, Nat.reduceAdd, wrc, splice]
      refine ⟨_, rfl, ?_, ?_⟩
      · simp +decide only [go_sem, Nat.reduceAdd, List.length_map, Nat.le_refl, Nat.zero_le]
      · simp +decide only [go_sem, Nat.reduceAdd, List.length_map, Nat.le_refl, Nat.zero_le]
        rw [if_neg hl0, List.take_of_length_le (by simp), List.take_of_length_le (by simp)]
end Go.Proofs.Ytplpmelpoajpdaa.Ev
