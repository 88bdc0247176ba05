/- What a row's argument is as a value; a law's answer as a row's contract. No condition. -/
import Derived.Test.YtjfaafnngloblaaEvK
import Derived.SizedLaws
import Derived.ChangeArms
import Derived.ChangeOld
import Derived.WideShapes
import Derived.Deep.Slices
import Derived.Deep.OwnShut
namespace Go.Proofs.Ytjfaafnngloblaa.Ev
open Go Go.RowKit
set_option linter.unusedVariables false
set_option linter.unusedSimpArgs false
/-- All cells that a world has. -/
def Zw (w : World) : Zs := fun b _ => b < w.heap.size
/-- The cells cs hold a. -/
def KE (w : World) (l : List AV) (cs : List Value) : Prop := l.length = cs.length ∧ ∀ j, j < l.length → DR (Zw w) w (l.getD j .dead) (cs.getD j undef)
theorem KE.one {w : World} {a : AV} {v : Value} (h : KE w [a] [v]) : DR (Zw w) w a v := h.2 0 (by simp)
theorem KE.of {w : World} {a : AV} {v : Value} (h : DR (Zw w) w a v) : KE w [a] [v] := ⟨rfl, fun j hj => by
  obtain rfl : j = 0 := by simpa using hj
  exact h⟩
theorem KE.agg {w : World} {l : List AV} {cs : Array Value} (h : KE w l cs.toList) : DR (Zw w) w (.agg l) (.agg cs) :=
  .agg l cs (by simpa using h.1) fun i hi => by have := h.2 i hi; simpa [List.getD_eq_getElem?_getD, Array.getD_eq_getD_getElem?] using this
theorem KE.app {w : World} {l m : List AV} {cs ds : List Value} (h : KE w l cs) (k : KE w m ds) : KE w (l ++ m) (cs ++ ds) := by
  refine ⟨by simp [h.1, k.1], fun j hj => ?_⟩
  by_cases hl : j < l.length
  · have := h.2 j hl
    have h2 : j < cs.length := by rw [← h.1]; exact hl
    simpa [List.getD_eq_getElem?_getD, List.getElem?_append_left hl, List.getElem?_append_left h2] using this
  · have h3 : j - l.length < m.length := by rw [List.length_append] at hj; omega
    have := k.2 _ h3
    have h2 : cs.length ≤ j := by rw [← h.1]; omega
    simpa [List.getD_eq_getElem?_getD, List.getElem?_append_right (Nat.le_of_not_lt hl), List.getElem?_append_right h2, ← h.1] using this
theorem list_of {α : Type} (Q : Nat → α → Prop) (n : Nat) (h : ∀ i, i < n → ∃ a, Q i a) : ∃ l : List α, l.length = n ∧ ∀ i a, l[i]? = some a → Q i a := by
  induction n with
  | zero => exact ⟨[], rfl, fun i a h => by simp at h⟩
  | succ n ih =>
    obtain ⟨l, hl, hq⟩ := ih (fun i hi => h i (by omega))
    obtain ⟨a, ha⟩ := h n (by omega)
    refine ⟨l ++ [a], by simp [hl], fun i b hb => ?_⟩
    rcases Nat.lt_or_ge i l.length with hi | hi
    · rw [List.getElem?_append_left hi] at hb; exact hq i b hb
    · rw [List.getElem?_append_right hi] at hb
      have hi' : i = l.length := by
        rcases Nat.lt_or_ge (i - l.length) 1 with h1 | h1
        · omega
        · rw [List.getElem?_eq_none (by simpa using h1)] at hb; cases hb
      subst hi'
      simp at hb; subst hb; rw [hl]; exact ha
/-- Whatever is read of cells of type t is a value of the form enc. -/
def OpE (P : Program) (t : TypeId) {α : Type} (enc : α → AV) (Wf : α → Prop) : Prop :=
  ∀ {H : Type} (e : TypeId × Value → H) (w : World) (base : Nat) (spare : Nat → Bool) (held : Bool) (fuel : Nat) (cs : List Value) (x : DataW H × List MemPlace),
    DataW.trod e P w base spare held fuel t cs = some x → (x.1.weights P t).all (· ≤ reachBytes) = true → ∃ a : α, KE w (enc a).cells cs ∧ Wf a
theorem OpE.int {P : Program} {t : TypeId} {k : IntKind} (ht : P.underlying t = some (.int k)) : OpE P t (fun n => .v (.int k n)) (fun x => k.min ≤ x ∧ x ≤ k.max) := by
  intro H enc w base spare held fuel cs x h _
  obtain ⟨n, rfl, _, hw⟩ := DataW.trod_int ht h
  exact ⟨n, KE.of (.v _ rfl), by simpa [Lit.wf] using hw⟩
theorem OpE.bool {P : Program} {t : TypeId} (ht : P.underlying t = some .bool) : OpE P t (fun b => .v (.bool b)) (fun _ => True) := by
  intro H enc w base spare held fuel cs x h _
  obtain ⟨n, rfl, _⟩ := DataW.trod_bool ht h
  exact ⟨n, KE.of (.v _ rfl), trivial⟩
theorem OpE.string {P : Program} {t : TypeId} (ht : P.underlying t = some .string) : OpE P t (fun s => .v (.string s)) (fun s => s.size ≤ 140737488351232) := by
  intro H enc w base spare held fuel cs x h hw
  obtain ⟨s, rfl, rfl, _⟩ := DataW.trod_string ht h
  refine ⟨s, KE.of (.v _ rfl), ?_⟩
  have e : (DataW.weights (H := H) P t (.lit (.string s.data.toList))) = [s.data.toList.length] := by unfold DataW.weights; rfl
  have hw1 : (DataW.weights (H := H) P t (.lit (.string s.data.toList))).all (· ≤ reachBytes) = true := hw
  rw [e] at hw1
  have h2 : s.data.toList.length ≤ reachBytes := by simpa using hw1
  rw [Array.length_toList] at h2
  exact h2
theorem all_app {a b : List Nat} (h : (a ++ b).all (· ≤ reachBytes) = true) : a.all (· ≤ reachBytes) = true ∧ b.all (· ≤ reachBytes) = true := by
  rw [List.all_append, Bool.and_eq_true] at h; exact h
theorem weightsAll_at {H : Type} {P : Program} {e : TypeId} : ∀ (ds : List (DataW H)), (DataW.weightsAll P e ds).all (· ≤ reachBytes) = true → ∀ d ∈ ds, (d.weights P e).all (· ≤ reachBytes) = true
  | [], _, d, hd => by cases hd
  | d0 :: r, h, d, hd => by
    rw [DataW.weightsAll] at h
    rcases List.mem_cons.mp hd with rfl | hd
    · exact (all_app h).1
    · exact weightsAll_at r (all_app h).2 d hd
theorem OpE.slice {P : Program} {t e : TypeId} {α : Type} {en : α → AV} {Wf : α → Prop} (ht : P.underlying t = some (.slice e)) (hz : 0 < P.cellsOf e) (hl : ∀ a, (en a).cells.length = P.cellsOf e) (h : OpE P e en Wf) :
    OpE P t (fun l : List α => .sl .no (l.map en)) (fun xs : List α => (∀ x ∈ xs, Wf x) ∧ xs.length * P.bytesOf e ≤ 140737488351232 ∧ xs.length ≤ maxLen) := by
  intro H enc w base spare held fuel cs x hx hw
  rcases Go.Deep.open_slice ht hx with ⟨rfl, _⟩ | ⟨a, len, cap, m, n, D, Pl, rfl, hb, hle, hm, hmm, rfl, hi⟩
  · exact ⟨[], KE.of (.nil _ none 0 fun _ => rfl), by simp, by simp, by simp⟩
  · have hlm : len ≤ m := by rw [hmm]; split <;> omega
    have hw1 : ((((List.range len).map D).length + ((List.range (m - len)).map fun j => D (len + j)).length) * P.bytesOf e :: (DataW.weightsAll P e ((List.range len).map D) ++ DataW.weightsAll P e ((List.range (m - len)).map fun j => D (len + j)))).all (· ≤ reachBytes) = true := by
      have e0 : DataW.weights P t (.slice ((List.range len).map D) ((List.range (m - len)).map fun j => D (len + j))) = ((((List.range len).map D).length + ((List.range (m - len)).map fun j => D (len + j)).length) * P.bytesOf e :: (DataW.weightsAll P e ((List.range len).map D) ++ DataW.weightsAll P e ((List.range (m - len)).map fun j => D (len + j)))) := by
        rw [DataW.weights]; simp only [ht]
      rw [← e0]; exact hw
    rw [List.all_cons, Bool.and_eq_true] at hw1
    obtain ⟨hw2, hw3⟩ := hw1
    have hw4 := weightsAll_at _ (all_app hw3).1
    obtain ⟨ps, hps, hq⟩ := list_of (fun i (p : α) => Wf p ∧ ∃ c : List Value, KE w (en p).cells c ∧ ∀ j u, c[j]? = some u → w.cell? (a.add (i * P.cellsOf e + j)) = some u) len (by
      intro i hi'
      obtain ⟨cs', hc, htr⟩ := hi i (by omega)
      obtain ⟨p, hp, hwf⟩ := h enc w base spare held n cs' _ htr (hw4 _ (List.mem_map.mpr ⟨i, List.mem_range.mpr hi', rfl⟩))
      obtain ⟨_, hcl, hat⟩ := World.cells?_some hc
      refine ⟨p, hwf, cs', hp, fun j u hu => ?_⟩
      have hj : j < cs'.length := (List.getElem?_eq_some_iff.1 hu).1
      have := hat j (by omega)
      rw [Go.Deep.add_add] at this
      rw [this, hu])
    refine ⟨ps, KE.of ?_, ?_, ?_, by omega⟩
    · by_cases h0 : len = 0
      · subst h0
        obtain rfl : ps = [] := List.eq_nil_of_length_eq_zero hps
        exact .nil _ _ _ (fun h => by cases h)
      · have hget : ∀ i, i < len → ∃ p, ps[i]? = some p ∧ (ps.map en).getD i .dead = en p := fun i hi' => by
          have : i < ps.length := by omega
          exact ⟨ps[i], List.getElem?_eq_getElem this, by simp [List.getD_eq_getElem?_getD, this]⟩
        have hcell : ∀ i j, i < len → j < P.cellsOf e → ∃ u, w.cell? (a.add (i * P.cellsOf e + j)) = some u ∧ DR (Zw w) w (((ps.map en).getD i .dead).cells.getD j .dead) u := by
          intro i j hi' hj
          obtain ⟨p, hp, hg⟩ := hget i hi'
          obtain ⟨_, c, hk, hc⟩ := hq i p hp
          have hcl : c.length = P.cellsOf e := by rw [← hk.1, hl]
          refine ⟨c[j]'(by omega), hc j _ (List.getElem?_eq_getElem (by omega)), ?_⟩
          have := hk.2 j (by rw [hl]; exact hj)
          rw [hg]
          simpa [List.getD_eq_getElem?_getD, List.getElem?_eq_getElem (show j < c.length by omega)] using this
        have hsp : a.spot = none := by
          obtain ⟨u, hu, _⟩ := hcell 0 0 (by omega) hz
          simp only [Nat.zero_mul, Nat.add_zero, Addr.add, if_true] at hu
          unfold World.cell? at hu
          split at hu
          · split at hu
            · cases hu
            · rename_i hs; simpa using hs
          · cases hu
        obtain ⟨b, p, s⟩ := a
        simp only at hsp
        subst hsp
        have hadd : ∀ n, (⟨b, p, none⟩ : Addr).add n = ⟨b, p + n, none⟩ := fun n => Addr.add_lit _ _ _
        simp only [hadd] at hcell
        have hlen : (ps.map en).length = len := by simpa using hps
        have := DR.sl (Z := Zw w) (w := w) .no (ps.map en) b p cap (P.cellsOf e) (fun i j => (w.cell? ⟨b, p + (i * P.cellsOf e + j), none⟩).getD undef) (by omega) (fun i hi' => by
          obtain ⟨q, _, hg⟩ := hget i (by omega)
          rw [hg, hl]) (fun i j hi' hj => by
          obtain ⟨u, hu, _⟩ := hcell i j (by omega) hj
          exact ⟨World.block_lt_of_cell? w _ hu, by rw [hu]; rfl⟩) (fun i j hi' hj => by
          obtain ⟨u, hu, hd⟩ := hcell i j (by omega) hj
          rw [hu]; exact hd)
        rw [hlen] at this
        exact this
    · intro x hx
      obtain ⟨j, hj, rfl⟩ := List.getElem_of_mem hx
      exact (hq j _ (List.getElem?_eq_getElem hj)).1
    · have h2 : (len + (m - len)) * P.bytesOf e ≤ reachBytes := by simpa using hw2
      rw [hps]
      exact Nat.le_trans (Nat.mul_le_mul_right _ (by omega)) h2
def OpF (P : Program) (o : Nat) (fs : List Field) {α : Type} (enc : α → List AV) (Wf : α → Prop) : Prop :=
  ∀ {H : Type} (e : TypeId × Value → H) (w : World) (base : Nat) (spare : Nat → Bool) (held : Bool) (n : Nat) (cs : List Value) (xs : List (DataW H × List MemPlace)),
    (∀ (i : Nat) f, fs[i]? = some f → DataW.trod e P w base spare held n f.type ((cs.drop f.offset).take (P.cellsOf f.type)) = xs[i]?) → xs.length = fs.length →
    (DataW.weightsEach P (fs.map (·.type)) (xs.map (·.1))).all (· ≤ reachBytes) = true → ∃ a : α, KE w (enc a) ((cs.drop o).take (enc a).length) ∧ Wf a
theorem OpF.one {P : Program} {o z : Nat} {f : Field} {α : Type} {en : α → AV} {Wf : α → Prop} (ho : f.offset = o) (hz : P.cellsOf f.type = z) (hl : ∀ a, (en a).cells.length = z) (h : OpE P f.type en Wf) : OpF P o [f] (fun a => (en a).cells) Wf := by
  intro H enc w base spare held n cs xs hx hle hw
  match xs, hle with
  | [x], _ =>
    have h0 := hx 0 f rfl
    rw [ho, hz] at h0
    have hw' : (x.1.weights P f.type ++ DataW.weightsEach (H := H) P [] []).all (· ≤ reachBytes) = true := by rw [DataW.weightsEach.eq_def] at hw; exact hw
    obtain ⟨a, ha, wa⟩ := h enc w base spare held n _ x h0 (all_app hw').1
    exact ⟨a, by rw [hl]; exact ha, wa⟩
theorem OpF.cons {P : Program} {o z : Nat} {f : Field} {fs : List Field} {α β : Type} {en : α → AV} {en2 : β → List AV} {Wf : α → Prop} {Wf2 : β → Prop} (ho : f.offset = o) (hz : P.cellsOf f.type = z) (hl : ∀ a, (en a).cells.length = z) (h : OpE P f.type en Wf)
    (h2 : OpF P (o + z) fs en2 Wf2) : OpF P o (f :: fs) (fun x : α × β => (en x.1).cells ++ en2 x.2) (fun x => Wf x.1 ∧ Wf2 x.2) := by
  intro H enc w base spare held n cs xs hx hle hw
  match xs, hle with
  | x :: xs, hle =>
    have h0 := hx 0 f rfl
    rw [ho, hz] at h0
    have hw' : (x.1.weights P f.type ++ DataW.weightsEach P (fs.map (·.type)) (xs.map (·.1))).all (· ≤ reachBytes) = true := by
      rw [List.map_cons, List.map_cons, DataW.weightsEach.eq_def] at hw; exact hw
    obtain ⟨a, ha, wa⟩ := h enc w base spare held n _ x h0 (all_app hw').1
    obtain ⟨b, hb, wb⟩ := h2 enc w base spare held n cs xs (fun i g hg => hx (i + 1) g (by simpa using hg)) (by simpa using hle) (all_app hw').2
    refine ⟨(a, b), ?_, wa, wb⟩
    have e : (cs.drop o).take ((en a).cells ++ en2 b).length = (cs.drop o).take z ++ (cs.drop (o + z)).take (en2 b).length := by
      rw [List.length_append, hl, List.take_add, List.drop_drop]
    show KE w ((en a).cells ++ en2 b) _
    rw [e]
    exact ha.app hb
theorem OpE.struct {P : Program} {t : TypeId} {fs : Array Field} {α β : Type} {en : α → List AV} {Wf : α → Prop} (f : β → α) (g : α → β) (hg : ∀ a, f (g a) = a) (ht : P.underlying t = some (.struct fs)) (hz : ∀ a, P.cellsOf t = (en a).length) (h : OpF P 0 fs.toList en Wf) :
    OpE P t (fun b => .agg (en (f b))) (fun b => Wf (f b)) := by
  intro H enc w base spare held fuel cs x hx hw
  obtain ⟨xs, n, rfl, rfl, hcs, hl, hf⟩ := DataW.trod_struct ht hx
  have hw' : (DataW.weightsEach P (fs.toList.map (·.type)) (xs.map (·.1))).all (· ≤ reachBytes) = true := by
    have hw0 : (DataW.weights P t (.agg (xs.map (·.1)))).all (· ≤ reachBytes) = true := hw
    rw [DataW.weights] at hw0; simp only [ht] at hw0; exact hw0
  obtain ⟨a, ha, wa⟩ := h enc w base spare held n cs xs (fun i g hg' => hf i g (by rw [← Array.getElem?_toList]; exact hg')) (by simpa using hl) hw'
  rw [List.drop_zero, List.take_of_length_le (by rw [hcs, hz a]; exact Nat.le_refl _)] at ha
  exact ⟨g a, by show KE w (en (f (g a))) cs; rw [hg]; exact ha, by show Wf (f (g a)); rw [hg]; exact wa⟩
theorem OpE.imp {P : Program} {t : TypeId} {α : Type} {en : α → AV} {Wf Wf2 : α → Prop} (h : OpE P t en Wf) (hi : ∀ a, Wf a → Wf2 a) : OpE P t en Wf2 := by
  intro H enc w base spare held fuel cs x hx hw
  obtain ⟨a, ha, wa⟩ := h enc w base spare held fuel cs x hx hw
  exact ⟨a, ha, hi a wa⟩
/-- An argument of a row. -/
theorem OpE.arg {P : Program} {t : TypeId} {α : Type} {en : α → AV} {Wf : α → Prop} (h : OpE P t en Wf) {H : Type} {enc : TypeId × Value → H} {W : World} {base : Nat} {spare : Nat → Bool} {held : Bool} {v : Value} {x : DataW H} {p : List MemPlace} {ts : List TypeId} {ds : List (DataW H)} {j : Nat}
    (hsz : (DataW.weightsEach P ts ds).all (· ≤ reachBytes) = true) (ht : ts[j]? = some t) (hd : ds[j]? = some x) (hx : DataW.Trod enc P W base spare held t v x p) : ∃ a : α, KE W (en a).cells v.cells.toList ∧ Wf a := by
  obtain ⟨fuel, hf⟩ := hx
  refine h enc W base spare held fuel _ _ hf ?_
  clear hf h
  induction ts generalizing ds j with
  | nil => simp at ht
  | cons t0 ts ih =>
    cases ds with
    | nil => simp at hd
    | cons d0 ds =>
      have hsz' : (d0.weights P t0 ++ DataW.weightsEach P ts ds).all (· ≤ reachBytes) = true := by rw [DataW.weightsEach.eq_def] at hsz; exact hsz
      cases j with
      | zero =>
        simp at ht hd; subst ht hd
        exact (all_app hsz').1
      | succ j => exact ih (all_app hsz').2 (by simpa using ht) (by simpa using hd)
/-- THE LAW'S ANSWER: what a function gives on values, it gives; and nothing that was there changes. -/
theorem Gv.row {P : Program} {X : Prims} (hX : OKX P X) {f : FuncId} {args : List AV} {b : Bool} (h : Gv P X f args (.v (.bool b))) (ha : args.all d2 = true) (hs : args.map s2 = args) (W : World) (vs : Array Value)
    (hl : args.length = vs.size) (hR : ∀ i, i < args.length → DR (Zw W) W (args.getD i .dead) (vs.getD i undef)) : Calls P f vs W fun e w' => e = .returned (.bool b) ∧ Below W.heap.size W w' := by
  obtain ⟨k, hk⟩ := h
  obtain ⟨r0, S, T, h0, hd, hr⟩ := hk k (Nat.le_refl _)
  have hFC := (evF_sound hX k f args [] [] r0 S T h0).2
  have hp := FC.pure hFC ha (fun i hi => by
    have h2 := congrArg (fun l => l.getD i .dead) hs
    simpa [List.getD_eq_getElem?_getD, hi] using h2) hd
  refine (hp (Zw W) W vs (fun b o h => h) hl hR).mono ?_
  rintro e w' ⟨v, Z', rfl, G, _, _, _, hv⟩
  have hr0 : r0 = .v (.bool b) := by
    cases r0 with
    | v x => simpa [s3, s2, s1, s0] using hr
    | _ => simp [s3, s2, s1, s0] at hr
  subst hr0
  cases hv
  exact ⟨rfl, ⟨G.os, G.tape, G.output, G.size, fun k hk => G.old hk⟩⟩
end Go.Proofs.Ytjfaafnngloblaa.Ev
