/- Who is near: the sort, in memory. No condition. -/
import Derived.Test.YtokkipocdhfglaaPsLib4
import Derived.SizedLaws
import Derived.ChangeArms
import Derived.ChangeOld
import Derived.WideShapes
import Derived.Deep.Slices
import Derived.Deep.OwnShut
import Derived.Shelf.SlSortCmp.Kit1
import Derived.Below
import Derived.Calls
import Derived.Lib.QuietBelow
import Derived.Test.YtokkipocdhfglaaProg
import Derived.Shelf.SlSortCmp.NoneTotal
import Derived.Ground.SlsfProg
import Derived.Lib.OwnBridge
namespace Go.Proofs.Ytokkipocdhfglaa.Ev
open Go Go.Proofs
open Go.RowKit (wrap64)
set_option linter.unusedVariables false
set_option linter.unusedSimpArgs false
set_option maxRecDepth 100000
def mx (a b : Int) : Int := if a < b then b else a
def okL (l : List Int) (i : Nat) : Bool := decide (∀ j : Nat, j < l.length → i ≤ j → 1 ≤ rd l (j : Int) ∧ rd l (j : Int) ∉ l.take j)
theorem okL_no {l : List Int} {i : Nat} (h : i < l.length) (hn : rd l (i : Int) < 1 ∨ rd l (i : Int) ∈ l.take i) : okL l 0 = false := decide_eq_false fun H => by
  have := H i h (Nat.zero_le _)
  rcases hn with h | h
  · omega
  · exact this.2 h
section
variable {X : Prims} (hX : Low X)
include hX
theorem ring_may_g (n : Int) (l : List Int) (size : Int) (h : l.length ≤ 1000) : Gv P X 62 [encG ⟨n, l⟩, I size] (B (okL (ringAll n l) 0 && decide ((l.length : Int) ≤ mx size 2))) := by
  refine gv_of (hX _ (by decide)) fun62 rfl ?_
  simp +decide only [Try.f62, encG, go_sem, Nat.reduceAdd]
  refine WO_call rfl rfl rfl rfl rfl (ring_all_g hX n l h) ?_
  have hA := ringAll_len n l
  generalize ringAll n l = A at hA
  simp +decide only [go_sem]
  refine W_ind (fun k s => ∃ i : Nat, i + k = A.length ∧ FrIs 33 [(1, I size), (2, .ptr 0 0), (5, L A), (10, L A), (11, I A.length), (12, I i)] s.fr ∧ s.S = [.var false [I n, L l]] ∧ s.T = [] ∧ ∀ j : Nat, j < i → 1 ≤ rd A (j : Int) ∧ rd A (j : Int) ∉ A.take j) ?_ (n := A.length) ⟨0, by omega, ⟨rfl, rfl, rfl, rfl, rfl, rfl, rfl, trivial⟩, rfl, rfl, fun j h => by omega⟩
  rintro k ⟨L', S, T⟩ ih ⟨i, hi, hF, rfl, rfl, hall⟩
  obtain ⟨j, rfl⟩ := hF.ex
  have hw := wrap_nat i (by omega)
  simp +decide only [fr, jl, Nat.reduceAdd, go_sem]
  refine Wif_of (fun h => ?_) (fun h => ?_)
  · have hlt : i < A.length := by simpa using h
    have hx := rd_at hlt
    by_cases h1 : rd A (i : Int) ≤ 0
    · simp +decide only [go_sem, hx, h1]
      refine WO_not rfl ?_
      simp +decide only [go_sem]
      exact ⟨_, rfl, rfl, by rw [okL_no hlt (.inl (by omega))]; rfl⟩
    · have hb : (i : Int) ≤ (A.length : Int) := by omega
      simp +decide only [go_sem, hx, h1, slA, hb, ← List.map_take]
      refine WO_call rfl rfl rfl rfl rfl (contains_g hX (A.take i) (rd A (i : Int)) (by simp; omega)) ?_
      by_cases h2 : rd A (i : Int) ∈ A.take i
      · simp +decide only [go_sem, h2]
        exact ⟨_, rfl, rfl, by rw [okL_no hlt (.inr h2)]; rfl⟩
      · simp +decide only [go_sem, h2, hw]
        refine ih (k - 1) _ (by omega) ⟨i + 1, by omega, ⟨rfl, rfl, rfl, rfl, rfl, rfl, rfl, trivial⟩, rfl, rfl, fun j hj => ?_⟩
        by_cases hji : j = i
        · subst hji; exact ⟨by omega, h2⟩
        · exact hall j (by omega)
  · have hi' : i = A.length := by simp at h; omega
    subst hi'
    have hok : okL A 0 = true := decide_eq_true fun j h _ => hall j h
    simp +decide only [go_sem, Nat.reduceAdd]
    exact ⟨_, rfl, rfl, by rw [hok, Bool.true_and]; rfl⟩
end
end Go.Proofs.Ytokkipocdhfglaa.Ev
namespace Go.Proofs.Ytokkipocdhfglaa.Ev
open Go Go.Proofs
open Go.RowKit (wrap64)
set_option linter.unusedVariables false
set_option linter.unusedSimpArgs false
set_option maxRecDepth 100000
section
variable {X : Prims} (hX : Low X)
include hX
theorem rring_may_g (n : Int) (l : List Int) (size : Int) (h : l.length ≤ 1000) : Gv P X 41 [encG ⟨n, l⟩, I size] (B (okL (ringAll n l) 0 && decide ((l.length : Int) ≤ mx size 2))) := by
  refine gv_of (hX _ (by decide)) fun41 rfl ?_
  simp +decide only [Try.f41, encG, go_sem, Nat.reduceAdd]
  refine WO_call rfl rfl rfl rfl rfl (rring_all_g hX n l h) ?_
  have hA := ringAll_len n l
  generalize ringAll n l = A at hA
  simp +decide only [go_sem]
  refine W_ind (fun k s => ∃ i : Nat, i + k = A.length ∧ FrIs 41 [(1, I size), (2, .ptr 0 0), (5, L A), (6, I i)] s.fr ∧ s.S = [.var false [I n, L l]] ∧ s.T = [] ∧ ∀ j : Nat, j < i → 1 ≤ rd A (j : Int) ∧ rd A (j : Int) ∉ A.take j) ?_ (n := A.length) ⟨0, by omega, ⟨rfl, rfl, rfl, rfl, rfl, trivial⟩, rfl, rfl, fun j h => by omega⟩
  rintro k ⟨L', S, T⟩ ih ⟨i, hi, hF, rfl, rfl, hall⟩
  obtain ⟨j, rfl⟩ := hF.ex
  have hw := wrap_nat i (by omega)
  simp +decide only [fr, jl, Nat.reduceAdd, go_sem]
  refine Wif_of (fun h => ?_) (fun h => ?_)
  · have hlt : i < A.length := by simpa using h
    have hx := rd_at hlt
    simp +decide only [go_sem]
    refine W_draw hmx (by kernel_rfl) ?_
    by_cases h1 : rd A (i : Int) < 1
    · simp +decide only [go_sem, hx, h1]
      refine WO_not rfl ?_
      simp +decide only [go_sem]
      exact ⟨_, rfl, rfl, by rw [okL_no hlt (.inl h1)]; rfl⟩
    · have hb : (i : Int) ≤ (A.length : Int) := by omega
      simp +decide only [go_sem, hx, h1, slA, hb, ← List.map_take]
      refine WO_call rfl rfl rfl rfl rfl (in_g hX (A.take i) (rd A (i : Int)) (by simp; omega)) ?_
      by_cases h2 : rd A (i : Int) ∈ A.take i
      · simp +decide only [go_sem, h2]
        exact ⟨_, rfl, rfl, by rw [okL_no hlt (.inr h2)]; rfl⟩
      · simp +decide only [go_sem, h2, hw]
        refine ih (k - 1) _ (by omega) ⟨i + 1, by omega, ⟨rfl, rfl, rfl, rfl, rfl, trivial⟩, rfl, rfl, fun j hj => ?_⟩
        by_cases hji : j = i
        · subst hji; exact ⟨by omega, h2⟩
        · exact hall j (by omega)
  · have hi' : i = A.length := by simp at h; omega
    subst hi'
    have hok : okL A 0 = true := decide_eq_true fun j h _ => hall j h
    have hmxs : decide ((l.length : Int) ≤ mx size 2) = (decide ((l.length : Int) ≤ size) || decide ((l.length : Int) ≤ 2)) := by
      rw [← Bool.decide_or]
      refine decide_eq_decide.mpr ?_
      unfold mx; split <;> omega
    by_cases h3 : (l.length : Int) ≤ size
    · simp +decide only [go_sem, Nat.reduceAdd, h3]
      exact ⟨_, rfl, rfl, by rw [hok, hmxs, decide_eq_true h3]; rfl⟩
    · simp +decide only [go_sem, Nat.reduceAdd, h3]
      exact ⟨_, rfl, rfl, by rw [hok, hmxs, decide_eq_false h3, Bool.false_or, Bool.true_and]⟩
end
end Go.Proofs.Ytokkipocdhfglaa.Ev
namespace Go.Proofs.Ytokkipocdhfglaa.Ev
open Go Go.Proofs
open Go.RowKit (wrap64)
set_option linter.unusedVariables false
set_option linter.unusedSimpArgs false
set_option maxRecDepth 100000
def rAll (x : SRr) : List Int := ringAll x.f0 x.f1
def allR (R : List SRr) (H : List (List Int)) : List Int := R.flatMap rAll ++ H.flatten
structure Fw (R : List SRr) (H : List (List Int)) : Prop where
  r : R.length ≤ 64
  h : H.length ≤ 64
  rl : ∀ x ∈ R, x.f1.length ≤ 500
  hl : ∀ l ∈ H, l.length ≤ 500
theorem rAll_len (x : SRr) : (rAll x).length ≤ x.f1.length + 1 := ringAll_len _ _
theorem flatMap_le {α β : Type} {f : α → List β} {m : Nat} : ∀ {l : List α}, (∀ x ∈ l, (f x).length ≤ m) → (l.flatMap f).length ≤ l.length * m
  | [], _ => by simp
  | a :: l, h => by
    rw [List.flatMap_cons, List.length_append, List.length_cons, Nat.succ_mul]
    have h1 := h a (by simp)
    have h2 := flatMap_le (l := l) (fun x hx => h x (by simp [hx]))
    omega
theorem flat_le {α : Type} {m : Nat} {l : List (List α)} (h : ∀ x ∈ l, x.length ≤ m) : l.flatten.length ≤ l.length * m := by
  have := flatMap_le (f := fun x : List α => x) (l := l) h
  rwa [List.flatMap_def, List.map_id'] at this
theorem take_snoc {α : Type} {l : List α} {i : Nat} {x : α} (h : l[i]? = some x) : l.take (i + 1) = l.take i ++ [x] := by
  rw [List.take_add_one, h]; rfl
theorem Fw.pre {R : List SRr} {H : List (List Int)} (f : Fw R H) (i : Nat) : ((R.take i).flatMap rAll).length ≤ 32064 := by
  have h1 := flatMap_le (f := rAll) (m := 501) (l := R.take i) (fun x hx => by
    have := f.rl x (List.mem_of_mem_take hx); have := rAll_len x; omega)
  have h2 : (R.take i).length ≤ 64 := by have := f.r; simp; omega
  have := Nat.mul_le_mul_right 501 h2
  omega
theorem Fw.pre2 {R : List SRr} {H : List (List Int)} (f : Fw R H) (i : Nat) : ((H.take i).flatten).length ≤ 32000 := by
  have h1 := flat_le (m := 500) (l := H.take i) (fun x hx => f.hl x (List.mem_of_mem_take hx))
  have h2 : (H.take i).length ≤ 64 := by have := f.h; simp; omega
  have := Nat.mul_le_mul_right 500 h2
  omega
theorem Fw.all {R : List SRr} {H : List (List Int)} (f : Fw R H) : (allR R H).length ≤ 64064 := by
  have h1 := f.pre R.length
  have h2 := f.pre2 H.length
  rw [List.take_length] at h1 h2
  unfold allR
  rw [List.length_append]; omega
theorem getE {α : Type} {l : List α} {i : Nat} (h : i < l.length) : ∃ x, l[i]? = some x ∧ x ∈ l := ⟨l[i], List.getElem?_eq_getElem h, List.getElem_mem h⟩
section
variable {X : Prims} (hX : Low X)
include hX
theorem runs_all_g (t : List SVtx) (a : Int) (R : List SRr) (H : List (List Int)) (s : Int) (f : Fw R H) : Gv P X 31 [encRR t a R H s] (L (allR R H)) := by
  refine gv_of (hX _ (by decide)) fun31 rfl ?_
  have hr := f.r
  have hh := f.h
  simp +decide only [Try.f31, encRR, go_sem, Nat.reduceAdd]
  refine W_ind (fun k st => ∃ (i : Nat) (v : AV), i + k = R.length ∧ FrIs 32 [(1, .ptr 0 0), (3, v), (9, .sl .no (R.map encG)), (10, I R.length), (11, I i)] st.fr ∧ st.S[0]? = some (.var false [encT t, I a, .sl .no (R.map encG), .sl .no (H.map L), U s]) ∧ App P 3 st.T v (((R.take i).flatMap rAll).map I)) ?_ (n := R.length) ⟨0, .sl .nil [], by omega, ⟨rfl, rfl, rfl, rfl, by simp, rfl, trivial⟩, rfl, .nil⟩
  rintro k ⟨L', S, T⟩ ih ⟨i, v, hi, hF, hS, hA⟩
  obtain ⟨j, rfl⟩ := hF.ex
  have hw := wrap_nat i (by omega)
  simp +decide only [fr, jl, Nat.reduceAdd, go_sem]
  refine Wif_of (fun h => ?_) (fun h => ?_)
  · have hlt : i < R.length := by simpa using h
    obtain ⟨x, hx, hm⟩ := getE hlt
    have hl := f.rl x hm
    obtain ⟨v', T', happ, hA'⟩ := app_ints hA (rAll x) .no (by have := f.pre i; have := rAll_len x; omega)
    simp +decide only [go_sem, hx, encG, List.append_assoc, wrc, splice]
    refine WO_call rfl rfl rfl rfl rfl (ring_all_g hX x.f0 x.f1 (by omega)) ?_
    change ∀ S, appX P false _ _ (L (ringAll x.f0 x.f1)) S T = _ at happ
    simp +decide only [go_sem, happ, hw]
    refine ih (k - 1) _ (by omega) ⟨i + 1, v', by omega, ⟨rfl, rfl, rfl, rfl, rfl, rfl, trivial⟩, gOld hS, ?_⟩
    rw [take_snoc hx, List.flatMap_append, List.flatMap_cons, List.flatMap_nil, List.append_nil]; exact hA'
  · have hi' : i = R.length := by simp at h; omega
    subst hi'
    rw [List.take_length] at hA
    clear ih
    simp +decide only [go_sem, hS]
    refine W_ind (fun k st => ∃ (i : Nat) (v : AV), i + k = H.length ∧ FrIs 32 [(3, v), (21, .sl .no (H.map L)), (22, I H.length), (23, I i)] st.fr ∧ App P 3 st.T v ((R.flatMap rAll ++ (H.take i).flatten).map I)) ?_ (n := H.length) ⟨0, v, by omega, ⟨rfl, rfl, rfl, by simp, rfl, trivial⟩, by simpa using hA⟩
    rintro k ⟨L', S, T⟩ ih ⟨i, v, hi, hF, hA⟩
    obtain ⟨j, rfl⟩ := hF.ex
    have hw := wrap_nat i (by omega)
    simp +decide only [fr, jl, Nat.reduceAdd, go_sem]
    refine Wif_of (fun h => ?_) (fun h => ?_)
    · have hlt : i < H.length := by simpa using h
      obtain ⟨x, hx, hm⟩ := getE hlt
      have hl := f.hl x hm
      obtain ⟨v', T', happ, hA'⟩ := app_ints hA x .no (by have h1 := f.pre R.length; rw [List.take_length] at h1; have h2 := f.pre2 i; have h3 := f.hl x hm; rw [List.length_append]; omega)
      simp +decide only [go_sem, hx, happ, hw]
      refine ih (k - 1) _ (by omega) ⟨i + 1, v', by omega, ⟨rfl, rfl, rfl, rfl, rfl, trivial⟩, ?_⟩
      rw [take_snoc hx, List.flatten_append, List.flatten_cons, List.flatten_nil, List.append_nil, ← List.append_assoc]; exact hA'
    · have hi' : i = H.length := by simp at h; omega
      subst hi'
      rw [List.take_length] at hA
      obtain ⟨o, rfl⟩ := hA.is
      simp +decide only [go_sem]
      exact ⟨_, rfl, rfl, rfl⟩
end
end Go.Proofs.Ytokkipocdhfglaa.Ev
namespace Go.Proofs.Ytokkipocdhfglaa.Ev
open Go Go.RowKit
set_option linter.unusedVariables false
set_option linter.unusedSimpArgs false
/-- All cells that a world has. -/
def Zw (w : World) : Zs := fun b _ => b < w.heap.size
/-- The cells cs hold a. -/
def KE (w : World) (l : List AV) (cs : List Value) : Prop := l.length = cs.length ∧ ∀ j, j < l.length → DR (Zw w) w (l.getD j .dead) (cs.getD j undef)
theorem KE.one {w : World} {a : AV} {v : Value} (h : KE w [a] [v]) : DR (Zw w) w a v := h.2 0 (by simp)
theorem KE.of {w : World} {a : AV} {v : Value} (h : DR (Zw w) w a v) : KE w [a] [v] := ⟨rfl, fun j hj => by
  obtain rfl : j = 0 := by simpa using hj
  exact h⟩
theorem KE.agg {w : World} {l : List AV} {cs : Array Value} (h : KE w l cs.toList) : DR (Zw w) w (.agg l) (.agg cs) :=
  .agg l cs (by simpa using h.1) fun i hi => by have := h.2 i hi; simpa [List.getD_eq_getElem?_getD, Array.getD_eq_getD_getElem?] using this
theorem KE.app {w : World} {l m : List AV} {cs ds : List Value} (h : KE w l cs) (k : KE w m ds) : KE w (l ++ m) (cs ++ ds) := by
  refine ⟨by simp [h.1, k.1], fun j hj => ?_⟩
  by_cases hl : j < l.length
  · have := h.2 j hl
    have h2 : j < cs.length := by rw [← h.1]; exact hl
    simpa [List.getD_eq_getElem?_getD, List.getElem?_append_left hl, List.getElem?_append_left h2] using this
  · have h3 : j - l.length < m.length := by rw [List.length_append] at hj; omega
    have := k.2 _ h3
    have h2 : cs.length ≤ j := by rw [← h.1]; omega
    simpa [List.getD_eq_getElem?_getD, List.getElem?_append_right (Nat.le_of_not_lt hl), List.getElem?_append_right h2, ← h.1] using this
theorem list_of {α : Type} (Q : Nat → α → Prop) (n : Nat) (h : ∀ i, i < n → ∃ a, Q i a) : ∃ l : List α, l.length = n ∧ ∀ i a, l[i]? = some a → Q i a := by
  induction n with
  | zero => exact ⟨[], rfl, fun i a h => by simp at h⟩
  | succ n ih =>
    obtain ⟨l, hl, hq⟩ := ih (fun i hi => h i (by omega))
    obtain ⟨a, ha⟩ := h n (by omega)
    refine ⟨l ++ [a], by simp [hl], fun i b hb => ?_⟩
    rcases Nat.lt_or_ge i l.length with hi | hi
    · rw [List.getElem?_append_left hi] at hb; exact hq i b hb
    · rw [List.getElem?_append_right hi] at hb
      have hi' : i = l.length := by
        rcases Nat.lt_or_ge (i - l.length) 1 with h1 | h1
        · omega
        · rw [List.getElem?_eq_none (by simpa using h1)] at hb; cases hb
      subst hi'
      simp at hb; subst hb; rw [hl]; exact ha
/-- Whatever is read of cells of type t is a value of the form enc. -/
def OpE (P : Program) (t : TypeId) {α : Type} (enc : α → AV) (Wf : α → Prop) : Prop :=
  ∀ {H : Type} (e : TypeId × Value → H) (w : World) (base : Nat) (spare : Nat → Bool) (held : Bool) (fuel : Nat) (cs : List Value) (x : DataW H × List MemPlace),
    DataW.trod e P w base spare held fuel t cs = some x → (x.1.weights P t).all (· ≤ reachBytes) = true → ∃ a : α, KE w (enc a).cells cs ∧ Wf a
theorem OpE.int {P : Program} {t : TypeId} {k : IntKind} (ht : P.underlying t = some (.int k)) : OpE P t (fun n => .v (.int k n)) (fun x => k.min ≤ x ∧ x ≤ k.max) := by
  intro H enc w base spare held fuel cs x h _
  obtain ⟨n, rfl, _, hw⟩ := DataW.trod_int ht h
  exact ⟨n, KE.of (.v _ rfl), by simpa [Lit.wf] using hw⟩
theorem OpE.bool {P : Program} {t : TypeId} (ht : P.underlying t = some .bool) : OpE P t (fun b => .v (.bool b)) (fun _ => True) := by
  intro H enc w base spare held fuel cs x h _
  obtain ⟨n, rfl, _⟩ := DataW.trod_bool ht h
  exact ⟨n, KE.of (.v _ rfl), trivial⟩
theorem OpE.string {P : Program} {t : TypeId} (ht : P.underlying t = some .string) : OpE P t (fun s => .v (.string s)) (fun s => s.size ≤ 140737488351232) := by
  intro H enc w base spare held fuel cs x h hw
  obtain ⟨s, rfl, rfl, _⟩ := DataW.trod_string ht h
  refine ⟨s, KE.of (.v _ rfl), ?_⟩
  have e : (DataW.weights (H := H) P t (.lit (.string s.data.toList))) = [s.data.toList.length] := by unfold DataW.weights; rfl
  have hw1 : (DataW.weights (H := H) P t (.lit (.string s.data.toList))).all (· ≤ reachBytes) = true := hw
  rw [e] at hw1
  have h2 : s.data.toList.length ≤ reachBytes := by simpa using hw1
  rw [Array.length_toList] at h2
  exact h2
theorem all_app {a b : List Nat} (h : (a ++ b).all (· ≤ reachBytes) = true) : a.all (· ≤ reachBytes) = true ∧ b.all (· ≤ reachBytes) = true := by
  rw [List.all_append, Bool.and_eq_true] at h; exact h
theorem weightsAll_at {H : Type} {P : Program} {e : TypeId} : ∀ (ds : List (DataW H)), (DataW.weightsAll P e ds).all (· ≤ reachBytes) = true → ∀ d ∈ ds, (d.weights P e).all (· ≤ reachBytes) = true
  | [], _, d, hd => by cases hd
  | d0 :: r, h, d, hd => by
    rw [DataW.weightsAll] at h
    rcases List.mem_cons.mp hd with rfl | hd
    · exact (all_app h).1
    · exact weightsAll_at r (all_app h).2 d hd
theorem OpE.slice {P : Program} {t e : TypeId} {α : Type} {en : α → AV} {Wf : α → Prop} (ht : P.underlying t = some (.slice e)) (hz : 0 < P.cellsOf e) (hl : ∀ a, (en a).cells.length = P.cellsOf e) (h : OpE P e en Wf) :
    OpE P t (fun l : List α => .sl .no (l.map en)) (fun xs : List α => (∀ x ∈ xs, Wf x) ∧ xs.length * P.bytesOf e ≤ 140737488351232 ∧ xs.length ≤ maxLen) := by
  intro H enc w base spare held fuel cs x hx hw
  rcases Go.Deep.open_slice ht hx with ⟨rfl, _⟩ | ⟨a, len, cap, m, n, D, Pl, rfl, hb, hle, hm, hmm, rfl, hi⟩
  · exact ⟨[], KE.of (.nil _ none 0 fun _ => rfl), by simp, by simp, by simp⟩
  · have hlm : len ≤ m := by rw [hmm]; split <;> omega
    have hw1 : ((((List.range len).map D).length + ((List.range (m - len)).map fun j => D (len + j)).length) * P.bytesOf e :: (DataW.weightsAll P e ((List.range len).map D) ++ DataW.weightsAll P e ((List.range (m - len)).map fun j => D (len + j)))).all (· ≤ reachBytes) = true := by
      have e0 : DataW.weights P t (.slice ((List.range len).map D) ((List.range (m - len)).map fun j => D (len + j))) = ((((List.range len).map D).length + ((List.range (m - len)).map fun j => D (len + j)).length) * P.bytesOf e :: (DataW.weightsAll P e ((List.range len).map D) ++ DataW.weightsAll P e ((List.range (m - len)).map fun j => D (len + j)))) := by
        rw [DataW.weights]; simp only [ht]
      rw [← e0]; exact hw
    rw [List.all_cons, Bool.and_eq_true] at hw1
    obtain ⟨hw2, hw3⟩ := hw1
    have hw4 := weightsAll_at _ (all_app hw3).1
    obtain ⟨ps, hps, hq⟩ := list_of (fun i (p : α) => Wf p ∧ ∃ c : List Value, KE w (en p).cells c ∧ ∀ j u, c[j]? = some u → w.cell? (a.add (i * P.cellsOf e + j)) = some u) len (by
      intro i hi'
      obtain ⟨cs', hc, htr⟩ := hi i (by omega)
      obtain ⟨p, hp, hwf⟩ := h enc w base spare held n cs' _ htr (hw4 _ (List.mem_map.mpr ⟨i, List.mem_range.mpr hi', rfl⟩))
      obtain ⟨_, hcl, hat⟩ := World.cells?_some hc
      refine ⟨p, hwf, cs', hp, fun j u hu => ?_⟩
      have hj : j < cs'.length := (List.getElem?_eq_some_iff.1 hu).1
      have := hat j (by omega)
      rw [Go.Deep.add_add] at this
      rw [this, hu])
    refine ⟨ps, KE.of ?_, ?_, ?_, by omega⟩
    · by_cases h0 : len = 0
      · subst h0
        obtain rfl : ps = [] := List.eq_nil_of_length_eq_zero hps
        exact .nil _ _ _ (fun h => by cases h)
      · have hget : ∀ i, i < len → ∃ p, ps[i]? = some p ∧ (ps.map en).getD i .dead = en p := fun i hi' => by
          have : i < ps.length := by omega
          exact ⟨ps[i], List.getElem?_eq_getElem this, by simp [List.getD_eq_getElem?_getD, this]⟩
        have hcell : ∀ i j, i < len → j < P.cellsOf e → ∃ u, w.cell? (a.add (i * P.cellsOf e + j)) = some u ∧ DR (Zw w) w (((ps.map en).getD i .dead).cells.getD j .dead) u := by
          intro i j hi' hj
          obtain ⟨p, hp, hg⟩ := hget i hi'
          obtain ⟨_, c, hk, hc⟩ := hq i p hp
          have hcl : c.length = P.cellsOf e := by rw [← hk.1, hl]
          refine ⟨c[j]'(by omega), hc j _ (List.getElem?_eq_getElem (by omega)), ?_⟩
          have := hk.2 j (by rw [hl]; exact hj)
          rw [hg]
          simpa [List.getD_eq_getElem?_getD, List.getElem?_eq_getElem (show j < c.length by omega)] using this
        have hsp : a.spot = none := by
          obtain ⟨u, hu, _⟩ := hcell 0 0 (by omega) hz
          simp only [Nat.zero_mul, Nat.add_zero, Addr.add, if_true] at hu
          unfold World.cell? at hu
          split at hu
          · split at hu
            · cases hu
            · rename_i hs; simpa using hs
          · cases hu
        obtain ⟨b, p, s⟩ := a
        simp only at hsp
        subst hsp
        have hadd : ∀ n, (⟨b, p, none⟩ : Addr).add n = ⟨b, p + n, none⟩ := fun n => Addr.add_lit _ _ _
        simp only [hadd] at hcell
        have hlen : (ps.map en).length = len := by simpa using hps
        have := DR.sl (Z := Zw w) (w := w) .no (ps.map en) b p cap (P.cellsOf e) (fun i j => (w.cell? ⟨b, p + (i * P.cellsOf e + j), none⟩).getD undef) (by omega) (fun i hi' => by
          obtain ⟨q, _, hg⟩ := hget i (by omega)
          rw [hg, hl]) (fun i j hi' hj => by
          obtain ⟨u, hu, _⟩ := hcell i j (by omega) hj
          exact ⟨World.block_lt_of_cell? w _ hu, by rw [hu]; rfl⟩) (fun i j hi' hj => by
          obtain ⟨u, hu, hd⟩ := hcell i j (by omega) hj
          rw [hu]; exact hd)
        rw [hlen] at this
        exact this
    · intro x hx
      obtain ⟨j, hj, rfl⟩ := List.getElem_of_mem hx
      exact (hq j _ (List.getElem?_eq_getElem hj)).1
    · have h2 : (len + (m - len)) * P.bytesOf e ≤ reachBytes := by simpa using hw2
      rw [hps]
      exact Nat.le_trans (Nat.mul_le_mul_right _ (by omega)) h2
def OpF (P : Program) (o : Nat) (fs : List Field) {α : Type} (enc : α → List AV) (Wf : α → Prop) : Prop :=
  ∀ {H : Type} (e : TypeId × Value → H) (w : World) (base : Nat) (spare : Nat → Bool) (held : Bool) (n : Nat) (cs : List Value) (xs : List (DataW H × List MemPlace)),
    (∀ (i : Nat) f, fs[i]? = some f → DataW.trod e P w base spare held n f.type ((cs.drop f.offset).take (P.cellsOf f.type)) = xs[i]?) → xs.length = fs.length →
    (DataW.weightsEach P (fs.map (·.type)) (xs.map (·.1))).all (· ≤ reachBytes) = true → ∃ a : α, KE w (enc a) ((cs.drop o).take (enc a).length) ∧ Wf a
theorem OpF.one {P : Program} {o z : Nat} {f : Field} {α : Type} {en : α → AV} {Wf : α → Prop} (ho : f.offset = o) (hz : P.cellsOf f.type = z) (hl : ∀ a, (en a).cells.length = z) (h : OpE P f.type en Wf) : OpF P o [f] (fun a => (en a).cells) Wf := by
  intro H enc w base spare held n cs xs hx hle hw
  match xs, hle with
  | [x], _ =>
    have h0 := hx 0 f rfl
    rw [ho, hz] at h0
    have hw' : (x.1.weights P f.type ++ DataW.weightsEach (H := H) P [] []).all (· ≤ reachBytes) = true := by rw [DataW.weightsEach.eq_def] at hw; exact hw
    obtain ⟨a, ha, wa⟩ := h enc w base spare held n _ x h0 (all_app hw').1
    exact ⟨a, by rw [hl]; exact ha, wa⟩
theorem OpF.cons {P : Program} {o z : Nat} {f : Field} {fs : List Field} {α β : Type} {en : α → AV} {en2 : β → List AV} {Wf : α → Prop} {Wf2 : β → Prop} (ho : f.offset = o) (hz : P.cellsOf f.type = z) (hl : ∀ a, (en a).cells.length = z) (h : OpE P f.type en Wf)
    (h2 : OpF P (o + z) fs en2 Wf2) : OpF P o (f :: fs) (fun x : α × β => (en x.1).cells ++ en2 x.2) (fun x => Wf x.1 ∧ Wf2 x.2) := by
  intro H enc w base spare held n cs xs hx hle hw
  match xs, hle with
  | x :: xs, hle =>
    have h0 := hx 0 f rfl
    rw [ho, hz] at h0
    have hw' : (x.1.weights P f.type ++ DataW.weightsEach P (fs.map (·.type)) (xs.map (·.1))).all (· ≤ reachBytes) = true := by
      rw [List.map_cons, List.map_cons, DataW.weightsEach.eq_def] at hw; exact hw
    obtain ⟨a, ha, wa⟩ := h enc w base spare held n _ x h0 (all_app hw').1
    obtain ⟨b, hb, wb⟩ := h2 enc w base spare held n cs xs (fun i g hg => hx (i + 1) g (by simpa using hg)) (by simpa using hle) (all_app hw').2
    refine ⟨(a, b), ?_, wa, wb⟩
    have e : (cs.drop o).take ((en a).cells ++ en2 b).length = (cs.drop o).take z ++ (cs.drop (o + z)).take (en2 b).length := by
      rw [List.length_append, hl, List.take_add, List.drop_drop]
    show KE w ((en a).cells ++ en2 b) _
    rw [e]
    exact ha.app hb
theorem OpE.struct {P : Program} {t : TypeId} {fs : Array Field} {α β : Type} {en : α → List AV} {Wf : α → Prop} (f : β → α) (g : α → β) (hg : ∀ a, f (g a) = a) (ht : P.underlying t = some (.struct fs)) (hz : ∀ a, P.cellsOf t = (en a).length) (h : OpF P 0 fs.toList en Wf) :
    OpE P t (fun b => .agg (en (f b))) (fun b => Wf (f b)) := by
  intro H enc w base spare held fuel cs x hx hw
  obtain ⟨xs, n, rfl, rfl, hcs, hl, hf⟩ := DataW.trod_struct ht hx
  have hw' : (DataW.weightsEach P (fs.toList.map (·.type)) (xs.map (·.1))).all (· ≤ reachBytes) = true := by
    have hw0 : (DataW.weights P t (.agg (xs.map (·.1)))).all (· ≤ reachBytes) = true := hw
    rw [DataW.weights] at hw0; simp only [ht] at hw0; exact hw0
  obtain ⟨a, ha, wa⟩ := h enc w base spare held n cs xs (fun i g hg' => hf i g (by rw [← Array.getElem?_toList]; exact hg')) (by simpa using hl) hw'
  rw [List.drop_zero, List.take_of_length_le (by rw [hcs, hz a]; exact Nat.le_refl _)] at ha
  exact ⟨g a, by show KE w (en (f (g a))) cs; rw [hg]; exact ha, by show Wf (f (g a)); rw [hg]; exact wa⟩
theorem OpE.imp {P : Program} {t : TypeId} {α : Type} {en : α → AV} {Wf Wf2 : α → Prop} (h : OpE P t en Wf) (hi : ∀ a, Wf a → Wf2 a) : OpE P t en Wf2 := by
  intro H enc w base spare held fuel cs x hx hw
  obtain ⟨a, ha, wa⟩ := h enc w base spare held fuel cs x hx hw
  exact ⟨a, ha, hi a wa⟩
/-- An argument of a row. -/
theorem OpE.arg {P : Program} {t : TypeId} {α : Type} {en : α → AV} {Wf : α → Prop} (h : OpE P t en Wf) {H : Type} {enc : TypeId × Value → H} {W : World} {base : Nat} {spare : Nat → Bool} {held : Bool} {v : Value} {x : DataW H} {p : List MemPlace} {ts : List TypeId} {ds : List (DataW H)} {j : Nat}
    (hsz : (DataW.weightsEach P ts ds).all (· ≤ reachBytes) = true) (ht : ts[j]? = some t) (hd : ds[j]? = some x) (hx : DataW.Trod enc P W base spare held t v x p) : ∃ a : α, KE W (en a).cells v.cells.toList ∧ Wf a := by
  obtain ⟨fuel, hf⟩ := hx
  refine h enc W base spare held fuel _ _ hf ?_
  clear hf h
  induction ts generalizing ds j with
  | nil => simp at ht
  | cons t0 ts ih =>
    cases ds with
    | nil => simp at hd
    | cons d0 ds =>
      have hsz' : (d0.weights P t0 ++ DataW.weightsEach P ts ds).all (· ≤ reachBytes) = true := by rw [DataW.weightsEach.eq_def] at hsz; exact hsz
      cases j with
      | zero =>
        simp at ht hd; subst ht hd
        exact (all_app hsz').1
      | succ j => exact ih (all_app hsz').2 (by simpa using ht) (by simpa using hd)
/-- What a call on values alone gives. -/
theorem Gv.pc {P : Program} {X : Prims} (hX : OKX P X) {f : FuncId} {args : List AV} {r : AV} (h : Gv P X f args r) (ha : args.all d2 = true) (hs : args.map s2 = args) : ∃ r0, s3 r0 = r ∧ PC P f args r0 := by
  obtain ⟨_, k, hk⟩ := h
  obtain ⟨r0, S', h0, hd, hr⟩ := hk k (Nat.le_refl _)
  exact ⟨r0, hr, FC.pure (evB_sound hX h0).2 ha (fun i hi => by
    have h2 := congrArg (fun l => l.getD i .dead) hs
    simpa [List.getD_eq_getElem?_getD, hi] using h2) hd⟩
theorem Gv.pcI {P : Program} {X : Prims} (hX : OKX P X) {f : FuncId} {args : List AV} {x : Value} (h : Gv P X f args (.v x)) (ha : args.all d2 = true) (hs : args.map s2 = args) : PC P f args (.v x) := by
  obtain ⟨r0, hr, hp⟩ := h.pc hX ha hs
  have hr0 : r0 = .v x := by
    cases r0 with
    | v x => simpa [s3, s2, s1, s0] using hr
    | _ => simp [s3, s2, s1, s0] at hr
  subst hr0
  exact hp
/-- THE LAW'S ANSWER: what a function gives on values, it gives; and nothing that was there changes. -/
theorem Gv.row {P : Program} {X : Prims} (hX : OKX P X) {f : FuncId} {args : List AV} {b : Bool} (h : Gv P X f args (.v (.bool b))) (ha : args.all d2 = true) (hs : args.map s2 = args) (W : World) (vs : Array Value)
    (hl : args.length = vs.size) (hR : ∀ i, i < args.length → DR (Zw W) W (args.getD i .dead) (vs.getD i undef)) : Calls P f vs W fun e w' => e = .returned (.bool b) ∧ Below W.heap.size W w' := by
  refine (h.pcI hX ha hs (Zw W) W vs (fun b o h => h) hl hR).mono ?_
  rintro e w' ⟨v, Z', rfl, G, _, _, _, hv⟩
  cases hv
  exact ⟨rfl, ⟨G.os, G.tape, G.output, G.size, fun k hk => G.old hk⟩⟩
end Go.Proofs.Ytokkipocdhfglaa.Ev
namespace Go.Proofs.Ytokkipocdhfglaa.Ev
open Go Go.Proofs
variable {P : Program}
set_option linter.unusedVariables false
set_option linter.unusedSimpArgs false
set_option maxRecDepth 100000
/-- A value to which a function that has to do with rows may append. -/
def Gro (P : Program) (e : TypeId) (S : Obs) (v : AV) (l : List AV) : Prop := (v = .sl .nil [] ∧ l = []) ∨ ∃ id ver n, v = .ms id ver l.length ∧ tsz P e = some n ∧ S[id]? = some (.row true ver n e l)
/-- What an append leaves as it was. -/
def Left (e : TypeId) (S S' : Obs) : Prop := S.length ≤ S'.length ∧ ∀ j, j < S.length → (∀ ver n l, S[j]? ≠ some (.row true ver n e l)) → S'[j]? = S[j]?
theorem Left.var {e : TypeId} {S S' : Obs} (h : Left e S S') {j : Nat} {d : Bool} {cs : List AV} (hj : S[j]? = some (.var d cs)) : S'[j]? = some (.var d cs) := by
  rw [h.2 j (List.getElem?_eq_some_iff.mp hj).1 (fun ver n l e => by rw [hj] at e; cases e)]; exact hj
theorem Gro.nil {e : TypeId} {S : Obs} : Gro P e S (.sl .nil []) [] := .inl ⟨rfl, rfl⟩
theorem Gro.left {e e' : TypeId} (hne : e' ≠ e) {S S' : Obs} {v : AV} {l : List AV} (h : Gro P e S v l) (hL : Left e' S S') : Gro P e S' v l := by
  rcases h with h | ⟨id, ver, n, h1, h2, h3⟩
  · exact .inl h
  · refine .inr ⟨id, ver, n, h1, h2, ?_⟩
    rw [hL.2 id (List.getElem?_eq_some_iff.mp h3).1 (fun ver n l e => by rw [h3] at e; cases e; exact hne rfl)]; exact h3
theorem Gro.set {e : TypeId} {S : Obs} {v : AV} {l : List AV} (h : Gro P e S v l) {j : Nat} {d d' : Bool} {cs cs' : List AV} (hj : S[j]? = some (.var d cs)) : Gro P e (S.set j (.var d' cs')) v l := by
  rcases h with h | ⟨id, ver, n, h1, h2, h3⟩
  · exact .inl h
  · refine .inr ⟨id, ver, n, h1, h2, ?_⟩
    rw [List.getElem?_set_ne (fun e => by subst e; rw [hj] at h3; cases h3)]; exact h3
theorem Gro.go {e t : TypeId} {S : Obs} {T : Toks} {v : AV} {l m : List AV} {o : Tok} {n b : Nat} {z : List AV} (h : Gro P e S v l) (ht : tel P t = some e) (hn : tsz P e = some n) (hb : tby P e = some b) (hz : tzero P e = some z)
    (hc : (decide (0 < n) && (z.length == n && (uni n m && m.all d2))) = true) (hne : m ≠ []) (h2 : m.map s2 = m) (hs : (l.length + m.length) * b ≤ 140737488355328) (hl : l.length + m.length ≤ maxLen) :
    ∃ v' S', appX P true t v (.sl o m) S T = some (v', S', T) ∧ Gro P e S' v' (l ++ m) ∧ Left e S S' := by
  simp only [Bool.and_eq_true, decide_eq_true_eq, beq_iff_eq] at hc
  obtain ⟨c1, c2, c3, c4⟩ := hc
  have hu : uni n [] = true := rfl
  rcases h with ⟨rfl, rfl⟩ | ⟨id, ver, n', rfl, hn', hS⟩
  · refine ⟨.ms S.length 0 m.length, S ++ [.row true 0 n e m], ?_, .inr ⟨S.length, 0, n, by simp, hn, by simp⟩, by simp, fun j hj _ => List.getElem?_append_left hj⟩
    simp only [appX, if_true, appR, ht, srcL, hn, hb, hz]
    rw [if_pos ⟨c1, c2, c3, c4⟩, if_pos ⟨by simp, hu, rfl, hs, hl⟩]
    cases m with
    | nil => exact absurd rfl hne
    | cons a m => simp only [List.nil_append, h2, Option.map_some, List.length_nil, Nat.zero_add]
  · have e1 : n' = n := by rw [hn] at hn'; cases hn'; rfl
    subst e1
    have hid := (List.getElem?_eq_some_iff.mp hS).1
    refine ⟨.ms id (ver + 1) (l.length + m.length), S.set id (.row true (ver + 1) n' e (l ++ m)), ?_, .inr ⟨id, ver + 1, n', by simp, hn, by simp [hid]⟩, by simp, fun j hj hr => ?_⟩
    · simp only [appX, if_true, appR, ht, srcL, hn, hb, hz]
      rw [if_pos ⟨c1, c2, c3, c4⟩]
      simp only [hS]
      rw [if_pos ⟨by simp, by simp, by simp, Nat.le_refl _, hs, hl⟩, List.take_length, h2]; rfl
    · rw [List.getElem?_set_ne (fun e2 => by subst e2; exact hr _ _ _ hS)]
theorem Gro.fz {e : TypeId} {S : Obs} {v : AV} {l : List AV} (h : Gro P e S v l) : ∃ o, fz0 S 0 v = .sl o l := by
  rcases h with ⟨rfl, rfl⟩ | ⟨id, ver, n, rfl, -, hS⟩
  · exact ⟨_, rfl⟩
  · refine ⟨.no, ?_⟩
    simp only [fz0, Nat.zero_le, if_true, rowA, hS, Nat.le_refl, List.take_length]
theorem Gro.one {e : TypeId} {S : Obs} {v : AV} {l : List AV} (h : Gro P e S v l) : one v = true ∧ t0 v = v ∧ AV.cells v = [v] ∧ nt v = true ∧ t1 v = v := by
  rcases h with ⟨rfl, rfl⟩ | ⟨id, ver, n, rfl, -, hS⟩ <;> exact ⟨rfl, rfl, rfl, rfl, rfl⟩
end Go.Proofs.Ytokkipocdhfglaa.Ev
namespace Go.Proofs.Ytokkipocdhfglaa.Ev
open Go Go.Proofs
open Go.RowKit (wrap64)
set_option linter.unusedVariables false
set_option linter.unusedSimpArgs false
set_option maxRecDepth 100000
set_option maxHeartbeats 2000000
theorem app_lit0 (l : List Int) (o : Tok) (h : l.length ≤ 100000) (S : Obs) (T : Toks) : appX P false 48 (.sl .full []) (.sl o (l.map I)) S T = some (.sl (.own T.length) (l.map I), S, T ++ [some 3]) := by
  have h1 := ty48.2.2.2.2
  have h2 := ty3.1
  have h3 := ty3.2.2.1
  have h4 := ty3.2.2.2
  simp only [appX, isSl, appA, h1, h2, h3, h4]
  simp [uniI, allI, maxLen]
  have h5 : uni 1 [] = true := rfl
  simp [h5]
  exact ⟨fun _ _ => rfl, by omega, by omega⟩
theorem gro_ring {S : Obs} {v : AV} {l : List SRr} (h : Gro P 56 S v (l.map encG)) (x : SRr) (hl : l.length ≤ 100000) (T : Toks) :
    ∃ v' S', appX P true 30 v (.sl .full [encG x]) S T = some (v', S', T) ∧ Gro P 56 S' v' ((l ++ [x]).map encG) ∧ Left 56 S S' := by
  obtain ⟨v', S', h1, h2, h3⟩ := h.go (t := 30) (T := T) (m := [encG x]) (o := .full) ty30.2.2.2.2 ty56.1 ty56.2.2.1 ty56.2.2.2.1 rfl (by simp) rfl (by simp; omega) (by simp [maxLen]; omega)
  exact ⟨v', S', h1, by simpa using h2, h3⟩
theorem gro_row {S : Obs} {v : AV} {l : List (List Int)} (h : Gro P 48 S v (l.map L)) (x : List Int) (hl : l.length ≤ 100000) (T : Toks) :
    ∃ v' S', appX P true 24 v (.sl .full [L x]) S T = some (v', S', T) ∧ Gro P 48 S' v' ((l ++ [x]).map L) ∧ Left 48 S S' := by
  obtain ⟨v', S', h1, h2, h3⟩ := h.go (t := 24) (T := T) (m := [L x]) (o := .full) ty24.2.2.2.2 ty48.1 ty48.2.2.1 ty48.2.2.2.1 rfl (by simp) rfl (by simp; omega) (by simp [maxLen]; omega)
  exact ⟨v', S', h1, by simpa using h2, h3⟩
theorem stf : ((some true : Option Bool) == some false) = false := rfl
section
variable {X : Prims} (hX : Low X)
include hX
theorem made_g (t : List SVtx) (a : Int) (R : List SRr) (H : List (List Int)) (s : Int) (f : Fw R H) : Gv P X 14 [encRR t a R H s] (encRR t a R H s) := by
  refine gm_of (rw := true) (hX _ (by decide)) fun14 rfl ?_
  have hr := f.r
  have hh := f.h
  simp +decide only [Try.f14, encRR, go_sem, Nat.reduceAdd]
  refine W_ind (fun k st => ∃ (i : Nat) (v : AV), i + k = R.length ∧ FrIs 60 [(1, .ptr 0 0), (2, .ptr 1 0), (3, .ptr 2 0), (4, I i)] st.fr ∧ st.S[0]? = some (.var false [encT t, I a, .sl .no (R.map encG), .sl .no (H.map L), U s]) ∧ st.S[1]? = some (.var false [.sl .nil [], I 0, .sl .nil [], .sl .nil [], U 0]) ∧ st.S[2]? = some (.var false [encT t, I a, v, .sl .nil [], U s]) ∧ Gro P 56 st.S v ((R.take i).map encG)) ?_ (n := R.length) ⟨0, .sl .nil [], by omega, ⟨rfl, rfl, rfl, rfl, rfl, trivial⟩, rfl, rfl, rfl, .nil⟩
  rintro k ⟨L', S, T⟩ ih ⟨i, v, hi, hF, hS0, hS1, hS2, hA⟩
  obtain ⟨j, rfl⟩ := hF.ex
  have hw := wrap_nat i (by omega)
  simp +decide only [fr, jl, Nat.reduceAdd, go_sem, hS0]
  refine Wif_of (fun h => ?_) (fun h => ?_)
  · have hlt : i < R.length := by simpa using h
    obtain ⟨x, hx, hm⟩ := getE hlt
    have hl := f.rl x hm
    simp +decide only [go_sem]
    refine W_drawM true hmx (by kernel_rfl) ?_
    have e0 := app_lit0 x.f1 .no (by omega)
    obtain ⟨v', S1, happ, hA', hL⟩ := gro_ring hA x (by simp; omega) (T ++ [some 3])
    have hv := hA.one
    have hv' := hA'.one
    have hS20 := hL.var hS0
    have hS21 := hL.var hS1
    have hS22 := hL.var hS2
    simp only [one, t0, t1, AV.cells, nt] at hv hv'
    change appX P true _ _ (.sl .full [.agg [I x.f0, L x.f1]]) S _ = _ at happ
    simp +decide only [go_sem, hS0, hS2, hx, encG, e0, happ, fillA, places, splice, rwO, lit, qO, usesT, appsT, isT, Nat.reduceBEq, stf, List.any_cons, List.any_nil, Option.isSome_some, Bool.true_and, Bool.and_true, Bool.false_or, Bool.or_false, Bool.true_or, Bool.or_true, Bool.not_true, Bool.not_false, hv.1, hv.2.1, hv.2.2.1, hv.2.2.2.1, hv.2.2.2.2, hv'.1, hv'.2.1, hv'.2.2.1, hv'.2.2.2.1, hv'.2.2.2.2, hS22, hw]
    refine ih (k - 1) _ (by omega) ⟨i + 1, v', by omega, ⟨rfl, rfl, rfl, rfl, rfl, trivial⟩, ?_, ?_, ?_, ?_⟩
    · rw [List.getElem?_set_ne (by decide)]; exact hS20
    · rw [List.getElem?_set_ne (by decide)]; exact hS21
    · exact List.getElem?_set_self (List.getElem?_eq_some_iff.mp hS22).1
    · rw [take_snoc hx]; exact hA'.set hS22
  · have hi' : i = R.length := by simp at h; omega
    subst hi'
    rw [List.take_length] at hA
    clear ih
    simp +decide only [go_sem, Nat.reduceAdd]
    refine W_ind (fun k st => ∃ (i : Nat) (w : AV), i + k = H.length ∧ FrIs 60 [(1, .ptr 0 0), (2, .ptr 1 0), (3, .ptr 2 0), (5, I i)] st.fr ∧ st.S[0]? = some (.var false [encT t, I a, .sl .no (R.map encG), .sl .no (H.map L), U s]) ∧ st.S[1]? = some (.var false [.sl .nil [], I 0, .sl .nil [], .sl .nil [], U 0]) ∧ st.S[2]? = some (.var false [encT t, I a, v, w, U s]) ∧ Gro P 56 st.S v (R.map encG) ∧ Gro P 48 st.S w ((H.take i).map L)) ?_ (n := H.length) ⟨0, .sl .nil [], by omega, ⟨rfl, rfl, rfl, rfl, rfl, trivial⟩, hS0, hS1, hS2, hA, .nil⟩
    rintro k ⟨L', S, T⟩ ih ⟨i, w, hi, hF, hS0, hS1, hS2, hA, hB⟩
    obtain ⟨j, rfl⟩ := hF.ex
    have hw := wrap_nat i (by omega)
    have hv := hA.one
    simp only [one, t0, t1, AV.cells, nt] at hv
    simp +decide only [fr, jl, Nat.reduceAdd, go_sem, hS0]
    refine Wif_of (fun h => ?_) (fun h => ?_)
    · have hlt : i < H.length := by simpa using h
      obtain ⟨x, hx, hm⟩ := getE hlt
      have hl := f.hl x hm
      simp +decide only [go_sem]
      refine W_drawM true hmx (by kernel_rfl) ?_
      have e0 := app_lit0 x .no (by omega)
      obtain ⟨w', S1, happ, hB', hL⟩ := gro_row hB x (by simp; omega) (T ++ [some 3])
      have hu := hB.one
      have hu' := hB'.one
      have hS20 := hL.var hS0
      have hS21 := hL.var hS1
      have hS22 := hL.var hS2
      simp only [one, t0, t1, AV.cells, nt] at hu hu'
      simp +decide only [go_sem, hS0, hS2, hx, e0, happ, fillA, places, splice, rwO, lit, qO, usesT, appsT, isT, Nat.reduceBEq, stf, List.any_cons, List.any_nil, Option.isSome_some, Bool.true_and, Bool.and_true, Bool.false_or, Bool.or_false, Bool.true_or, Bool.or_true, Bool.not_true, Bool.not_false, hu.1, hu.2.1, hu.2.2.1, hu.2.2.2.1, hu.2.2.2.2, hu'.1, hu'.2.1, hu'.2.2.1, hu'.2.2.2.1, hu'.2.2.2.2, hS22, hw]
      refine ih (k - 1) _ (by omega) ⟨i + 1, w', by omega, ⟨rfl, rfl, rfl, rfl, rfl, trivial⟩, ?_, ?_, ?_, ?_, ?_⟩
      · rw [List.getElem?_set_ne (by decide)]; exact hS20
      · rw [List.getElem?_set_ne (by decide)]; exact hS21
      · exact List.getElem?_set_self (List.getElem?_eq_some_iff.mp hS22).1
      · exact (hA.left (by decide) hL).set hS22
      · rw [take_snoc hx]; exact hB'.set hS22
    · have hi' : i = H.length := by simp at h; omega
      subst hi'
      rw [List.take_length] at hB
      clear ih
      have hu := hB.one
      simp only [one, t0, t1, AV.cells, nt] at hu
      obtain ⟨o1, z1⟩ := (hA.set (d' := false) (cs' := [encT t, I a, v, w, U s]) hS1).fz
      obtain ⟨o2, z2⟩ := (hB.set (d' := false) (cs' := [encT t, I a, v, w, U s]) hS1).fz
      have hset : (S.set 1 (.var false [encT t, I a, v, w, U s]))[1]? = some (.var false [encT t, I a, v, w, U s]) := List.getElem?_set_self (List.getElem?_eq_some_iff.mp hS1).1
      simp +decide only [go_sem, Nat.reduceAdd, hS1, hS2, hu.1, hu.2.1, hu.2.2.2.2, hv.1, hv.2.1, hv.2.2.2.2, splice, rwO, lit, qO, encT]
      simp only [encT] at hset z1 z2
      simp +decide only [go_sem, hset]
      refine ⟨_, rfl, ?_, ?_⟩
      · show [.sl .no (t.map encV), I a, fz0 _ 0 v, fz0 _ 0 w, U s].all d1 = true
        rw [z1, z2]; rfl
      · show AV.agg (List.map s1 [.sl .no (t.map encV), I a, fz0 _ 0 v, fz0 _ 0 w, U s]) = _
        rw [z1, z2]; rfl
end
end Go.Proofs.Ytokkipocdhfglaa.Ev
namespace Go.Proofs.Ytokkipocdhfglaa.Ev
open Go Go.Proofs
open Go.RowKit (wrap64)
set_option linter.unusedVariables false
set_option linter.unusedSimpArgs false
set_option maxRecDepth 100000
section
variable {X : Prims} (hX : Low X)
include hX
theorem rruns_all_g (t : List SVtx) (a : Int) (R : List SRr) (H : List (List Int)) (s : Int) (f : Fw R H) : Gv P X 43 [encRR t a R H s] (L (allR R H)) := by
  refine gv_of (hX _ (by decide)) fun43 rfl ?_
  have hr := f.r
  have hh := f.h
  simp +decide only [Try.f43, encRR, go_sem, Nat.reduceAdd]
  refine W_ind (fun k st => ∃ (i : Nat) (v : AV), i + k = R.length ∧ FrIs 36 [(1, .ptr 0 0), (3, v), (4, I i)] st.fr ∧ st.S[0]? = some (.var false [encT t, I a, .sl .no (R.map encG), .sl .no (H.map L), U s]) ∧ App P 3 st.T v (((R.take i).flatMap rAll).map I)) ?_ (n := R.length) ⟨0, .sl .nil [], by omega, ⟨rfl, rfl, rfl, rfl, trivial⟩, rfl, .nil⟩
  rintro k ⟨L', S, T⟩ ih ⟨i, v, hi, hF, hS, hA⟩
  obtain ⟨j, rfl⟩ := hF.ex
  have hw := wrap_nat i (by omega)
  simp +decide only [fr, jl, Nat.reduceAdd, go_sem, hS]
  refine Wif_of (fun h => ?_) (fun h => ?_)
  · have hlt : i < R.length := by simpa using h
    obtain ⟨x, hx, hm⟩ := getE hlt
    have hl := f.rl x hm
    obtain ⟨v', T', happ, hA'⟩ := app_ints hA (rAll x) .no (by have := f.pre i; have := rAll_len x; omega)
    simp +decide only [go_sem, hS, hx, encG, List.append_assoc, wrc, splice]
    refine WO_call rfl rfl rfl rfl rfl (rring_all_g hX x.f0 x.f1 (by omega)) ?_
    change ∀ S, appX P false _ _ (L (ringAll x.f0 x.f1)) S T = _ at happ
    simp +decide only [go_sem, happ, hw]
    refine ih (k - 1) _ (by omega) ⟨i + 1, v', by omega, ⟨rfl, rfl, rfl, rfl, trivial⟩, hS, ?_⟩
    rw [take_snoc hx, List.flatMap_append, List.flatMap_cons, List.flatMap_nil, List.append_nil]; exact hA'
  · have hi' : i = R.length := by simp at h; omega
    subst hi'
    rw [List.take_length] at hA
    clear ih
    simp +decide only [go_sem, hS]
    refine W_ind (fun k st => ∃ (i : Nat) (v : AV), i + k = H.length ∧ FrIs 36 [(1, .ptr 0 0), (3, v), (5, I i)] st.fr ∧ st.S[0]? = some (.var false [encT t, I a, .sl .no (R.map encG), .sl .no (H.map L), U s]) ∧ App P 3 st.T v ((R.flatMap rAll ++ (H.take i).flatten).map I)) ?_ (n := H.length) ⟨0, v, by omega, ⟨rfl, rfl, rfl, rfl, trivial⟩, hS, by simpa using hA⟩
    rintro k ⟨L', S, T⟩ ih ⟨i, v, hi, hF, hS, hA⟩
    obtain ⟨j, rfl⟩ := hF.ex
    have hw := wrap_nat i (by omega)
    simp +decide only [fr, jl, Nat.reduceAdd, go_sem, hS]
    refine Wif_of (fun h => ?_) (fun h => ?_)
    · have hlt : i < H.length := by simpa using h
      obtain ⟨x, hx, hm⟩ := getE hlt
      have hl := f.hl x hm
      obtain ⟨v', T', happ, hA'⟩ := app_ints hA x .no (by have h1 := f.pre R.length; rw [List.take_length] at h1; have h2 := f.pre2 i; have h3 := f.hl x hm; rw [List.length_append]; omega)
      simp +decide only [go_sem, hS, hx, happ, hw]
      refine ih (k - 1) _ (by omega) ⟨i + 1, v', by omega, ⟨rfl, rfl, rfl, rfl, trivial⟩, hS, ?_⟩
      rw [take_snoc hx, List.flatten_append, List.flatten_cons, List.flatten_nil, List.append_nil, ← List.append_assoc]; exact hA'
    · have hi' : i = H.length := by simp at h; omega
      subst hi'
      rw [List.take_length] at hA
      obtain ⟨o, rfl⟩ := hA.is
      simp +decide only [go_sem]
      exact ⟨_, rfl, rfl, rfl⟩
end
end Go.Proofs.Ytokkipocdhfglaa.Ev
namespace Go.Proofs.Ytokkipocdhfglaa.Ev
open Go Go.Proofs
open Go.RowKit (wrap64)
set_option linter.unusedVariables false
set_option linter.unusedSimpArgs false
set_option maxRecDepth 100000
/-- The place of the first that is taken. -/
def idxf {α : Type} (p : α → Bool) (l : List α) : Int := if l.any p = true then (l.findIdx p : Int) else -1
theorem idxf_none {α : Type} {p : α → Bool} {l : List α} (h : ∀ x ∈ l, p x = false) : idxf p l = -1 := by
  unfold idxf
  rw [if_neg]
  intro e
  obtain ⟨x, hx, hp⟩ := List.any_eq_true.mp e
  rw [h x hx] at hp; cases hp
theorem idxf_at {α : Type} {p : α → Bool} {l : List α} {i : Nat} {x : α} (hx : l[i]? = some x) (hp : p x = true) (h : ∀ y ∈ l.take i, p y = false) : idxf p l = i := by
  obtain ⟨hi, e⟩ := List.getElem?_eq_some_iff.mp hx
  unfold idxf
  rw [if_pos (List.any_eq_true.mpr ⟨x, List.mem_of_getElem? hx, hp⟩)]
  have := (List.findIdx_eq hi).mpr ⟨by rw [e]; exact hp, fun j hj => h _ (by rw [List.mem_take_iff_getElem]; exact ⟨j, by omega, rfl⟩)⟩
  rw [this]
theorem idxf_ge {α : Type} {p : α → Bool} {l : List α} : decide (0 ≤ idxf p l) = l.any p := by
  unfold idxf
  by_cases h : l.any p = true
  · rw [if_pos h, h]; exact decide_eq_true (by omega)
  · rw [if_neg h]; simpa using h
/-- What a closure has caught: places. -/
structure Cp (cap : List AV) : Prop where
  ok : cap.all capOk = true
  d : cap.all d2 = false
  d0 : cap.all d0 = false
  n : cap.all nt = true
  t : cap.map t2 = cap
  t0 : cap.map t0 = cap
theorem Cp.ptr {i o : Nat} : Cp [.ptr i o] := ⟨rfl, rfl, rfl, rfl, rfl, rfl⟩
theorem Cp.ptrs {i o i' o' : Nat} : Cp [.ptr i o, .ptr i' o'] := ⟨rfl, rfl, rfl, rfl, rfl, rfl⟩
/-- What is asked of the closure. -/
def Takes (P : Program) (X : Prims) (g : FuncId) (cap : List AV) (S : Obs) {α : Type} (e : α → AV) (p : α → Bool) (l : List α) : Prop :=
  ∀ x ∈ l, ∀ J, Gs P X g (e x :: cap) (S ++ J) fun r S' => r = B (p x) ∧ ∃ J', S' = S ++ J'
section
variable {X : Prims} (hX : Low X)
include hX
theorem idx_ints_g (l : List Int) (hl : l.length ≤ 1000000) (g : FuncId) (cap : List AV) (S : Obs) (p : Int → Bool) (hc : Cp cap) (hg : Takes P X g cap S I p l) :
    Gs P X 91 [L l, .fn g cap] S fun r S' => r = I (idxf p l) ∧ ∃ J, S' = S ++ J := by
  refine gs_of (hX _ (by decide)) fun91 rfl ?_
  simp +decide only [Try.f91, go_sem, Nat.reduceAdd]
  refine W_ind (fun k st => ∃ i : Nat, i + k = l.length ∧ FrIs 19 [(0, L l), (1, .fn g cap), (7, I l.length), (8, I i)] st.fr ∧ (∃ J, st.S = S ++ J) ∧ st.T = [] ∧ ∀ y ∈ l.take i, p y = false) ?_ (n := l.length) ⟨0, by omega, ⟨rfl, rfl, rfl, rfl, rfl, trivial⟩, ⟨[], by simp⟩, rfl, by simp⟩
  rintro k ⟨L', S', T⟩ ih ⟨i, hi, hF, ⟨J, rfl⟩, rfl, hall⟩
  obtain ⟨j, rfl⟩ := hF.ex
  have hw := wrap_nat i (by omega)
  simp +decide only [fr, jl, Nat.reduceAdd, go_sem]
  refine Wif_of (fun h => ?_) (fun h => ?_)
  · have hlt : i < l.length := by simpa using h
    obtain ⟨x, hx, hm⟩ := getE hlt
    simp +decide only [go_sem, hx]
    refine WO_calls (g := g) (cap := cap) rfl rfl rfl hc.ok ?_ ?_ ?_
    · show (([I x] ++ cap).all d2 && !X.keep g) = false
      rw [List.all_append, hc.d, Bool.and_false, Bool.false_and]
    · show ([I x] ++ cap).all nt = true
      rw [List.all_append, hc.n]; rfl
    · show Gs P X g (List.map t2 ([I x] ++ cap)) (S ++ J) _
      rw [List.map_append, hc.t]
      refine (hg x hm J).mono fun r S' h => ?_
      obtain ⟨rfl, J', rfl⟩ := h
      simp +decide only [go_sem]
      refine Wif_of (fun h => ?_) (fun h => ?_)
      · simp +decide only [go_sem]
        exact ⟨_, rfl, by rw [idxf_at hx h hall], J', rfl⟩
      · simp +decide only [go_sem, hw]
        refine ih (k - 1) _ (by omega) ⟨i + 1, by omega, ⟨rfl, rfl, rfl, rfl, rfl, trivial⟩, ⟨J', rfl⟩, rfl, fun y hy => ?_⟩
        rw [take_snoc hx, List.mem_append] at hy
        rcases hy with hy | hy
        · exact hall y hy
        · rw [List.mem_singleton] at hy; subst hy; exact h
  · have hi' : i = l.length := by simp at h; omega
    subst hi'
    rw [List.take_length] at hall
    simp +decide only [go_sem]
    exact ⟨_, rfl, by rw [idxf_none hall], J, rfl⟩
theorem any_ints_g (l : List Int) (hl : l.length ≤ 1000000) (g : FuncId) (cap : List AV) (S : Obs) (p : Int → Bool) (hc : Cp cap) (hg : Takes P X g cap S I p l) :
    Gs P X 92 [L l, .fn g cap] S fun r S' => r = B (l.any p) ∧ ∃ J, S' = S ++ J := by
  refine gs_of (hX _ (by decide)) fun92 rfl ?_
  simp +decide only [Try.f92, go_sem, Nat.reduceAdd]
  refine WO_calls (g := 91) (cap := []) rfl rfl rfl rfl ?_ ?_ ?_
  · show (([L l, .fn g cap] ++ []).all d2 && !X.keep _) = false
    rw [List.append_nil]
    show (true && (cap.all d0 && true) && _) = false
    rw [hc.d0]; rfl
  · rfl
  · show Gs P X _ (List.map t2 [L l, .fn g cap]) S _
    have e : List.map t2 [L l, .fn g cap] = [L l, .fn g cap] := by
      show [L l, .fn g (cap.map t0)] = _
      rw [hc.t0]
    rw [e]
    refine (idx_ints_g hX l hl g cap S p hc hg).mono fun r S' h => ?_
    obtain ⟨rfl, J, rfl⟩ := h
    simp +decide only [go_sem]
    have e := idxf_ge (p := p) (l := l)
    exact ⟨_, rfl, by rw [← e], J, rfl⟩
end
end Go.Proofs.Ytokkipocdhfglaa.Ev
namespace Go.Proofs.Ytokkipocdhfglaa.Ev
open Go Go.Proofs
open Go.RowKit (wrap64)
set_option linter.unusedVariables false
set_option linter.unusedSimpArgs false
set_option maxRecDepth 100000
def wholeB (t : List SVtx) (a : Int) (R : List SRr) (H : List (List Int)) (s : Int) : Bool :=
  decide (Valid t) && !decide (a < 2) && !decide (16 < a) && ((R.length : Int) == ((vsOf t 3).length : Int)) && ((H.length : Int) == ((vsOf t 1).length : Int)) && (s != 0) && !(allB s).any fun p => decide (((vsOf t 3).length : Int) ≤ p)
section
variable {X : Prims} (hX : Low X)
include hX
theorem whole1_g (n x : Int) (j : Nat) (S : Obs) (h : S[j]? = some (.var false [I n])) : Gs P X 94 [I x, .ptr j 0] S fun r S' => r = B (decide (n ≤ x)) ∧ S' = S := by
  refine gs_of (hX _ (by decide)) fun94 rfl ?_
  simp +decide only [Try.f94, go_sem, Nat.reduceAdd, h]
  exact ⟨_, rfl, rfl, rfl⟩
theorem whole_g (t : List SVtx) (a : Int) (R : List SRr) (H : List (List Int)) (s : Int) (ht : t.length ≤ 64) (hs : U64 s) (f : Fw R H) : Gv P X 61 [encRR t a R H s] (B (wholeB t a R H s)) := by
  refine gv_of (hX _ (by decide)) fun61 rfl ?_
  have hr := f.r
  have hh := f.h
  simp +decide only [Try.f61, encRR, go_sem, Nat.reduceAdd]
  refine WO_call rfl rfl rfl rfl rfl (check_g hX t (by omega)) ?_
  unfold wholeB
  by_cases hV : Valid t
  · by_cases h1 : a < 2
    · simp +decide only [go_sem, hV, h1]
      exact ⟨_, rfl, rfl, rfl⟩
    · by_cases h2 : 16 < a
      · simp +decide only [go_sem, hV, h1, h2]
        exact ⟨_, rfl, rfl, rfl⟩
      · simp +decide only [go_sem, hV, h1, h2]
        refine WO_call rfl rfl rfl rfl rfl (procs_g hX t (by omega)) ?_
        simp +decide only [go_sem]
        refine WO_call rfl rfl rfl rfl rfl (all_g hX hs) ?_
        simp +decide only [go_sem]
        refine WO_calls (g := 92) (cap := []) rfl rfl rfl rfl rfl rfl ?_
        show Gs P X _ [L (allB s), .fn 94 [.ptr _ _]] _ _
        refine (any_ints_g hX (allB s) (by have := allB_len s; omega) 94 _ _ (fun p => decide (((vsOf t 3).length : Int) ≤ p)) Cp.ptr fun x hx J => (whole1_g hX (vsOf t 3).length x _ _ rfl).mono fun r S' h => ?_).mono fun r S' h => ?_
        · exact ⟨h.1, J, h.2⟩
        · obtain ⟨rfl, J, rfl⟩ := h
          simp +decide only [go_sem]
          refine W_draw hmx (by kernel_rfl) ?_
          cases h3 : ((R.length : Int) == ((vsOf t 3).length : Int))
          · simp +decide only [go_sem, h3]
            refine WO_not rfl ?_
            simp +decide only [go_sem, h3]
            exact ⟨_, rfl, rfl, rfl⟩
          · simp +decide only [go_sem, h3]
            refine WO_call rfl rfl rfl rfl rfl (nodes_g hX t (by omega)) ?_
            cases h4 : ((H.length : Int) == ((vsOf t 1).length : Int))
            · simp +decide only [go_sem, h4]
              exact ⟨_, rfl, rfl, rfl⟩
            · cases h5 : (s != 0)
              · simp +decide only [go_sem, h4, h5]
                exact ⟨_, rfl, rfl, rfl⟩
              · simp +decide only [go_sem, h4, h5]
                exact ⟨_, rfl, rfl, rfl⟩
  · simp +decide only [go_sem, hV]
    exact ⟨_, rfl, rfl, rfl⟩
end
end Go.Proofs.Ytokkipocdhfglaa.Ev
namespace Go.Proofs.Ytokkipocdhfglaa.Ev
open Go Go.Proofs
open Go.RowKit (wrap64)
set_option linter.unusedVariables false
set_option linter.unusedSimpArgs false
set_option maxRecDepth 100000
def ringOk (a s : Int) (x : SRr) (j : Nat) : Bool := (okL (rAll x) 0 && decide ((x.f1.length : Int) ≤ mx a 2)) && (tb s (j : Int) || !decide (0 < ((rAll x).length : Int)))
def ringsB (a s : Int) (R : List SRr) : Bool := decide (∀ j : Nat, j < R.length → ringOk a s (R.getD j default) j = true)
def mayB (t : List SVtx) (a : Int) (R : List SRr) (H : List (List Int)) (s : Int) : Bool := wholeB t a R H s && (ringsB a s R && okL (allR R H) 0)
theorem ringsB_no {a s : Int} {R : List SRr} {i : Nat} {x : SRr} (hx : R[i]? = some x) (h : ringOk a s x i = false) : ringsB a s R = false := decide_eq_false fun H => by
  have hi : i < R.length := (List.getElem?_eq_some_iff.mp hx).1
  have := H i hi
  rw [List.getD_eq_getElem?_getD, hx, Option.getD_some, h] at this
  cases this
section
variable {X : Prims} (hX : Low X)
include hX
theorem runs_may_g (t : List SVtx) (a : Int) (R : List SRr) (H : List (List Int)) (s : Int) (ht : t.length ≤ 64) (hs : U64 s) (f : Fw R H) : Gv P X 32 [encRR t a R H s] (B (mayB t a R H s)) := by
  refine gv_of (hX _ (by decide)) fun32 rfl ?_
  have hr := f.r
  have hh := f.h
  unfold mayB
  simp +decide only [Try.f32, encRR, go_sem, Nat.reduceAdd]
  refine WO_call rfl rfl rfl rfl rfl (whole_g hX t a R H s ht hs f) ?_
  cases hW : wholeB t a R H s
  · simp +decide only [go_sem]
    exact ⟨_, rfl, rfl, rfl⟩
  simp +decide only [go_sem, Nat.reduceAdd]
  refine W_ind (fun k st => ∃ i : Nat, i + k = R.length ∧ FrIs 57 [(1, .ptr 0 0), (12, .sl .no (R.map encG)), (13, I R.length), (14, I i)] st.fr ∧ st.S[0]? = some (.var false [encT t, I a, .sl .no (R.map encG), .sl .no (H.map L), U s]) ∧ st.T = [] ∧ ∀ j : Nat, j < i → ringOk a s (R.getD j default) j = true) ?_ (n := R.length) ⟨0, by omega, ⟨rfl, rfl, rfl, rfl, rfl, trivial⟩, rfl, rfl, fun j h => by omega⟩
  rintro k ⟨L', S, T⟩ ih ⟨i, hi, hF, hS, rfl, hall⟩
  obtain ⟨j, rfl⟩ := hF.ex
  have hw := wrap_nat i (by omega)
  simp +decide only [fr, jl, Nat.reduceAdd, go_sem]
  refine Wif_of (fun h => ?_) (fun h => ?_)
  · have hlt : i < R.length := by simpa using h
    obtain ⟨x, hx, hm⟩ := getE hlt
    have hl := f.rl x hm
    have hS2 : ∀ m, (S ++ m)[0]? = some (.var false [encT t, I a, .sl .no (R.map encG), .sl .no (H.map L), U s]) := fun m => gOld hS
    have hk : ringOk a s x i = ((okL (rAll x) 0 && decide ((x.f1.length : Int) ≤ mx a 2)) && (tb s (i : Int) || !decide (0 < ((rAll x).length : Int)))) := rfl
    simp +decide only [go_sem, hS, hS2, hx, encG]
    refine WO_call rfl rfl rfl rfl rfl (ring_may_g hX x.f0 x.f1 a (by omega)) ?_
    change WO P X _ _ _ _ _ ⟨put _ _ (B (okL (rAll x) 0 && decide ((x.f1.length : Int) ≤ mx a 2))), _, _⟩ _
    cases h1 : (okL (rAll x) 0 && decide ((x.f1.length : Int) ≤ mx a 2))
    · rw [h1] at hk
      simp +decide only [go_sem, hS, hS2]
      refine WO_not rfl ?_
      simp +decide only [go_sem, hS, hS2]
      refine WO_not rfl ?_
      simp +decide only [go_sem, hS, hS2]
      exact ⟨_, rfl, rfl, by rw [ringsB_no hx hk]; rfl⟩
    rw [h1] at hk
    simp +decide only [go_sem, hS, hS2]
    refine WO_call rfl rfl rfl rfl rfl (has_g hX hs i) ?_
    cases h2 : tb s (i : Int)
    · rw [h2] at hk
      simp +decide only [go_sem, hS, hS2, encG]
      refine WO_call rfl rfl rfl rfl rfl (ring_all_g hX x.f0 x.f1 (by omega)) ?_
      change WO P X _ _ _ _ _ ⟨put _ _ (L (rAll x)), _, _⟩ _
      simp +decide only [go_sem, hS, hS2, encG]
      cases h3 : decide (0 < ((rAll x).length : Int))
      · rw [h3] at hk
        simp +decide only [go_sem, h3, hw]
        refine ih (k - 1) _ (by omega) ⟨i + 1, by omega, ⟨rfl, rfl, rfl, rfl, rfl, trivial⟩, hS2 _, rfl, fun j hj => ?_⟩
        by_cases hji : j = i
        · subst hji; rw [List.getD_eq_getElem?_getD, hx, Option.getD_some]; exact hk
        · exact hall j (by omega)
      · rw [h3] at hk
        simp +decide only [go_sem, h3]
        exact ⟨_, rfl, rfl, by rw [ringsB_no hx hk]; rfl⟩
    · rw [h2] at hk
      simp +decide only [go_sem, hS, hS2]
      refine WO_not rfl ?_
      simp +decide only [go_sem, hS, hS2, hw]
      refine ih (k - 1) _ (by omega) ⟨i + 1, by omega, ⟨rfl, rfl, rfl, rfl, rfl, trivial⟩, hS2 _, rfl, fun j hj => ?_⟩
      by_cases hji : j = i
      · subst hji; rw [List.getD_eq_getElem?_getD, hx, Option.getD_some]; exact hk
      · exact hall j (by omega)
  · have hi' : i = R.length := by simp at h; omega
    subst hi'
    clear ih
    have hrg : ringsB a s R = true := decide_eq_true fun j h => hall j h
    rw [hrg]
    simp +decide only [go_sem, hS]
    refine WO_call rfl rfl rfl rfl rfl (runs_all_g hX t a R H s f) ?_
    have hA := f.all
    generalize allR R H = A at hA
    simp +decide only [go_sem, Nat.reduceAdd]
    refine W_ind (fun k s => ∃ i : Nat, i + k = A.length ∧ FrIs 57 [(5, L A), (40, L A), (41, I A.length), (42, I i)] s.fr ∧ s.T = [] ∧ ∀ j : Nat, j < i → 1 ≤ rd A (j : Int) ∧ rd A (j : Int) ∉ A.take j) ?_ (n := A.length) ⟨0, by omega, ⟨rfl, rfl, rfl, rfl, rfl, trivial⟩, rfl, fun j h => by omega⟩
    rintro k ⟨L', S, T⟩ ih ⟨i, hi, hF, rfl, hall⟩
    obtain ⟨j, rfl⟩ := hF.ex
    have hw := wrap_nat i (by omega)
    simp +decide only [fr, jl, Nat.reduceAdd, go_sem]
    refine Wif_of (fun h => ?_) (fun h => ?_)
    · have hlt : i < A.length := by simpa using h
      have hx := rd_at hlt
      by_cases h1 : rd A (i : Int) ≤ 0
      · simp +decide only [go_sem, hx, h1]
        refine WO_not rfl ?_
        simp +decide only [go_sem]
        exact ⟨_, rfl, rfl, by rw [okL_no hlt (.inl (by omega))]⟩
      · have hb : (i : Int) ≤ (A.length : Int) := by omega
        simp +decide only [go_sem, hx, h1, slA, hb, ← List.map_take]
        refine WO_call rfl rfl rfl rfl rfl (contains_g hX (A.take i) (rd A (i : Int)) (by simp; omega)) ?_
        by_cases h2 : rd A (i : Int) ∈ A.take i
        · simp +decide only [go_sem, h2]
          exact ⟨_, rfl, rfl, by rw [okL_no hlt (.inr h2)]⟩
        · simp +decide only [go_sem, h2, hw]
          refine ih (k - 1) _ (by omega) ⟨i + 1, by omega, ⟨rfl, rfl, rfl, rfl, rfl, trivial⟩, rfl, fun j hj => ?_⟩
          by_cases hji : j = i
          · subst hji; exact ⟨by omega, h2⟩
          · exact hall j (by omega)
    · have hi' : i = A.length := by simp at h; omega
      subst hi'
      have hok : okL A 0 = true := decide_eq_true fun j h _ => hall j h
      simp +decide only [go_sem, Nat.reduceAdd]
      exact ⟨_, rfl, rfl, by rw [hok]⟩
end
end Go.Proofs.Ytokkipocdhfglaa.Ev
namespace Go.Proofs.Ytokkipocdhfglaa.Ev
open Go Go.Proofs
open Go.RowKit (wrap64)
set_option linter.unusedVariables false
set_option linter.unusedSimpArgs false
set_option maxRecDepth 100000
def bitv (n : Int) : Int := if 0 ≤ n ∧ n < 64 then ((2 ^ n.toNat : Nat) : Int) else 0
def ofS (l : List Int) : Int := l.foldl (fun s n => Go.bits .or .u64 s (bitv n)) 0
theorem ofS_snoc {l : List Int} {i : Nat} {x : Int} (h : l[i]? = some x) : ofS (l.take (i + 1)) = Go.bits .or .u64 (ofS (l.take i)) (bitv x) := by
  unfold ofS
  rw [take_snoc h, List.foldl_append]; rfl
def fewB (t : List SVtx) (R : List SRr) (H : List (List Int)) : Bool := !decide ((64 : Int) < t.length) && (!decide ((40 : Int) < R.length) && (!decide ((40 : Int) < H.length) && (R.all (fun x => !decide ((40 : Int) < x.f1.length)) && H.all (fun l => !decide ((40 : Int) < l.length)))))
theorem fewB_of {t : List SVtx} {R : List SRr} {H : List (List Int)} (h : fewB t R H = true) : t.length ≤ 64 ∧ R.length ≤ 40 ∧ H.length ≤ 40 ∧ (∀ x ∈ R, x.f1.length ≤ 40) ∧ ∀ l ∈ H, l.length ≤ 40 := by
  simp only [fewB, Bool.and_eq_true, Bool.not_eq_true', decide_eq_false_iff_not, List.all_eq_true] at h
  obtain ⟨h1, h2, h3, h4, h5⟩ := h
  exact ⟨by omega, by omega, by omega, fun x hx => by have := h4 x hx; omega, fun x hx => by have := h5 x hx; omega⟩
theorem all_no {α : Type} {p : α → Bool} {l : List α} {x : α} (h : x ∈ l) (hp : p x = false) : l.all p = false := by
  cases e : l.all p with
  | false => rfl
  | true => rw [List.all_eq_true.mp e x h] at hp; cases hp
section
variable {X : Prims} (hX : Low X)
include hX
theorem bof_g (l : List Int) (hl : l.length ≤ 100000) : Gv P X 37 [L l] (U (ofS l)) := by
  refine gv_of (hX _ (by decide)) fun37 rfl ?_
  simp +decide only [Try.f37, go_sem, Nat.reduceAdd]
  refine W_ind (fun k st => ∃ i : Nat, i + k = l.length ∧ FrIs 18 [(3, U (ofS (l.take i))), (6, L l), (7, I l.length), (8, I i)] st.fr ∧ st.S = [] ∧ st.T = []) ?_ (n := l.length) ⟨0, by omega, ⟨rfl, rfl, rfl, rfl, rfl, trivial⟩, rfl, rfl⟩
  rintro k ⟨L', S, T⟩ ih ⟨i, hi, hF, rfl, rfl⟩
  obtain ⟨j, rfl⟩ := hF.ex
  have hw := wrap_nat i (by omega)
  simp +decide only [fr, jl, Nat.reduceAdd, go_sem]
  refine Wif_of (fun h => ?_) (fun h => ?_)
  · have hlt : i < l.length := by simpa using h
    obtain ⟨x, hx, hm⟩ := getE hlt
    simp +decide only [go_sem, hx]
    refine WO_call rfl rfl rfl rfl rfl (bit_g hX x) ?_
    simp +decide only [go_sem, or_eq, hw]
    exact ih (k - 1) _ (by omega) ⟨i + 1, by omega, ⟨rfl, by rw [ofS_snoc hx]; rfl, rfl, rfl, rfl, trivial⟩, rfl, rfl⟩
  · have hi' : i = l.length := by simp at h; omega
    subst hi'
    rw [List.take_length]
    simp +decide only [go_sem]
    exact ⟨_, rfl, rfl, rfl⟩
theorem few_g (t : List SVtx) (a : Int) (R : List SRr) (H : List (List Int)) (s : Int) : Gv P X 12 [encRR t a R H s] (B (fewB t R H)) := by
  refine gv_of (hX _ (by decide)) fun12 rfl ?_
  unfold fewB
  simp +decide only [Try.f12, encRR, go_sem, Nat.reduceAdd]
  by_cases h1 : (64 : Int) < t.length
  · simp +decide only [go_sem, h1]
    exact ⟨_, rfl, rfl, rfl⟩
  by_cases h2 : (40 : Int) < R.length
  · simp +decide only [go_sem, h1, h2]
    exact ⟨_, rfl, rfl, rfl⟩
  by_cases h3 : (40 : Int) < H.length
  · simp +decide only [go_sem, h1, h2, h3]
    exact ⟨_, rfl, rfl, rfl⟩
  simp +decide only [go_sem, h1, h2, h3, Nat.reduceAdd]
  refine W_ind (fun k st => ∃ i : Nat, i + k = R.length ∧ FrIs 50 [(1, .ptr 0 0), (3, I i)] st.fr ∧ st.S = [.var false [encT t, I a, .sl .no (R.map encG), .sl .no (H.map L), U s]] ∧ st.T = [] ∧ ∀ x ∈ R.take i, (!decide ((40 : Int) < x.f1.length)) = true) ?_ (n := R.length) ⟨0, by omega, ⟨rfl, rfl, rfl, trivial⟩, rfl, rfl, by simp⟩
  rintro k ⟨L', S, T⟩ ih ⟨i, hi, hF, rfl, rfl, hall⟩
  obtain ⟨j, rfl⟩ := hF.ex
  have hw := wrap_nat i (by omega)
  simp +decide only [fr, jl, Nat.reduceAdd, go_sem]
  refine Wif_of (fun h => ?_) (fun h => ?_)
  · have hlt : i < R.length := by simpa using h
    obtain ⟨x, hx, hm⟩ := getE hlt
    simp +decide only [go_sem, hx, encG]
    refine Wif_of (fun h4 => ?_) (fun h4 => ?_)
    · simp +decide only [go_sem]
      exact ⟨_, rfl, rfl, by rw [all_no hm (by rw [h4]; rfl)]; rfl⟩
    · simp +decide only [go_sem, hw]
      refine ih (k - 1) _ (by omega) ⟨i + 1, by omega, ⟨rfl, rfl, rfl, trivial⟩, rfl, rfl, fun y hy => ?_⟩
      rw [take_snoc hx, List.mem_append, List.mem_singleton] at hy
      rcases hy with hy | rfl
      · exact hall y hy
      · rw [h4]; rfl
  · have hi' : i = R.length := by simp at h; omega
    subst hi'
    rw [List.take_length] at hall
    have ha : R.all (fun x => !decide ((40 : Int) < x.f1.length)) = true := List.all_eq_true.mpr hall
    rw [ha]
    clear ih
    simp +decide only [go_sem, Nat.reduceAdd]
    refine W_ind (fun k st => ∃ i : Nat, i + k = H.length ∧ FrIs 50 [(1, .ptr 0 0), (4, I i)] st.fr ∧ st.S = [.var false [encT t, I a, .sl .no (R.map encG), .sl .no (H.map L), U s]] ∧ st.T = [] ∧ ∀ x ∈ H.take i, (!decide ((40 : Int) < x.length)) = true) ?_ (n := H.length) ⟨0, by omega, ⟨rfl, rfl, rfl, trivial⟩, rfl, rfl, by simp⟩
    rintro k ⟨L', S, T⟩ ih ⟨i, hi, hF, rfl, rfl, hall⟩
    obtain ⟨j, rfl⟩ := hF.ex
    have hw := wrap_nat i (by omega)
    simp +decide only [fr, jl, Nat.reduceAdd, go_sem]
    refine Wif_of (fun h => ?_) (fun h => ?_)
    · have hlt : i < H.length := by simpa using h
      obtain ⟨x, hx, hm⟩ := getE hlt
      simp +decide only [go_sem, hx]
      refine Wif_of (fun h4 => ?_) (fun h4 => ?_)
      · simp +decide only [go_sem]
        exact ⟨_, rfl, rfl, by rw [all_no hm (by rw [h4]; rfl)]⟩
      · simp +decide only [go_sem, hw]
        refine ih (k - 1) _ (by omega) ⟨i + 1, by omega, ⟨rfl, rfl, rfl, trivial⟩, rfl, rfl, fun y hy => ?_⟩
        rw [take_snoc hx, List.mem_append, List.mem_singleton] at hy
        rcases hy with hy | rfl
        · exact hall y hy
        · rw [h4]; rfl
    · have hi' : i = H.length := by simp at h; omega
      subst hi'
      rw [List.take_length] at hall
      have ha : H.all (fun x => !decide ((40 : Int) < x.length)) = true := List.all_eq_true.mpr hall
      rw [ha]
      simp +decide only [go_sem, Nat.reduceAdd]
      exact ⟨_, rfl, rfl, rfl⟩
end
end Go.Proofs.Ytokkipocdhfglaa.Ev
namespace Go.Proofs.Ytokkipocdhfglaa.Ev
open Go Go.Proofs
set_option linter.unusedVariables false
set_option linter.unusedSimpArgs false
open Go.RowKit (wrap64)
set_option maxRecDepth 100000

/-- The reference's way of saying it. -/
def rbelow (t : List SVtx) (i : Nat) : Bool := decide (0 ≤ par t i) && decide (par t i < (i : Int)) && decide (lev t i = wrap64 (lev t (par t i).toNat + 1)) && decide (lev t i ≤ 3)
def rkid (t : List SVtx) (i : Nat) : Bool := if lev t i < 3 then decide (1 ≤ (kidsOf t (i : Int)).length) && decide ((kidsOf t (i : Int)).length ≤ 8) else true
theorem valid_ref (t : List SVtx) (h1 : 1 ≤ t.length) (h64 : t.length ≤ 64) (h32 : (vsOf t 3).length ≤ 32) :
    Valid t ↔ (par t 0 = -1 ∧ lev t 0 = 0 ∧ (∀ j, j < t.length → 1 ≤ j → rbelow t j = true) ∧ (∀ j, j < t.length → 0 ≤ j → rkid t j = true)) := by
  constructor
  · intro h
    refine ⟨h.root.1, h.root.2, fun j hj hj1 => ?_, fun j hj _ => ?_⟩
    · have := h.below hj
      rw [belowB, if_neg (by omega)] at this
      exact this
    · have := h.2.2.2 j hj
      simp only [okAt, Bool.and_eq_true, decide_eq_true_eq] at this
      unfold rkid
      split
      · rename_i hl
        have h3 : (lev t j == 3) = false := beq_eq_false_iff_ne.mpr (by omega)
        rw [h3] at this
        have h4 : ¬ (kidsOf t (j : Int)).length = 0 := by
          intro h5
          rw [h5] at this
          exact absurd this.1.2 (by decide)
        rw [decide_eq_true (by omega), decide_eq_true this.2]
        rfl
      · rfl
  · rintro ⟨hp, hl, hb, hk⟩
    have hbel : ∀ i, i < t.length → belowB t i = true := by
      intro i hi
      unfold belowB
      by_cases h0 : i = 0
      · rw [if_pos h0, decide_eq_true hp, decide_eq_true hl]; rfl
      · rw [if_neg h0]
        exact hb i hi (by omega)
    have hl3 : ∀ i, i < t.length → lev t i ≤ 3 := by
      intro i hi
      by_cases h0 : i = 0
      · subst h0; omega
      · have := hb i hi (by omega)
        simp only [rbelow, Bool.and_eq_true, decide_eq_true_eq] at this
        exact this.2
    refine ⟨h1, h64, h32, fun i hi => ?_⟩
    simp only [okAt, Bool.and_eq_true, decide_eq_true_eq]
    by_cases h3 : lev t i = 3
    · have h0 : kidsOf t (i : Int) = [] := by
        apply List.eq_nil_iff_forall_not_mem.mpr
        intro x hx
        obtain ⟨j, rfl, _, hj, hP⟩ := pick_mem.mp hx
        have hP := of_decide_eq_true hP
        have hj0 : j ≠ 0 := by rintro rfl; omega
        have := hb j (by omega) (by omega)
        simp only [rbelow, Bool.and_eq_true, decide_eq_true_eq] at this
        rw [hP, Int.toNat_natCast, h3] at this
        have h4 : wrap64 (3 + 1) = 4 := by decide +kernel
        omega
      rw [h0]
      exact ⟨⟨hbel i hi, by rw [h3]; rfl⟩, by simp⟩
    · have := hk i hi (Nat.zero_le _)
      have hl := hl3 i hi
      rw [rkid, if_pos (by omega)] at this
      simp only [Bool.and_eq_true, decide_eq_true_eq] at this
      refine ⟨⟨hbel i hi, ?_⟩, this.2⟩
      rw [beq_eq_false_iff_ne.mpr h3, beq_eq_false_iff_ne.mpr (show (kidsOf t (i : Int)).length ≠ 0 by omega)]
      rfl

section
variable {X : Prims} (hX : Low X)
include hX
theorem of_g (t : List SVtx) (x : Int) (ht : t.length ≤ 1000) : Gv P X 39 [encT t, I x] (L (pick (fun j => decide (lev t j = x)) t.length 0)) := by
  refine gv_of (hX _ (by decide)) fun39 rfl ?_
  simp only [Try.f39, encT, go_sem, Nat.reduceSub, Nat.reduceAdd, reduceIte]
  refine W_ind (fun n s => ∃ i v, i + n = t.length ∧ FrIs 25 [(0, .sl .no (t.map encV)), (1, I x), (5, v), (6, I i)] s.fr ∧ s.S = [] ∧ App P 3 s.T v ((pick (fun j => decide (lev t j = x)) i 0).map I)) ?_ (n := t.length) ⟨0, .sl .nil [], by omega, ⟨rfl, rfl, rfl, rfl, rfl, trivial⟩, rfl, .nil⟩
  rintro n ⟨L, S, T⟩ ih ⟨i, v, hi, hF, rfl, hA⟩
  obtain ⟨j, rfl⟩ := hF.ex
  simp +decide only [fr, jl, Nat.reduceAdd, go_sem]
  refine Wif_of (fun h => ?_) (fun h => ?_)
  · have hlt : i < t.length := by simpa using h
    have hx := vtx_at hlt
    have hw := wrap_nat i (by omega)
    obtain ⟨v', T', happ, hA'⟩ := app_int hA i (by have := @pick_len (fun j => decide (lev t j = x)) i 0; omega)
    simp +decide only [go_sem, hx, hw, encV]
    have hp := @pick_snoc (fun j => decide (lev t j = x)) i 0
    rw [Nat.zero_add] at hp
    refine Wif_of (fun h => ?_) (fun h => ?_)
    · simp +decide only [go_sem, happ, hw]
      refine ih (n - 1) _ (by omega) ⟨i + 1, v', by omega, ⟨rfl, rfl, rfl, rfl, rfl, trivial⟩, rfl, ?_⟩
      rw [hp, if_pos (by simpa using h)]; exact hA'
    · simp +decide only [go_sem, hw]
      refine ih (n - 1) _ (by omega) ⟨i + 1, v, by omega, ⟨rfl, rfl, rfl, rfl, rfl, trivial⟩, rfl, ?_⟩
      rw [hp, if_neg (by simpa using h), List.append_nil]; exact hA
  · have hi' : i = t.length := by simp at h; omega
    subst hi'
    obtain ⟨o, rfl⟩ := hA.is
    simp +decide only [go_sem]
    exact ⟨_, rfl, rfl, rfl⟩
theorem rkids_g (t : List SVtx) (x : Int) (ht : t.length ≤ 1000) : Gv P X 72 [encT t, I x] (L (pick (fun j => decide (par t j = x)) t.length 0)) := by
  refine gv_of (hX _ (by decide)) fun72 rfl ?_
  simp only [Try.f72, encT, go_sem, Nat.reduceSub, Nat.reduceAdd, reduceIte]
  refine W_ind (fun n s => ∃ i v, i + n = t.length ∧ FrIs 25 [(0, .sl .no (t.map encV)), (1, I x), (5, v), (6, I i)] s.fr ∧ s.S = [] ∧ App P 3 s.T v ((pick (fun j => decide (par t j = x)) i 0).map I)) ?_ (n := t.length) ⟨0, .sl .nil [], by omega, ⟨rfl, rfl, rfl, rfl, rfl, trivial⟩, rfl, .nil⟩
  rintro n ⟨L, S, T⟩ ih ⟨i, v, hi, hF, rfl, hA⟩
  obtain ⟨j, rfl⟩ := hF.ex
  simp +decide only [fr, jl, Nat.reduceAdd, go_sem]
  refine Wif_of (fun h => ?_) (fun h => ?_)
  · have hlt : i < t.length := by simpa using h
    have hx := vtx_at hlt
    have hw := wrap_nat i (by omega)
    obtain ⟨v', T', happ, hA'⟩ := app_int hA i (by have := @pick_len (fun j => decide (par t j = x)) i 0; omega)
    simp +decide only [go_sem, hx, hw, encV]
    have hp := @pick_snoc (fun j => decide (par t j = x)) i 0
    rw [Nat.zero_add] at hp
    refine Wif_of (fun h => ?_) (fun h => ?_)
    · simp +decide only [go_sem, happ, hw]
      refine ih (n - 1) _ (by omega) ⟨i + 1, v', by omega, ⟨rfl, rfl, rfl, rfl, rfl, trivial⟩, rfl, ?_⟩
      rw [hp, if_pos (by simpa using h)]; exact hA'
    · simp +decide only [go_sem, hw]
      refine ih (n - 1) _ (by omega) ⟨i + 1, v, by omega, ⟨rfl, rfl, rfl, rfl, rfl, trivial⟩, rfl, ?_⟩
      rw [hp, if_neg (by simpa using h), List.append_nil]; exact hA
  · have hi' : i = t.length := by simp at h; omega
    subst hi'
    obtain ⟨o, rfl⟩ := hA.is
    simp +decide only [go_sem]
    exact ⟨_, rfl, rfl, rfl⟩
set_option maxHeartbeats 1000000 in
theorem rcheck_g (t : List SVtx) (ht : t.length ≤ 1000) : Gv P X 38 [encT t] (I (if Valid t then 0 else 2)) := by
  refine gv_of (hX _ (by decide)) fun38 rfl ?_
  by_cases h0 : (t.length : Int) = 0
  · have hv : ¬ Valid t := fun h => by have := h.1; omega
    have h0' : ((t.length : Int) == 0) = true := by simpa using h0
    simp +decide only [Try.f38, encT, go_sem, h0']
    refine WO_not rfl ?_
    simp +decide only [go_sem]
    exact ⟨_, rfl, rfl, by simp [hv]⟩
  have h0' : ((t.length : Int) == 0) = false := by simpa using h0
  by_cases h1 : 64 < (t.length : Int)
  · have hv : ¬ Valid t := fun h => by have := h.2.1; omega
    simp +decide only [Try.f38, encT, go_sem, h0', h1]
    refine WO_not rfl ?_
    simp +decide only [go_sem]
    exact ⟨_, rfl, rfl, by simp [hv]⟩
  simp +decide only [Try.f38, encT, go_sem, h0', h1]
  refine WO_call rfl rfl rfl rfl rfl (of_g hX t 3 ht) ?_
  have hV : pick (fun j => decide (lev t j = 3)) t.length 0 = vsOf t 3 := rfl
  rw [hV]
  by_cases h2 : 32 < ((vsOf t 3).length : Int)
  · have hv : ¬ Valid t := fun h => by have := h.2.2.1; omega
    simp +decide only [go_sem, h2]
    exact ⟨_, rfl, rfl, by simp [hv]⟩
  have hx0 := vtx_at (show 0 < t.length by omega)
  by_cases h3 : par t 0 = -1
  case neg =>
    have hv : ¬ Valid t := fun h => h3 h.root.1
    have h3' : (par t 0 != -1) = true := by simpa using h3
    simp +decide only [go_sem, h2, hx0, encV, h3', Int.reduceToNat]
    exact ⟨_, rfl, rfl, by simp [hv]⟩
  have h3' : (par t 0 != -1) = false := by simpa using h3
  by_cases h4 : lev t 0 = 0
  case neg =>
    have hv : ¬ Valid t := fun h => h4 h.root.2
    have h4' : (lev t 0 != 0) = true := by simpa using h4
    simp +decide only [go_sem, h2, hx0, encV, h3', h4', Int.reduceToNat]
    exact ⟨_, rfl, rfl, by simp [hv]⟩
  have h4' : (lev t 0 != 0) = false := by simpa using h4
  have e := valid_ref t (by omega) (by omega) (by omega)
  simp +decide only [go_sem, h2, hx0, encV, h3', h4', Int.reduceToNat]
  refine W_ind (fun n s => ∃ i : Nat, i + n = t.length ∧ 1 ≤ i ∧ FrIs 99 [(0, .sl .no (t.map encV)), (3, I i)] s.fr ∧ s.S = [] ∧ s.T = [] ∧ ∀ j, j < i → 1 ≤ j → rbelow t j = true) ?_ (n := t.length - 1) ⟨1, by omega, by omega, ⟨rfl, rfl, rfl, trivial⟩, rfl, rfl, fun j h1 h2 => by omega⟩
  rintro n ⟨L, S, T⟩ ih ⟨i, hi, hi1, hF, rfl, rfl, hall⟩
  obtain ⟨j, rfl⟩ := hF.ex
  simp +decide only [fr, jl, Nat.reduceAdd, go_sem]
  refine Wif_of (fun h => ?_) (fun h => ?_)
  · have hlt : i < t.length := by simpa using h
    have hx := vtx_at hlt
    have hw := wrap_nat i (by omega)
    simp +decide only [go_sem, hx, encV]
    refine W_draw hmx (by kernel_rfl) ?_
    have hno : rbelow t i = false → ¬ Valid t := fun h hv => by have := (e.mp hv).2.2.1 i hlt hi1; rw [h] at this; cases this
    by_cases g1 : par t i < 0
    · simp +decide only [go_sem, g1]
      exact ⟨_, rfl, rfl, by simp [hno (by simp [rbelow]; omega)]⟩
    by_cases g2 : (i : Int) ≤ par t i
    · simp +decide only [go_sem, g1, g2]
      exact ⟨_, rfl, rfl, by simp [hno (by simp [rbelow]; omega)]⟩
    have hp := vtx_at (show (par t i).toNat < t.length by omega)
    have g1' : 0 ≤ par t i := by omega
    by_cases g3 : lev t i = wrap64 (lev t (par t i).toNat + 1)
    case neg =>
      have g3' : (lev t i != wrap64 (lev t (par t i).toNat + 1)) = true := by simpa using g3
      simp +decide only [go_sem, g1, g1', g2, g3', hx, hp, encV, wrap_eq]
      exact ⟨_, rfl, rfl, by simp [hno (by simp [rbelow, g3])]⟩
    have g3' : (lev t i != wrap64 (lev t (par t i).toNat + 1)) = false := by simpa using g3
    by_cases g4 : 3 < lev t i
    · simp +decide only [go_sem, g1, g1', g2, g3', g4, hx, hp, encV, wrap_eq]
      exact ⟨_, rfl, rfl, by simp [hno (by simp [rbelow]; omega)]⟩
    rw [wrap_eq] at hw
    simp +decide only [go_sem, g1, g1', g2, g3', g4, hx, hp, encV, wrap_eq, hw]
    refine ih (n - 1) _ (by omega) ⟨i + 1, by omega, by omega, ⟨rfl, rfl, rfl, trivial⟩, rfl, rfl, fun j hj h1 => ?_⟩
    by_cases hji : j = i
    · subst hji
      simp only [rbelow, Bool.and_eq_true, decide_eq_true_eq]
      exact ⟨⟨⟨g1', by omega⟩, g3⟩, by omega⟩
    · exact hall j (by omega) h1
  · have hi' : i = t.length := by simp at h; omega
    subst hi'
    simp +decide only [go_sem]
    clear ih hF
    refine W_ind (fun n s => ∃ i : Nat, i + n = t.length ∧ FrIs 99 [(0, .sl .no (t.map encV)), (5, I i)] s.fr ∧ s.S = [] ∧ s.T = [] ∧ ∀ j, j < i → rkid t j = true) ?_ (n := t.length) ⟨0, by omega, ⟨rfl, rfl, rfl, trivial⟩, rfl, rfl, fun j h1 => by omega⟩
    rintro n ⟨L, S, T⟩ ih ⟨i, hi, hF, rfl, rfl, hall2⟩
    obtain ⟨j, rfl⟩ := hF.ex
    simp +decide only [fr, jl, Nat.reduceAdd, go_sem]
    refine Wif_of (fun h => ?_) (fun h => ?_)
    · have hlt : i < t.length := by simpa using h
      have hx := vtx_at hlt
      have hw := wrap_nat i (by omega)
      simp +decide only [go_sem]
      refine WO_call rfl rfl rfl rfl rfl (rkids_g hX t i ht) ?_
      have hK : pick (fun j => decide (par t j = (i : Int))) t.length 0 = kidsOf t (i : Int) := rfl
      have hno : rkid t i = false → ¬ Valid t := fun h hv => by have := (e.mp hv).2.2.2 i hlt (Nat.zero_le _); rw [h] at this; cases this
      rw [hK]
      by_cases g1 : lev t i < 3
      · by_cases g2 : ((kidsOf t (i : Int)).length : Int) < 1
        · simp +decide only [go_sem, hx, encV, g1, g2]
          exact ⟨_, rfl, rfl, by simp [hno (by simp [rkid, g1]; omega)]⟩
        by_cases g3 : 8 < ((kidsOf t (i : Int)).length : Int)
        · simp +decide only [go_sem, hx, encV, g1, g2, g3]
          exact ⟨_, rfl, rfl, by simp [hno (by simp [rkid, g1]; omega)]⟩
        simp +decide only [go_sem, hx, encV, g1, g2, g3, hw]
        refine ih (n - 1) _ (by omega) ⟨i + 1, by omega, ⟨rfl, rfl, rfl, trivial⟩, rfl, rfl, fun j hj => ?_⟩
        by_cases hji : j = i
        · subst hji; simp [rkid, g1]; omega
        · exact hall2 j (by omega)
      · simp +decide only [go_sem, hx, encV, g1, hw]
        refine ih (n - 1) _ (by omega) ⟨i + 1, by omega, ⟨rfl, rfl, rfl, trivial⟩, rfl, rfl, fun j hj => ?_⟩
        by_cases hji : j = i
        · subst hji; simp [rkid, g1]
        · exact hall2 j (by omega)
    · have hi' : i = t.length := by simp at h; omega
      subst hi'
      have hv : Valid t := e.mpr ⟨h3, h4, hall, fun j hj _ => hall2 j hj⟩
      simp +decide only [go_sem]
      exact ⟨_, rfl, rfl, by simp [hv]⟩
end
end Go.Proofs.Ytokkipocdhfglaa.Ev
namespace Go.Proofs.Ytokkipocdhfglaa.Ev
open Go Go.Proofs
open Go.RowKit (wrap64)
set_option linter.unusedVariables false
set_option linter.unusedSimpArgs false
set_option maxRecDepth 100000
set_option maxHeartbeats 2000000
theorem rd_pair {R : Int → Int → Prop} {l : List Int} (h : l.Pairwise R) {i j : Nat} (hij : i < j) (hj : j < l.length) : R (rd l (i : Int)) (rd l (j : Int)) := by
  show R (l.getD i 0) (l.getD j 0)
  rw [List.getD_eq_getElem?_getD, List.getD_eq_getElem?_getD, List.getElem?_eq_getElem hj, List.getElem?_eq_getElem (show i < l.length by omega)]
  exact List.pairwise_iff_getElem.mp h i j (by omega) hj hij
theorem last_any {s n y : Int} (hy : (allB s)[(allB s).length - 1]? = some y) : decide (n ≤ y) = (allB s).any fun p => decide (n ≤ p) := by
  have hm := List.mem_of_getElem? hy
  by_cases h : n ≤ y
  · rw [decide_eq_true h]
    exact (List.any_eq_true.mpr ⟨y, hm, decide_eq_true h⟩).symm
  · rw [decide_eq_false h]
    refine (List.any_eq_false.mpr fun p hp => ?_).symm
    rw [decide_eq_true_eq]
    obtain ⟨j, hj, rfl⟩ := List.getElem_of_mem hp
    by_cases hl : j = (allB s).length - 1
    · subst hl
      rw [List.getElem?_eq_getElem hj, Option.some.injEq] at hy
      omega
    · have h2 := rd_pair (pick_sorted (P := fun j => tb s (j : Int)) (m := 64) (i := 0)) (show j < (allB s).length - 1 by omega) (show (allB s).length - 1 < (allB s).length by omega)
      have e1 : rd (allB s) (j : Int) = (allB s)[j] := by
        unfold rd; rw [List.getD_eq_getElem?_getD, Int.toNat_natCast, List.getElem?_eq_getElem hj]; rfl
      have e2 : rd (allB s) (((allB s).length - 1 : Nat) : Int) = y := by
        unfold rd; rw [List.getD_eq_getElem?_getD, Int.toNat_natCast, hy]; rfl
      have h3 : rd (allB s) (j : Int) < rd (allB s) (((allB s).length - 1 : Nat) : Int) := h2
      omega
section
variable {X : Prims} (hX : Low X)
include hX
theorem rmay_g (t : List SVtx) (a : Int) (R : List SRr) (H : List (List Int)) (s : Int) (ht : t.length ≤ 64) (hs : U64 s) (f : Fw R H) : Gv P X 13 [encRR t a R H s] (B (mayB t a R H s)) := by
  refine gv_of (hX _ (by decide)) fun13 rfl ?_
  have hr := f.r
  have hh := f.h
  have hal := allB_len s
  unfold mayB wholeB
  simp +decide only [Try.f13, encRR, go_sem, Nat.reduceAdd]
  refine WO_call rfl rfl rfl rfl rfl (rcheck_g hX t (by omega)) ?_
  by_cases hV : Valid t
  rotate_left
  · simp +decide only [go_sem, hV]
    exact ⟨_, rfl, rfl, rfl⟩
  by_cases h1 : a < 2
  · simp +decide only [go_sem, hV, h1]
    exact ⟨_, rfl, rfl, rfl⟩
  by_cases h2 : 16 < a
  · simp +decide only [go_sem, hV, h1, h2]
    exact ⟨_, rfl, rfl, rfl⟩
  simp +decide only [go_sem, hV, h1, h2]
  refine WO_call rfl rfl rfl rfl rfl (of_g hX t 3 (by omega)) ?_
  change WO P X _ _ _ _ _ ⟨put _ _ (L (vsOf t 3)), _, _⟩ _
  simp +decide only [go_sem]
  refine WO_call rfl rfl rfl rfl rfl (rall_g hX hs) ?_
  simp +decide only [go_sem]
  refine W_draw hmx (by kernel_rfl) ?_
  cases h3 : ((R.length : Int) == ((vsOf t 3).length : Int))
  · have h3' : ((R.length : Int) != ((vsOf t 3).length : Int)) = true := by unfold bne; rw [h3]; rfl
    simp +decide only [go_sem, h3, h3']
    refine WO_not rfl ?_
    simp +decide only [go_sem, h3, h3']
    exact ⟨_, rfl, rfl, rfl⟩
  have h3' : ((R.length : Int) != ((vsOf t 3).length : Int)) = false := by unfold bne; rw [h3]; rfl
  simp +decide only [go_sem, h3, h3']
  refine WO_call rfl rfl rfl rfl rfl (of_g hX t 1 (by omega)) ?_
  change WO P X _ _ _ _ _ ⟨put _ _ (L (vsOf t 1)), _, _⟩ _
  cases h4 : ((H.length : Int) == ((vsOf t 1).length : Int))
  · have h4' : ((H.length : Int) != ((vsOf t 1).length : Int)) = true := by unfold bne; rw [h4]; rfl
    simp +decide only [go_sem, h4, h4']
    exact ⟨_, rfl, rfl, rfl⟩
  have h4' : ((H.length : Int) != ((vsOf t 1).length : Int)) = false := by unfold bne; rw [h4]; rfl
  cases h5 : (((allB s).length : Int) == 0)
  rotate_left
  · have h5' : (s != 0) = false := by
      rw [(allB_nil hs).mp (by have := eq_of_beq h5; omega)]; rfl
    simp +decide only [go_sem, h4, h4', h5, h5']
    exact ⟨_, rfl, rfl, rfl⟩
  have hne : (allB s).length ≠ 0 := fun e => by rw [e] at h5; cases h5
  have h5' : (s != 0) = true := bne_iff_ne.mpr fun e => hne ((allB_nil hs).mpr e)
  obtain ⟨y, hy, hym⟩ := getE (show (allB s).length - 1 < (allB s).length by omega)
  have hwm : IntKind.i64.wrap (((allB s).length : Int) - 1) = (((allB s).length - 1 : Nat) : Int) := by
    rw [show ((allB s).length : Int) - 1 = (((allB s).length - 1 : Nat) : Int) by omega]
    exact wrap64_of (by omega)
  have hla := last_any (n := (vsOf t 3).length) hy
  cases h6 : decide (((vsOf t 3).length : Int) ≤ y)
  rotate_left
  · rw [h6] at hla
    simp +decide only [go_sem, h4, h4', h5, h5', hwm, hy, h6, ← hla]
    exact ⟨_, rfl, rfl, rfl⟩
  rw [h6] at hla
  have hn := eq_of_beq h3
  generalize hq : (allB s).any _ = q at hla ⊢
  subst hla
  simp +decide only [go_sem, h4, h4', h5, h5', hwm, hy, h6, Nat.reduceAdd]
  refine W_ind (fun k st => ∃ i : Nat, i + k = R.length ∧ FrIs 112 [(1, .ptr 0 0), (3, I R.length), (5, I i)] st.fr ∧ st.S = [.var false [encT t, I a, .sl .no (R.map encG), .sl .no (H.map L), U s]] ∧ st.T = [] ∧ ∀ j : Nat, j < i → ringOk a s (R.getD j default) j = true) ?_ (n := R.length) ⟨0, by omega, ⟨rfl, rfl, by rw [hn]; rfl, rfl, trivial⟩, rfl, rfl, fun j h => by omega⟩
  rintro k ⟨L', S, T⟩ ih ⟨i, hi, hF, rfl, rfl, hall⟩
  obtain ⟨j, rfl⟩ := hF.ex
  have hw := wrap_nat i (by omega)
  simp +decide only [fr, jl, Nat.reduceAdd, go_sem]
  refine Wif_of (fun h => ?_) (fun h => ?_)
  · have hlt : i < R.length := by simpa using h
    obtain ⟨x, hx, hm⟩ := getE hlt
    have hl := f.rl x hm
    have hk : ringOk a s x i = ((okL (rAll x) 0 && decide ((x.f1.length : Int) ≤ mx a 2)) && (tb s (i : Int) || !decide (0 < ((rAll x).length : Int)))) := rfl
    simp +decide only [go_sem]
    refine W_draw hmx (by kernel_rfl) ?_
    simp +decide only [go_sem, hx, encG]
    refine WO_call rfl rfl rfl rfl rfl (rring_may_g hX x.f0 x.f1 a (by omega)) ?_
    change WO P X _ _ _ _ _ ⟨put _ _ (B (okL (rAll x) 0 && decide ((x.f1.length : Int) ≤ mx a 2))), _, _⟩ _
    cases h1 : (okL (rAll x) 0 && decide ((x.f1.length : Int) ≤ mx a 2))
    · rw [h1] at hk
      simp +decide only [go_sem]
      refine WO_not rfl ?_
      simp +decide only [go_sem]
      refine WO_not rfl ?_
      simp +decide only [go_sem]
      exact ⟨_, rfl, rfl, by rw [ringsB_no hx hk]; rfl⟩
    rw [h1] at hk
    simp +decide only [go_sem, hx, encG]
    refine WO_call rfl rfl rfl rfl rfl (rring_all_g hX x.f0 x.f1 (by omega)) ?_
    change WO P X _ _ _ _ _ ⟨put _ _ (L (rAll x)), _, _⟩ _
    cases h3 : decide (0 < ((rAll x).length : Int))
    · rw [h3, Bool.not_false, Bool.or_true] at hk
      simp +decide only [go_sem, h3]
      refine WO_not rfl ?_
      simp +decide only [go_sem, hw]
      refine ih (k - 1) _ (by omega) ⟨i + 1, by omega, ⟨rfl, rfl, rfl, rfl, trivial⟩, rfl, rfl, fun j hj => ?_⟩
      by_cases hji : j = i
      · subst hji; rw [List.getD_eq_getElem?_getD, hx, Option.getD_some]; exact hk
      · exact hall j (by omega)
    · rw [h3] at hk
      simp +decide only [go_sem, h3]
      refine WO_call rfl rfl rfl rfl rfl (on_g hX hs t a R H i) ?_
      cases h2 : tb s (i : Int)
      · rw [h2] at hk
        simp +decide only [go_sem]
        exact ⟨_, rfl, rfl, by rw [ringsB_no hx hk]; rfl⟩
      · rw [h2] at hk
        simp +decide only [go_sem, hw]
        refine ih (k - 1) _ (by omega) ⟨i + 1, by omega, ⟨rfl, rfl, rfl, rfl, trivial⟩, rfl, rfl, fun j hj => ?_⟩
        by_cases hji : j = i
        · subst hji; rw [List.getD_eq_getElem?_getD, hx, Option.getD_some]; exact hk
        · exact hall j (by omega)
  · have hi' : i = R.length := by simp at h; omega
    subst hi'
    clear ih
    have hrg : ringsB a s R = true := decide_eq_true fun j h => hall j h
    rw [hrg]
    simp +decide only [go_sem]
    refine WO_call rfl rfl rfl rfl rfl (rruns_all_g hX t a R H s f) ?_
    have hA := f.all
    generalize allR R H = A at hA
    simp +decide only [go_sem, Nat.reduceAdd]
    refine W_ind (fun k s => ∃ i : Nat, i + k = A.length ∧ FrIs 112 [(6, L A), (7, I i)] s.fr ∧ s.T = [] ∧ ∀ j : Nat, j < i → 1 ≤ rd A (j : Int) ∧ rd A (j : Int) ∉ A.take j) ?_ (n := A.length) ⟨0, by omega, ⟨rfl, rfl, rfl, trivial⟩, rfl, fun j h => by omega⟩
    rintro k ⟨L', S, T⟩ ih ⟨i, hi, hF, rfl, hall⟩
    obtain ⟨j, rfl⟩ := hF.ex
    have hw := wrap_nat i (by omega)
    simp +decide only [fr, jl, Nat.reduceAdd, go_sem]
    refine Wif_of (fun h => ?_) (fun h => ?_)
    · have hlt : i < A.length := by simpa using h
      have hx := rd_at hlt
      simp +decide only [go_sem]
      refine W_draw hmx (by kernel_rfl) ?_
      by_cases h1 : rd A (i : Int) < 1
      · simp +decide only [go_sem, hx, h1]
        refine WO_not rfl ?_
        simp +decide only [go_sem]
        exact ⟨_, rfl, rfl, by rw [okL_no hlt (.inl (by omega))]⟩
      · have hb : (i : Int) ≤ (A.length : Int) := by omega
        simp +decide only [go_sem, hx, h1, slA, hb, ← List.map_take]
        refine WO_call rfl rfl rfl rfl rfl (in_g hX (A.take i) (rd A (i : Int)) (by simp; omega)) ?_
        by_cases h2 : rd A (i : Int) ∈ A.take i
        · simp +decide only [go_sem, h2]
          exact ⟨_, rfl, rfl, by rw [okL_no hlt (.inr h2)]⟩
        · simp +decide only [go_sem, h2, hw]
          refine ih (k - 1) _ (by omega) ⟨i + 1, by omega, ⟨rfl, rfl, rfl, trivial⟩, rfl, fun j hj => ?_⟩
          by_cases hji : j = i
          · subst hji; exact ⟨by omega, h2⟩
          · exact hall j (by omega)
    · have hi' : i = A.length := by simp at h; omega
      subst hi'
      have hok : okL A 0 = true := decide_eq_true fun j h _ => hall j h
      simp +decide only [go_sem, Nat.reduceAdd]
      exact ⟨_, rfl, rfl, by rw [hok]⟩
end
end Go.Proofs.Ytokkipocdhfglaa.Ev
namespace Go.Proofs.Ytokkipocdhfglaa.Ev
open Go Go.Proofs
set_option linter.unusedVariables false
set_option linter.unusedSimpArgs false
open Go.RowKit (wrap64)
set_option maxRecDepth 100000
def sgn (a b : Int) : Int := if a < b then -1 else if b < a then 1 else 0
def turn (n p q : Int) : Int := (q - p + n).tmod n
def cf (t : List SVtx) (n p : Int) (a b : Int) : Int :=
  if sgn (farOf t p a) (farOf t p b) ≠ 0 then sgn (farOf t p a) (farOf t p b) else sgn (turn n p a) (turn n p b)
theorem turn_wrap {n p x : Int} (hx : 0 ≤ x ∧ x < n) (hp : 0 ≤ p ∧ p < n) (hn : n ≤ 1000000) : (IntKind.i64.wrap (IntKind.i64.wrap (x - p) + n)).tmod n = turn n p x := by
  rw [wrap64_of (n := x - p) (by omega), wrap64_of (n := x - p + n) (by omega)]
  rfl
section
variable {X : Prims} (hX : Low X)
include hX
theorem isnan_g (a : Int) : Gv P X 101 [I a] (B false) := by
  refine gv_of (hX _ (by decide)) fun101 rfl ?_
  simp +decide only [Try.f101, go_sem, bne_self_eq_false]
  exact ⟨_, rfl, rfl, rfl⟩
theorem compare_g (a b : Int) : Gv P X 76 [I a, I b] (I (sgn a b)) := by
  refine gv_of (hX _ (by decide)) fun76 rfl ?_
  simp +decide only [Try.f76, go_sem]
  refine WO_call rfl rfl rfl rfl rfl (isnan_g hX a) ?_
  simp +decide only [go_sem]
  refine WO_call rfl rfl rfl rfl rfl (isnan_g hX b) ?_
  unfold sgn
  by_cases h1 : a < b
  · simp +decide only [go_sem, h1]
    exact ⟨_, rfl, rfl, rfl⟩
  · by_cases h2 : b < a
    · simp +decide only [go_sem, h1, h2]
      exact ⟨_, rfl, rfl, rfl⟩
    · simp +decide only [go_sem, h1, h2]
      exact ⟨_, rfl, rfl, rfl⟩
theorem or_g (a b : Int) : Gv P X 75 [L [a, b]] (I (if a ≠ 0 then a else b)) := by
  refine gv_of (hX _ (by decide)) fun75 rfl ?_
  simp +decide only [Try.f75, go_sem, L]
  have e1 : IntKind.i64.wrap (0 + 1) = 1 := by decide
  have e2 : IntKind.i64.wrap (1 + 1) = 2 := by decide
  refine W_unroll ?_
  by_cases h1 : a = 0
  · subst h1
    simp +decide only [Int.reduceToNat, go_sem, bne_self_eq_false, e1]
    refine W_unroll ?_
    by_cases h2 : b = 0
    · subst h2
      simp +decide only [Int.reduceToNat, go_sem, bne_self_eq_false, e2]
      refine W_unroll ?_
      simp +decide only [Int.reduceToNat, go_sem]
      exact ⟨_, rfl, rfl, rfl⟩
    · have h2' : (b != 0) = true := by simpa using h2
      simp +decide only [Int.reduceToNat, go_sem, h2']
      exact ⟨_, rfl, rfl, rfl⟩
  · have h1' : (a != 0) = true := by simpa using h1
    simp +decide only [Int.reduceToNat, go_sem, h1', h1]
    exact ⟨_, rfl, rfl, by rw [if_pos h1]⟩
theorem closure_g (t : List SVtx) (p n x y : Int) (ht : t.length ≤ 1000) (hx : 0 ≤ x ∧ x < n) (hy : 0 ≤ y ∧ y < n) (hp : 0 ≤ p ∧ p < n) (hn : n ≤ 1000000) :
    Gv P X 74 [I x, I y, .ea [encT t], .ea [I p], .ea [I n]] (I (cf t n p x y)) := by
  refine gv_of (hX _ (by decide)) fun74 rfl ?_
  have hn0 : ¬ n = 0 := by omega
  simp +decide only [Try.f74, go_sem]
  refine W_draw hmx (by kernel_rfl) ?_
  simp +decide only [go_sem, encT, hn0]
  refine WO_call rfl rfl rfl rfl rfl (far_g hX t p x ht) ?_
  simp +decide only [go_sem, hn0]
  refine WO_call rfl rfl rfl rfl rfl (far_g hX t p y ht) ?_
  simp +decide only [go_sem, hn0]
  refine WO_call rfl rfl rfl rfl rfl (compare_g hX _ _) ?_
  simp +decide only [go_sem, hn0]
  refine WO_call rfl rfl rfl rfl rfl (compare_g hX _ _) ?_
  simp +decide only [go_sem, hn0]
  refine WO_call rfl rfl rfl rfl rfl (or_g hX _ _) ?_
  rw [turn_wrap hx hp hn, turn_wrap hy hp hn]
  simp +decide only [go_sem, hn0]
  exact ⟨_, rfl, rfl, rfl⟩
end
end Go.Proofs.Ytokkipocdhfglaa.Ev
namespace Go.Proofs.Ytokkipocdhfglaa.Ev
open Go Go.Proofs Go.Sort
set_option linter.unusedVariables false
set_option linter.unusedSimpArgs false
open Go.RowKit (wrap64)
set_option maxRecDepth 100000
def others (p : Int) : Nat → List Int
  | 0 => []
  | n + 1 => if (n : Int) ≠ p then others p n ++ [(n : Int)] else others p n
def sorted (n : Nat) (p : Int) (t : List SVtx) : List Int := (others p n).mergeSort (fun x y => !decide (cf t n p y x < 0))
theorem others_mem {p : Int} : ∀ {n : Nat} {x : Int}, x ∈ others p n ↔ 0 ≤ x ∧ x < n ∧ x ≠ p
  | 0, x => by simp [others]; omega
  | n + 1, x => by
    unfold others
    split
    · rw [List.mem_append, others_mem, List.mem_singleton]; omega
    · rw [others_mem]; omega
theorem others_len {p : Int} : ∀ {n : Nat}, (others p n).length ≤ n
  | 0 => by simp [others]
  | n + 1 => by
    have := @others_len p n
    unfold others
    split
    · simp; omega
    · omega
theorem turn_of {n p q : Int} (hq : 0 ≤ q ∧ q < n) (hp : 0 ≤ p ∧ p < n) : turn n p q = if q < p then q - p + n else q - p := by
  unfold turn
  rw [Int.tmod_eq_emod_of_nonneg (by omega)]
  by_cases h : q < p
  · rw [if_pos h, Int.emod_eq_of_lt (by omega) (by omega)]
  · rw [if_neg h, Int.add_emod_right, Int.emod_eq_of_lt (by omega) (by omega)]
theorem cf_lt {n p : Int} {t : List SVtx} {a b : Int} : (cf t n p a b < 0) ↔ (farOf t p a < farOf t p b ∨ farOf t p a = farOf t p b ∧ turn n p a < turn n p b) := by
  unfold cf sgn
  generalize farOf t p a = x
  generalize farOf t p b = y
  generalize turn n p a = u
  generalize turn n p b = v
  split <;> (split <;> (try split) <;> (try split) <;> omega)
abbrev Q (n : Nat) : Type := { x : Int // 0 ≤ x ∧ x < n }
def enc {n : Nat} (x : Q n) : Value := .int .i64 x.1
theorem swo (n : Nat) (p : Int) (t : List SVtx) : Go.Sort.SWO (Go.Proofs.ltOf (fun x y : Q n => cf t n p x.1 y.1)) := by
  refine ⟨fun x => ?_, fun x y z h1 h2 => ?_, fun x y z h1 h2 => ?_⟩
  · exact decide_eq_false (by rw [cf_lt]; omega)
  · have h1 := cf_lt.mp (of_decide_eq_true h1)
    have h2 := cf_lt.mp (of_decide_eq_true h2)
    exact decide_eq_true (cf_lt.mpr (by omega))
  · have h1 := mt cf_lt.mpr (of_decide_eq_false h1)
    have h2 := mt cf_lt.mpr (of_decide_eq_false h2)
    exact decide_eq_false (mt cf_lt.mp (by omega))
theorem tot (n : Nat) (p : Int) (hp : 0 ≤ p ∧ p < n) (t : List SVtx) (x y : Q n) (h1 : Go.Proofs.ltOf (fun x y : Q n => cf t n p x.1 y.1) x y = false) (h2 : Go.Proofs.ltOf (fun x y : Q n => cf t n p x.1 y.1) y x = false) : x = y := by
  have h1 := mt cf_lt.mpr (of_decide_eq_false h1)
  have h2 := mt cf_lt.mpr (of_decide_eq_false h2)
  have hx := x.2
  have hy := y.2
  rw [turn_of hx hp, turn_of hy hp] at h1 h2
  apply Subtype.ext
  generalize farOf t p x.1 = d1 at *
  generalize farOf t p y.1 = d2 at *
  have he : d1 = d2 := by omega
  subst he
  split at h1 <;> split at h1 <;> simp_all <;> omega
theorem lift (n : Nat) (l : List Int) (h : ∀ x ∈ l, 0 ≤ x ∧ x < n) : ∃ d : List (Q n), d.map (·.1) = l :=
  ⟨l.attach.map fun x => ⟨x.1, h x.1 x.2⟩, by rw [List.map_map]; exact List.attach_map_subtype_val l⟩
theorem sort_map (n : Nat) (p : Int) (t : List SVtx) (d : List (Q n)) :
    (d.mergeSort fun x y => !(Go.Proofs.ltOf (fun x y : Q n => cf t n p x.1 y.1)) y x).map (·.1) = (d.map (·.1)).mergeSort (fun x y => !decide (cf t n p y x < 0)) :=
  List.map_mergeSort fun _ _ _ _ => rfl
theorem uniq_sorted {α : Type} {lt : α → α → Prop} (irr : ∀ x, ¬ lt x x) (asy : ∀ x y, lt x y → lt y x → False) : ∀ {l1 l2 : List α}, l1.Pairwise lt → l2.Pairwise lt → (∀ x, x ∈ l1 ↔ x ∈ l2) → l1 = l2
  | [], [], _, _, _ => rfl
  | [], b :: l2, _, _, h => by have := (h b).mpr List.mem_cons_self; cases this
  | a :: l1, [], _, _, h => by have := (h a).mp List.mem_cons_self; cases this
  | a :: l1, b :: l2, h1, h2, h => by
    have p1 := List.pairwise_cons.mp h1
    have p2 := List.pairwise_cons.mp h2
    have hab : a = b := by
      rcases List.mem_cons.mp ((h a).mp List.mem_cons_self) with h3 | h3
      · exact h3
      · rcases List.mem_cons.mp ((h b).mpr List.mem_cons_self) with h4 | h4
        · exact h4.symm
        · exact absurd (p1.1 b h4) (fun h5 => asy _ _ h5 (p2.1 a h3))
    subst hab
    rw [uniq_sorted irr asy p1.2 p2.2 (fun x => ?_)]
    constructor
    · intro hx
      rcases List.mem_cons.mp ((h x).mp (List.mem_cons_of_mem _ hx)) with h3 | h3
      · subst h3; exact absurd (p1.1 x hx) (irr x)
      · exact h3
    · intro hx
      rcases List.mem_cons.mp ((h x).mpr (List.mem_cons_of_mem _ hx)) with h3 | h3
      · subst h3; exact absurd (p2.1 x hx) (irr x)
      · exact h3
/-- The others behind p, round about, that are so far. -/
def rowN (t : List SVtx) (p : Int) (n : Nat) (far : Int) : Nat → Nat → List Int
  | 0, _ => []
  | m + 1, i => if farOf t p (Int.tmod (p + (i : Int)) (n : Int)) = far then Int.tmod (p + (i : Int)) (n : Int) :: rowN t p n far m (i + 1) else rowN t p n far m (i + 1)
def rowOf (t : List SVtx) (p : Int) (far : Int) : List Int := rowN t p (procN t) far (procN t - 1) 1
def nearOf (t : List SVtx) (p : Int) : List Int := if inP t p then rowOf t p 1 ++ (rowOf t p 2 ++ rowOf t p 3) else []
theorem procN_le (t : List SVtx) : procN t ≤ 32 := by
  unfold procN
  split
  · rename_i h; exact h.2.2.1
  · omega
theorem turn_mod {n p : Nat} {i : Nat} (hp : p < n) (h1 : 1 ≤ i) (hi : i < n) : 0 ≤ Int.tmod ((p : Int) + (i : Int)) (n : Int) ∧ Int.tmod ((p : Int) + (i : Int)) (n : Int) < n ∧ Int.tmod ((p : Int) + (i : Int)) (n : Int) ≠ p ∧ turn n p (Int.tmod ((p : Int) + (i : Int)) (n : Int)) = i := by
  have e : Int.tmod ((p : Int) + (i : Int)) (n : Int) = if p + i < n then ((p : Int) + i) else ((p : Int) + i - n) := by
    rw [Int.tmod_eq_emod_of_nonneg (by omega)]
    by_cases h : p + i < n
    · rw [if_pos h, Int.emod_eq_of_lt (by omega) (by omega)]
    · rw [if_neg h, ← Int.sub_emod_right, Int.emod_eq_of_lt (by omega) (by omega)]
  rw [e]
  by_cases h : p + i < n
  · rw [if_pos h]
    refine ⟨by omega, by omega, by omega, ?_⟩
    rw [turn_of (by omega) (by omega), if_neg (by omega)]
    omega
  · rw [if_neg h]
    refine ⟨by omega, by omega, by omega, ?_⟩
    rw [turn_of (by omega) (by omega), if_pos (by omega)]
    omega
theorem rowN_at {t : List SVtx} {p n : Nat} {far : Int} (hp : p < n) : ∀ {m i : Nat}, 1 ≤ i → i + m ≤ n → ∀ {x : Int}, x ∈ rowN t (p : Int) n far m i → 0 ≤ x ∧ x < n ∧ x ≠ p ∧ farOf t p x = far ∧ (i : Int) ≤ turn n p x ∧ turn n p x < (i + m : Nat)
  | 0, i, _, _, x, h => by cases h
  | m + 1, i, h1, h2, x, h => by
    unfold rowN at h
    have ht := turn_mod hp h1 (by omega : i < n)
    by_cases hf : farOf t (p : Int) (Int.tmod ((p : Int) + (i : Int)) (n : Int)) = far
    · rw [if_pos hf] at h
      rcases List.mem_cons.mp h with rfl | h
      · exact ⟨ht.1, ht.2.1, ht.2.2.1, hf, by omega, by omega⟩
      · have := rowN_at hp (m := m) (i := i + 1) (by omega) (by omega) h
        exact ⟨this.1, this.2.1, this.2.2.1, this.2.2.2.1, by omega, by omega⟩
    · rw [if_neg hf] at h
      have := rowN_at hp (m := m) (i := i + 1) (by omega) (by omega) h
      exact ⟨this.1, this.2.1, this.2.2.1, this.2.2.2.1, by omega, by omega⟩
theorem rowN_sorted {t : List SVtx} {p n : Nat} {far : Int} (hp : p < n) : ∀ {m i : Nat}, 1 ≤ i → i + m ≤ n → (rowN t (p : Int) n far m i).Pairwise (fun x y => turn n p x < turn n p y)
  | 0, i, _, _ => List.Pairwise.nil
  | m + 1, i, h1, h2 => by
    unfold rowN
    have ht := turn_mod hp h1 (by omega : i < n)
    split
    · refine List.Pairwise.cons (fun y hy => ?_) (rowN_sorted hp (by omega) (by omega))
      have := rowN_at hp (m := m) (i := i + 1) (by omega) (by omega) hy
      omega
    · exact rowN_sorted hp (by omega) (by omega)
theorem rowN_has {t : List SVtx} {p n : Nat} {far : Int} (hp : p < n) {x : Int} (hx : 0 ≤ x ∧ x < n) (hf : farOf t p x = far) : ∀ {m i : Nat}, 1 ≤ i → i + m ≤ n → (i : Int) ≤ turn n p x → turn n p x < (i + m : Nat) → x ∈ rowN t (p : Int) n far m i
  | 0, i, _, _, h3, h4 => by omega
  | m + 1, i, h1, h2, h3, h4 => by
    unfold rowN
    by_cases he : turn n p x = i
    · have hxe : x = Int.tmod ((p : Int) + (i : Int)) (n : Int) := by
        rw [turn_of hx (by omega)] at he
        rw [Int.tmod_eq_emod_of_nonneg (by omega)]
        by_cases hlt : x < p
        · rw [if_pos hlt] at he
          rw [← Int.sub_emod_right, Int.emod_eq_of_lt (by omega) (by omega)]; omega
        · rw [if_neg hlt] at he
          rw [Int.emod_eq_of_lt (by omega) (by omega)]; omega
      rw [← hxe, if_pos hf]
      exact List.mem_cons_self
    · have := rowN_has hp hx hf (m := m) (i := i + 1) (by omega) (by omega) (by omega) (by omega)
      split
      · exact List.mem_cons_of_mem _ this
      · exact this
theorem far_self {t : List SVtx} {a : Int} (ha : inP t a) : farOf t a a = 0 := by rw [farOf_of ha ha]; simp [farV]
theorem far_pos {t : List SVtx} {a b : Int} (ha : inP t a) (hb : inP t b) (h : a ≠ b) : 1 ≤ farOf t a b ∧ farOf t a b ≤ 3 := by
  rw [farOf_of ha hb]
  have h1 := farV_le t (vx t a) (vx t b)
  have h2 : ¬ vx t a = vx t b := fun h2 => h (vx_inj ha hb h2)
  have h3 : 1 ≤ farV t (vx t a) (vx t b) := by
    unfold farV
    rw [if_neg h2]
    split
    · omega
    · split <;> omega
  omega
/-- Before whom one stands. -/
def nearLt (t : List SVtx) (p : Int) (x y : Int) : Prop := farOf t p x < farOf t p y ∨ farOf t p x = farOf t p y ∧ turn (procN t) p x < turn (procN t) p y
theorem nearOf_mem {t : List SVtx} {p : Int} (hp : inP t p) {x : Int} : x ∈ nearOf t p ↔ inP t x ∧ x ≠ p := by
  obtain ⟨q, rfl⟩ : ∃ q : Nat, p = (q : Int) := ⟨p.toNat, by have := hp.1; omega⟩
  have hq : q < procN t := by have := hp.2; omega
  rw [nearOf, if_pos hp]
  constructor
  · intro h
    have key : ∀ far, x ∈ rowOf t (q : Int) far → inP t x ∧ x ≠ q := fun far h => by
      have := rowN_at hq (by omega) (by omega) h
      exact ⟨⟨this.1, this.2.1⟩, this.2.2.1⟩
    rcases List.mem_append.mp h with h | h
    · exact key _ h
    · rcases List.mem_append.mp h with h | h
      · exact key _ h
      · exact key _ h
  · rintro ⟨hx, hne⟩
    have hf := far_pos hp hx (Ne.symm hne)
    have hb1 : (1 : Int) ≤ turn (procN t) q x := by
      rw [turn_of hx hp]
      have := hx.1
      split <;> omega
    have hb2 : turn (procN t) q x < (1 + (procN t - 1) : Nat) := by
      rw [turn_of hx hp]
      have := hx.2
      split <;> omega
    have key : ∀ far, farOf t q x = far → x ∈ rowOf t (q : Int) far := fun far hfar => rowN_has hq hx hfar (by omega) (by omega) (by omega) hb2
    rcases (by omega : farOf t q x = 1 ∨ farOf t q x = 2 ∨ farOf t q x = 3) with h | h | h
    · exact List.mem_append_left _ (key 1 h)
    · exact List.mem_append_right _ (List.mem_append_left _ (key 2 h))
    · exact List.mem_append_right _ (List.mem_append_right _ (key 3 h))
theorem nearOf_sorted {t : List SVtx} {p : Int} (hp : inP t p) : (nearOf t p).Pairwise (nearLt t p) := by
  obtain ⟨q, rfl⟩ : ∃ q : Nat, p = (q : Int) := ⟨p.toNat, by have := hp.1; omega⟩
  have hq : q < procN t := by have := hp.2; omega
  rw [nearOf, if_pos hp]
  have hs : ∀ far, (rowOf t (q : Int) far).Pairwise (nearLt t q) := fun far => by
    refine List.Pairwise.imp_of_mem ?_ (rowN_sorted hq (by omega) (by omega))
    intro x y hx hy h
    have h1 := rowN_at hq (by omega) (by omega) hx
    have h2 := rowN_at hq (by omega) (by omega) hy
    exact .inr ⟨h1.2.2.2.1.trans h2.2.2.2.1.symm, h⟩
  have hf : ∀ far x, x ∈ rowOf t (q : Int) far → farOf t q x = far := fun far x hx => (rowN_at hq (by omega) (by omega) hx).2.2.2.1
  refine List.pairwise_append.mpr ⟨hs 1, List.pairwise_append.mpr ⟨hs 2, hs 3, fun x hx y hy => .inl ?_⟩, fun x hx y hy => .inl ?_⟩
  · rw [hf 2 x hx, hf 3 y hy]; omega
  · rcases List.mem_append.mp hy with hy | hy
    · rw [hf 1 x hx, hf 2 y hy]; omega
    · rw [hf 1 x hx, hf 3 y hy]; omega
theorem others_sorted {p : Int} : ∀ {n : Nat}, (others p n).Pairwise (· ≠ ·)
  | 0 => List.Pairwise.nil
  | n + 1 => by
    unfold others
    split
    · refine List.pairwise_append.mpr ⟨others_sorted, List.pairwise_singleton _ _, fun x hx y hy => ?_⟩
      have := others_mem.mp hx
      rw [List.mem_singleton] at hy
      omega
    · exact others_sorted
theorem sorted_near {t : List SVtx} {p : Int} (hp : inP t p) : sorted (procN t) p t = nearOf t p := by
  have hm : ∀ x, x ∈ sorted (procN t) p t ↔ inP t x ∧ x ≠ p := fun x => by
    unfold sorted
    rw [List.mem_mergeSort, others_mem]
    exact ⟨fun h => ⟨⟨h.1, h.2.1⟩, h.2.2⟩, fun h => ⟨h.1.1, h.1.2, h.2⟩⟩
  refine uniq_sorted (lt := nearLt t p) (fun x h => ?_) (fun x y h1 h2 => ?_) ?_ (nearOf_sorted hp) (fun x => by rw [hm, nearOf_mem hp])
  · unfold nearLt at h; omega
  · unfold nearLt at h1 h2; omega
  · have hs : (sorted (procN t) p t).Pairwise (fun x y => (!decide (cf t (procN t) p y x < 0)) = true) := by
      refine List.pairwise_mergeSort (fun a b c h1 h2 => ?_) (fun a b => ?_) _
      · rw [Bool.not_eq_true', decide_eq_false_iff_not, cf_lt] at *
        omega
      · by_cases h : cf t (procN t) p b a < 0
        · have : ¬ cf t (procN t) p a b < 0 := by rw [cf_lt] at *; omega
          simp [this]
        · simp [h]
    have hn : (sorted (procN t) p t).Pairwise (· ≠ ·) := (List.mergeSort_perm _ _).symm.pairwise others_sorted (fun h => Ne.symm h)
    refine List.Pairwise.imp_of_mem ?_ (hs.and hn)
    rintro x y hx hy ⟨h1, h2⟩
    have hx := (hm x).mp hx
    have hy := (hm y).mp hy
    rw [Bool.not_eq_true', decide_eq_false_iff_not, cf_lt] at h1
    unfold nearLt
    have ht : turn (procN t) p x ≠ turn (procN t) p y := by
      rw [turn_of hx.1 hp, turn_of hy.1 hp]
      have := hx.1.1; have := hx.1.2; have := hy.1.1; have := hy.1.2
      split <;> split <;> omega
    omega
end Go.Proofs.Ytokkipocdhfglaa.Ev
namespace Go.Proofs.Ytokkipocdhfglaa.Up
open Go
set_option linter.unusedVariables false
set_option linter.unusedSimpArgs false

theorem ask_up {α : Type} (q : Ask α) (w : World) : w.drawn ≤ (w.ask q).2.drawn := by
  induction q generalizing w with
  | done a => simp [World.ask]
  | ask what range k ih =>
    simp only [World.ask]
    split
    · exact ih _ _
    · exact Nat.le_trans (Nat.le_succ _) (ih _ { w with drawn := w.drawn + 1 })

theorem sys_up (w : World) (c : Sys) : w.drawn ≤ (w.sys c).2.drawn := by
  have h := ask_up (Kernel.perform c w.os) w
  unfold World.sys
  split
  · exact Nat.le_refl _
  · rename_i r os w2 h2
    rw [h2] at h
    exact h

theorem viewStore_up {p : Program} {w w' : World} {a : Addr} {u : TypeId} {k : Addr} {v : Value} {at_ : Bool} {l : List Addr} (h : w.viewStore p a u k v at_ = .ok (w', l)) : w'.drawn = w.drawn := by
  unfold World.viewStore at h
  simp only [bind, Except.bind, pure, Except.pure, throw, throwThe, MonadExceptOf.throw] at h
  repeat' (split at h <;> try contradiction)
  all_goals (cases h; rfl)

theorem farStore_up {p : Program} {w w' : World} {a : Addr} {v : Value} {at_ : Bool} {l : List Addr} (h : w.farStore p a v at_ = .ok (w', l)) : w'.drawn = w.drawn := by
  unfold World.farStore at h
  split at h
  · split at h
    · rename_i r h1
      cases h
      exact viewStore_up h1
    · cases h
  · cases h

theorem freeze_up (w : World) (a : Addr) (n : Nat) : (w.freeze a n).drawn = w.drawn := by
  unfold World.freeze; split <;> rfl

def Result.world {α : Type} : Result α → World
  | .ok _ w => w
  | .halt _ w => w

theorem run_up {α : Type} (p : Program) (s : Sem α) (w : World) : w.drawn ≤ (Result.world (s.run p w)).drawn := by
  induction s generalizing w with
  | pure a => exact Nat.le_refl _
  | load m a k ih =>
    simp only [Sem.run]
    split
    · exact ih _ _
    · split
      · exact ih _ _
      · exact Nat.le_refl _
  | store m a v k ih =>
    have key : w.drawn ≤ (Result.world (match w.cell? a with
      | some _ => if w.frozen? a then .halt (.unsupported (.unsafePointer "a write to bytes that a string shares")) w else k.run p (w.setCell a v)
      | none => match w.farStore p a v (m == .atomic) with
        | .ok (w, _) => k.run p w
        | .error h => .halt h w)).drawn := by
      split
      · split
        · exact Nat.le_refl _
        · exact ih (w.setCell a v)
      · split
        · rename_i w' l h2
          have := farStore_up h2
          have := ih w'
          omega
        · exact Nat.le_refl _
    cases v <;> simp only [Sem.run] <;> first | exact Nat.le_refl _ | exact key
  | new o k ih => simp only [Sem.run]; exact ih _ { w with heap := w.heap.push o }
  | shape r k ih => simp only [Sem.run]; exact ih _ _
  | freeze a n k ih => simp only [Sem.run]; have := ih (w.freeze a n); rw [freeze_up] at this; exact this
  | frozen a k ih => simp only [Sem.run]; exact ih _ _
  | getObj r k ih =>
    simp only [Sem.run]
    split
    · exact Nat.le_refl _
    · exact ih _ _
    · exact Nat.le_refl _
  | setObj r o k ih =>
    simp only [Sem.run]
    split
    · exact Nat.le_refl _
    · exact ih { w with heap := w.heap.setIfInBounds r o }
    · exact Nat.le_refl _
  | choose q k ih =>
    simp only [Sem.run]
    split
    · exact ih _ _
    · exact Nat.le_trans (Nat.le_succ _) (ih _ { w with drawn := w.drawn + 1 })
  | sys c k ih => simp only [Sem.run]; exact Nat.le_trans (sys_up w c) (ih _ _)
  | program k ih => simp only [Sem.run]; exact ih _ _
  | mark m k ih => simp only [Sem.run]; exact ih _
  | halt h => exact Nat.le_refl _

theorem runT_fst {α : Type} (p : Program) (s : Sem α) (w : World) (es : Array Event) : (s.runT p w es).1 = s.run p w := by
  induction s generalizing w es with
  | pure a => rfl
  | load m a k ih =>
    simp only [Sem.run, Sem.runT]
    split
    · exact ih _ _ _
    · split
      · exact ih _ _ _
      · rfl
  | store m a v k ih =>
    cases v <;> simp only [Sem.run, Sem.runT] <;> first | rfl | (split <;> (first | rfl | (split <;> first | rfl | exact ih _ _)))
  | new o k ih => simp only [Sem.run, Sem.runT]; exact ih _ _ _
  | shape r k ih => simp only [Sem.run, Sem.runT]; exact ih _ _ _
  | freeze a n k ih => simp only [Sem.run, Sem.runT]; exact ih _ _
  | frozen a k ih => simp only [Sem.run, Sem.runT]; exact ih _ _ _
  | getObj r k ih =>
    simp only [Sem.run, Sem.runT]
    split
    · rfl
    · exact ih _ _ _
    · rfl
  | setObj r o k ih =>
    simp only [Sem.run, Sem.runT]
    split
    · rfl
    · exact ih _ _
    · rfl
  | choose q k ih =>
    simp only [Sem.run, Sem.runT]
    split
    · exact ih _ _ _
    · exact ih _ _ _
  | sys c k ih => simp only [Sem.run, Sem.runT]; exact ih _ _ _
  | program k ih => simp only [Sem.run, Sem.runT]; exact ih _ _ _
  | mark m k ih => simp only [Sem.run, Sem.runT]; exact ih _ _
  | halt h => rfl
end Go.Proofs.Ytokkipocdhfglaa.Up
namespace Go.Proofs.Ytokkipocdhfglaa.Up
open Go
set_option linter.unusedVariables false
set_option linter.unusedSimpArgs false

/-- A goroutine's step, whose world has been asked at least 'n' times (nothing is said of a program that has ended). -/
def GUp (n : Nat) : GStep → Prop
  | .go _ w _ => n ≤ w.drawn
  | .comm _ _ _ _ w _ => n ≤ w.drawn
  | .spawn _ _ w _ => n ≤ w.drawn
  | .count _ w _ => n ≤ w.drawn
  | .timer _ _ w _ => n ≤ w.drawn
  | .alone _ _ w _ => n ≤ w.drawn
  | .newcoro _ _ _ w _ => n ≤ w.drawn
  | .coroswitch _ _ _ w _ => n ≤ w.drawn
  | .collect _ w _ => n ≤ w.drawn
  | .watch _ w _ => n ≤ w.drawn
  | .ended _ _ _ => True

theorem GUp.after {n : Nat} {es : Array Event} {g : GStep} (h : GUp n g) : GUp n (g.after es) := by
  cases g <;> exact h

theorem gup_ite {n : Nat} {c : Prop} [Decidable c] {a b : GStep} (ha : c → GUp n a) (hb : ¬ c → GUp n b) : GUp n (if c then a else b) := by
  split
  · exact ha (by assumption)
  · exact hb (by assumption)

theorem ok_up {α : Type} {p : Program} {s : Sem α} {w w' : World} {a : α} {n : Nat} (h : s.run p w = .ok a w') (hn : n ≤ w.drawn) : n ≤ w'.drawn := by
  have := run_up p s w
  rw [h] at this
  exact Nat.le_trans hn this

theorem halt_up {α : Type} {p : Program} {s : Sem α} {w w' : World} {a : Halt} {n : Nat} (h : s.run p w = .halt a w') (hn : n ≤ w.drawn) : n ≤ w'.drawn := by
  have := run_up p s w
  rw [h] at this
  exact Nat.le_trans hn this

theorem okT_up {α : Type} {p : Program} {s : Sem α} {w w' : World} {es : Array Event} {a : α} {n : Nat} (h : (s.runT p w es).1 = .ok a w') (hn : n ≤ w.drawn) : n ≤ w'.drawn := by
  rw [runT_fst] at h; exact ok_up h hn

theorem haltT_up {α : Type} {p : Program} {s : Sem α} {w w' : World} {es : Array Event} {a : Halt} {n : Nat} (h : (s.runT p w es).1 = .halt a w') (hn : n ≤ w.drawn) : n ≤ w'.drawn := by
  rw [runT_fst] at h; exact halt_up h hn

theorem dieOf_up {fr : Frame} {a : List ByteArray} {m : String} {b : Bool} {w : World} {n : Nat} (hn : n ≤ w.drawn) : GUp n (dieOf fr a m b w) := hn
theorem endThrow_up {fr : Frame} {m : String} {w : World} {n : Nat} (hn : n ≤ w.drawn) : GUp n (endThrow fr m w) := hn

theorem endWith_up {w : World} {fd : Nat} {t : ByteArray} {o : Outcome} {n : Nat} : GUp n (endWith w fd t o) := by
  simp only [endWith]
  repeat' (first | trivial | split)

theorem endPrinting_up {p : Program} {fr : Frame} {v : Value} {w : World} {n : Nat} (hn : n ≤ w.drawn) : GUp n (endPrinting p fr v w) := by
  simp only [endPrinting]
  split
  · exact endThrow_up hn
  · trivial

theorem endFatal_up {p : Program} {fr : Frame} {cs : List Frame} {d : Option Dying} {m : String} {w : World} {n : Nat} (hn : n ≤ w.drawn) : GUp n (endFatal p fr cs d m w) := by
  simp only [endFatal]
  split
  · rename_i h; exact dieOf_up (ok_up h hn)
  · trivial
  · trivial

theorem writeOn_up {p : Program} {fr : Frame} {d : Dying} {f : Fatal} {w : World} {n : Nat} (hn : n ≤ w.drawn) : GUp n (writeOn p fr d f w) := by
  simp only [writeOn]
  split
  · trivial
  · split
    · rename_i h; exact okT_up (congrArg Prod.fst h) hn
    · rename_i h; exact haltT_up (congrArg Prod.fst h) hn
    · trivial
    · trivial

theorem die_up {p : Program} {fr : Frame} {d : Dying} {w : World} {n : Nat} (hn : n ≤ w.drawn) : GUp n (die p fr d w) := by
  unfold die
  split
  · exact writeOn_up hn
  · split
    · split
      · exact hn
      · exact endWith_up
    · simp only
      split
      · exact hn
      · split
        · rename_i h; exact ok_up h hn
        · trivial
      · refine GUp.after ?_
        split
        · rename_i h; exact okT_up h hn
        · rename_i h; exact okT_up h hn
        · trivial
        · rename_i h; exact endPrinting_up (haltT_up h hn)
        · trivial
      · trivial

theorem doReturn_up {p : Program} {main : Bool} {fr : Frame} {cs : List Frame} {d : Option Dying} {v : Value} {w : World} {n : Nat} (hn : n ≤ w.drawn) : GUp n (doReturn p main fr cs d v w) := by
  unfold doReturn
  split
  · split <;> exact hn
  · split
    · exact hn
    · trivial
    · split
      · exact hn
      · split
        · exact hn
        · trivial

theorem callDeferred_up {p : Program} {fr : Frame} {cs : List Frame} {d : Option Dying} {df : Deferred} {w : World} {n : Nat} (hn : n ≤ w.drawn) : GUp n (callDeferred p fr cs d df w) := by
  unfold callDeferred
  refine gup_ite (fun _ => trivial) fun _ => ?_
  · rcases hr : (invoke df.target df.args).runT p w #[] with ⟨r, es⟩
    have hw : n ≤ (Result.world r).drawn := by
      have h1 := runT_fst p (invoke df.target df.args) w #[]
      rw [hr] at h1
      have h2 := run_up p (invoke df.target df.args) w
      rw [← h1] at h2
      exact Nat.le_trans hn h2
    clear hr
    refine GUp.after ?_
    cases r with
    | ok v w' =>
      cases v <;> first | exact hw | trivial | skip
      case recover => simp only; split <;> exact hw
      case coroswitch c e => cases e <;> first | exact hw | trivial
      case alone e v => cases e <;> first | exact hw | trivial
    | halt h w' =>
      cases h <;> first | exact hw | trivial | exact endFatal_up hw | exact endThrow_up hw

theorem unwind_up {p : Program} {main : Bool} {fr : Frame} {cs : List Frame} {d : Option Dying} {w : World} {n : Nat} (hn : n ≤ w.drawn) : GUp n (unwind p main fr cs d w) := by
  unfold unwind
  split
  · refine GUp.after ?_
    split
    · rename_i h; exact okT_up h hn
    · trivial
  · exact callDeferred_up hn
  · split
    · trivial
    · split
      · trivial
      · split
        · exact hn
        · split
          · split
            · exact hn
            · split
              · rename_i h; exact ok_up h hn
              · trivial
              · trivial
          · split
            · exact endPrinting_up hn
            · trivial
    · split
      · exact doReturn_up hn
      · refine GUp.after ?_
        split
        · rename_i h; exact doReturn_up (okT_up h hn)
        · trivial
        · trivial

theorem early_up {p : Program} {fr : Frame} {cs : List Frame} {d : Option Dying} {g : Nat} {w : World} {n : Nat} (hn : n ≤ w.drawn) : GUp n (early p fr cs d g w) := by
  have ny : ∀ w : World, n ≤ w.drawn → GUp n (match w.heap[g]? with
    | some (.pending c elem) => .go { frame := fr, callers := cs, status := .running, dying := d } { w with heap := w.heap.setIfInBounds g (.cells c elem) }
    | _ => .ended (.stuck "early: the variable does not wait" (fr.pos p)) w) := by
    intro w hn
    split
    · exact hn
    · trivial
  simp only [early]
  repeat' (first | exact ny _ hn | trivial | exact hn | (rename_i h; exact ny _ (ok_up h hn)) | (rename_i h; exact (ok_up h hn : n ≤ World.drawn _)) | split)
end Go.Proofs.Ytokkipocdhfglaa.Up
namespace Go.Proofs.Ytokkipocdhfglaa.Up
open Go Go.Sort Go.RowKit
set_option linter.unusedVariables false
set_option linter.unusedSimpArgs false

theorem gup_ifp {n : Nat} {c : Prop} [Decidable c] {a b : Result Next × Array Event} {P : Result Next × Array Event → Prop} (ha : P a) (hb : P b) : P (if c then a else b) := by
  split
  · exact ha
  · exact hb

theorem apply_up {p : Program} {main listen : Bool} {fr : Frame} {cs : List Frame} {d : Option Dying} {s : Sem Next} {w : World} {n : Nat} (hn : n ≤ w.drawn) : GUp n (stepG.apply p listen fr cs d s w) := by
  unfold stepG.apply
  rcases hr : (if listen = true then s.runT p w #[] else (s.run p w, #[])) with ⟨r, es⟩
  have hw : n ≤ (Result.world r).drawn := by
    have h1 : (if listen = true then s.runT p w #[] else (s.run p w, #[])).1 = s.run p w := by
      split
      · exact runT_fst _ _ _ _
      · rfl
    rw [hr] at h1
    have h2 := run_up p s w
    rw [← h1] at h2
    exact Nat.le_trans hn h2
  clear hr
  refine GUp.after ?_
  cases r with
  | ok v w' =>
    cases v <;> first | exact hw | trivial | skip
    case recover => simp only; split <;> exact hw
    case spawn => exact gup_ite (fun _ => endThrow_up hw) fun _ => hw
    case callThen => simp only; split <;> exact hw
    case row => simp only; split <;> exact hw
    case stack => simp only; split <;> exact hw
  | halt h w' =>
    cases h <;> first | exact hw | trivial | exact endFatal_up hw | exact endThrow_up hw | skip
    case unsupported u => cases u <;> first | trivial | exact early_up hw

theorem oper_up {p : Program} {listen : Bool} {fr : Frame} {cs : List Frame} {d : Option Dying} {w : World} {n : Nat} (hn : n ≤ w.drawn) : GUp n (stepG.oper p listen fr cs d w) := by
  unfold stepG.oper
  split
  · trivial
  · split
    · exact apply_up (main := false) hn
    · exact apply_up (main := false) hn

theorem gup_elim {α : Type} {n : Nat} {o : Option α} {a : GStep} {f : α → GStep} (ha : GUp n a) (hf : ∀ x, GUp n (f x)) : GUp n (o.elim a f) := by
  cases o with
  | none => exact ha
  | some x => exact hf x

theorem exec_up {p : Program} {main listen : Bool} {fr : Frame} {cs : List Frame} {d : Option Dying} {w : World} {n : Nat} (hn : n ≤ w.drawn) : GUp n (stepG.exec p main listen fr cs d w) := by
  unfold stepG.exec
  dsimp only
  split
  all_goals repeat' (first
    | exact hn
    | trivial
    | exact apply_up (main := main) hn
    | exact oper_up hn
    | (rename_i h; exact doReturn_up (okT_up h hn))
    | (rename_i h; exact apply_up (main := main) (okT_up h hn))
    | (rename_i h; exact (okT_up h hn : n ≤ World.drawn _))
    | (rename_i h; exact (haltT_up h hn : n ≤ World.drawn _))
    | (rename_i h; exact (ok_up h hn : n ≤ World.drawn _))
    | refine GUp.after ?_
    | refine gup_elim ?_ fun _ => ?_
    | refine gup_ite (fun _ => ?_) fun _ => ?_
    | split)

theorem stepG_up {p : Program} {main listen : Bool} {g : Goroutine} {w : World} : GUp w.drawn (stepG p main g w listen) := by
  unfold stepG
  simp only
  split
  · exact die_up (Nat.le_refl _)
  · exact exec_up (Nat.le_refl _)
  · exact unwind_up (Nat.le_refl _)

/-- What the machine has stepped to: nothing is said of a program that has ended. -/
def SUp (n : Nat) : Stepped → Prop
  | .next m => n ≤ m.world.drawn
  | .ended _ _ => True

theorem sup_ite {n : Nat} {c : Prop} [Decidable c] {a b : Stepped × Array MemOp} (ha : c → SUp n a.1) (hb : ¬ c → SUp n b.1) : SUp n (if c then a else b).1 := by
  split
  · exact ha (by assumption)
  · exact hb (by assumption)

theorem waitingAt_up {rest : Rest} {cases_ : Array CommCase} {w w' : World} (h : waitingAt rest cases_ w = some w') : w'.drawn = w.drawn := by
  unfold waitingAt at h
  split at h
  · split at h
    · cases h; rfl
    · cases h
  · cases h; rfl

theorem communicate_up {p : Program} {rest : Rest} {gs : Array Goroutine} {i : Nat} {g : Goroutine} {cases_ : Array CommCase} {blocking : Bool} {shape : CommShape} {w : World} {n : Nat} (hn : n ≤ w.drawn) :
    SUp n (communicate p rest gs i g cases_ blocking shape w).1 := by
  unfold communicate
  refine sup_ite (fun _ => trivial) fun _ => ?_
  refine sup_ite (fun _ => sup_ite (fun _ => ?_) fun _ => hn) fun _ => ?_
  · split
    · rename_i h; have := waitingAt_up h; exact (by rw [this]; exact hn : n ≤ World.drawn _)
    · trivial
  · simp only
    split
    · trivial
    · rename_i h
      have h1 := ok_up h hn
      clear h
      split
      · split
        · rename_i h; exact halt_up h h1
        · trivial
      · exact h1
      · exact h1
      · split
        · exact h1
        · split
          · rename_i h; have h2 := ok_up h h1; exact h2
          · trivial
      · exact h1
      · exact h1
      · trivial

theorem look_up {p : Program} {gs : Array Goroutine} {rest : Rest} {w : World} {n : Nat} (hn : n ≤ w.drawn) : SUp n (look p gs rest w) := by
  simp only [look]
  repeat' (first | trivial | (rename_i h; exact (ok_up h hn : n ≤ World.drawn _)) | split)

theorem serve_up {p : Program} {m : Machine} {k : Nat} {n : Nat} (hn : n ≤ m.world.drawn) : SUp n (serve p m k) := by
  unfold serve
  split
  · trivial
  · exact hn
  · simp only
    split
    · trivial
    · exact hn

theorem drain_up (w : World) (c : Nat) : (drain w c).2.drawn = w.drawn := by
  unfold drain; split <;> rfl

theorem retime_up (m : Machine) (k : Nat) (t : Timer) (a b : Nat) : (retime m k t a b).2.world.drawn = m.world.drawn := by
  unfold retime
  cases h : t.chan with
  | none => rfl
  | some c => exact drain_up _ _

theorem timerOp_up {m m' : Machine} {op : TimerOp} {v : Value} (h : timerOp m op = .ok (v, m')) : m'.world.drawn = m.world.drawn := by
  have hnamed : ∀ (m0 m : Machine) (var : Addr) (a : Nat) (b : Timer → Nat) (v : Value) (m' : Machine), timerOp.named m0 var (fun k t => retime m k t a (b t)) = .ok (v, m') → m'.world.drawn = m.world.drawn := by
    intro m0 m var a b v m' h
    unfold timerOp.named at h
    split at h
    · rename_i k hk
      have : m' = (retime m k (m0.rest.timers.getD k default) a (b (m0.rest.timers.getD k default))).2 := by
        injection h with h
        have h2 : retime m k (m0.rest.timers.getD k default) a (b (m0.rest.timers.getD k default)) = (v, m') := h
        rw [h2]
      rw [this]
      exact retime_up _ _ _ _ _
    · cases h
  cases op with
  | new t =>
    simp only [timerOp] at h
    split at h
    · cases h; rfl
    · split at h
      · split at h
        · cases h
        · cases h; rfl
      · cases h
  | stop var => exact hnamed m m var 0 (fun t => t.period) v m' h
  | reset var a b =>
    simp only [timerOp] at h
    split at h
    · rename_i m1 h1
      have e1 : m1.world.drawn = m.world.drawn := by
        unfold timerOp.opened at h1
        split at h1
        · split at h1
          · cases h1; rfl
          · cases h1
        · cases h1; rfl
      rw [← e1]
      exact hnamed m m1 var a (fun _ => b) v m' h
    · cases h
  | deadline => simp only [timerOp] at h; cases h; rfl

theorem runT_machine_up {p : Program} {m : Machine} {i : Nat} {listen : Bool} : SUp m.world.drawn (runT p m i listen).1 := by
  have hg := fun g => @stepG_up p (i == 0) listen g m.world
  unfold runT
  dsimp only
  have h := hg (m.gs.swapAt! i { (default : Goroutine) with status := .finished }).1
  generalize stepG p (i == 0) (m.gs.swapAt! i { (default : Goroutine) with status := .finished }).1 m.world listen = s at h ⊢
  split
  · trivial
  · exact communicate_up h
  · exact h
  · exact h
  · show SUp _ (if _ then _ else _)
    split
    · trivial
    · exact h
  · exact h
  · exact look_up h
  · exact h
  · exact h
  · split
    · exact h
    · exact h
    · trivial
  · split
    · rename_i h1
      have := timerOp_up h1
      exact (by rw [this]; exact h : m.world.drawn ≤ World.drawn _)
    · exact h
    · trivial
    · trivial

/-- What a move has brought. -/
def MUp (n : Nat) : Move → Prop
  | .goroutine m _ => n ≤ m.world.drawn
  | .machine s _ => SUp n s

theorem mup_ite {n : Nat} {c : Prop} [Decidable c] {a b : Move} (ha : c → MUp n a) (hb : ¬ c → MUp n b) : MUp n (if c then a else b) := by
  split
  · exact ha (by assumption)
  · exact hb (by assumption)

theorem askOn_up {p : Program} {m : Machine} {n : Nat} (hn : n ≤ m.world.drawn) : MUp n (askOn p m) := by
  have hpick : ∀ m' : Machine, n ≤ m'.world.drawn → MUp n (match (choose (.sched (runnable m.gs m.world.os.mono).length)).run p m'.world with
      | .halt _ w => .machine (.ended (.stuck "sched" "") w)
      | .ok k world =>
        if (runnable m.gs m.world.os.mono).length ≤ 1 then .goroutine { m' with world } ((runnable m.gs m.world.os.mono).getD k 0) else
        match (choose (.extern "sched.slice" 65536)).run p world with
        | .halt _ w => .machine (.ended (.stuck "sched.slice" "") w)
        | .ok n world => .goroutine { m' with world, rest := { m'.rest with slice := if n = 0 then none else some ((runnable m.gs m.world.os.mono).getD k 0, n) } } ((runnable m.gs m.world.os.mono).getD k 0)) := by
    intro m' hn
    split
    · trivial
    · rename_i h
      have h1 := ok_up h hn
      refine mup_ite (fun _ => h1) fun _ => ?_
      split
      · trivial
      · rename_i h; exact ok_up h h1
  unfold askOn
  dsimp only
  split
  · trivial
  · rename_i h
    have h1 := ok_up h hn
    clear h
    refine mup_ite (fun _ => serve_up h1) fun _ => ?_
    split
    · split
      · exact h1
      · refine mup_ite (fun _ => h1) fun _ => ?_
        split
        · trivial
        · trivial
    · split
      · exact hpick { m with world := _ } h1
      · split
        · trivial
        · rename_i h; exact hpick { m with world := _ } (ok_up h h1)
        · rename_i h; have h2 := ok_up h h1; exact h2
        · rename_i h; have h2 := ok_up h h1; exact hpick _ h2

theorem ask_up' {p : Program} {m : Machine} {n : Nat} (hn : n ≤ m.world.drawn) : MUp n (ask p m) := by
  unfold ask
  refine mup_ite (fun _ => ?_) fun _ => askOn_up hn
  split
  · trivial
  · rename_i h
    have h1 := ok_up h hn
    clear h
    have h2 := @look_up p m.gs m.rest _ n h1
    split
    · rename_i h3; rw [h3] at h2; exact askOn_up h2
    · exact h2
  · rename_i h
    exact askOn_up (ok_up h hn)

theorem move_up {p : Program} {m : Machine} : MUp m.world.drawn (move p m) := by
  unfold move
  split
  · exact mup_ite (fun _ => Nat.le_refl _) fun _ => trivial
  · split
    · exact mup_ite (fun _ => Nat.le_refl _) fun _ => ask_up' (Nat.le_refl _)
    · exact ask_up' (Nat.le_refl _)

theorem step_up {p : Program} {m m' : Machine} (h : step p m = .next m') : m.world.drawn ≤ m'.world.drawn := by
  have hm := @move_up p m
  unfold step stepT at h
  split at h
  · rename_i m1 i h1
    rw [h1] at hm
    have h2 := @runT_machine_up p m1 i true
    rw [h] at h2
    exact Nat.le_trans hm h2
  · rename_i s ops h1
    rw [h1] at hm
    simp only at h
    rw [h] at hm
    exact hm

theorem steps_up {p : Program} {m m' : Machine} (h : Steps p m m') : m.world.drawn ≤ m'.world.drawn := by
  obtain ⟨k, hk⟩ := h
  induction k generalizing m with
  | zero => cases hk; exact Nat.le_refl _
  | succ k ih =>
    simp only [runN] at hk
    split at hk
    · rename_i m1 h1
      exact Nat.le_trans (step_up h1) (ih hk)
    · rename_i h1
      rw [hk] at h1
      exact absurd rfl (h1 m')

theorem calls_up {P : Program} {f : FuncId} {args : Array Value} {w : World} {R : Ending → World → Prop} (h : Calls P f args w R) (hr : ∀ e w', R e w' → ∃ v, e = .returned v) :
    Calls P f args w fun e w' => R e w' ∧ w.drawn ≤ w'.drawn := by
  intro cs
  obtain ⟨e, w', fr, hR, hc, hf, hl⟩ := h cs
  obtain ⟨v, rfl⟩ := hr e w' hR
  exact ⟨_, w', fr, ⟨hR, steps_up hc⟩, hc, hf, hl⟩

/-- A call that leaves what was there as it was: how often the tape has been asked, and which blocks have been laid. -/
theorem calls_grown {P : Program} {f : FuncId} {args : Array Value} {w : World} {v : Value} (h : Calls P f args w fun e w' => e = .returned v ∧ Below w.heap.size w w') :
    Calls P f args w fun e w' => e = .returned v ∧ ∃ q os', w' = grow (w.drewN q) os' := by
  refine (calls_up h fun e w' h => ⟨v, h.1⟩).mono ?_
  rintro e w' ⟨⟨rfl, hb⟩, hu⟩
  refine ⟨rfl, w'.drawn - w.drawn, ?_⟩
  obtain ⟨⟨d, os'⟩, hp⟩ := regrown_of_below hb
  refine ⟨os', ?_⟩
  have hd : w'.drawn = d := by rw [hp]; rfl
  have hq : w.drawn + (w'.drawn - w.drawn) = d := by omega
  have e1 : w.drewN (w'.drawn - w.drawn) = redrawn w d := by
    simp only [World.drewN, redrawn, hq]
  rw [e1]
  exact hp

end Go.Proofs.Ytokkipocdhfglaa.Up
namespace Go.Proofs
open Go.Shelf
def Try.sortL_ren : Go.Shelf.Ren := ⟨fun | 6 => 73 | 15 => 100 | 14 => 99 | 28 => 112 | 29 => 113 | 20 => 104 | 21 => 105 | 22 => 106 | 23 => 107 | 24 => 108 | 25 => 109 | 26 => 110 | 27 => 111 | 46 => 114 | 47 => 115 | 48 => 116 | 49 => 117 | 50 => 118 | 57 => 119 | n => n, fun | 22 => 48 | 24 => 3 | 25 => 92 | 3 => 3 | 39 => 109 | 0 => 0 | 53 => 122 | 55 => 25 | 4 => 4 | 46 => 115 | 45 => 114 | 50 => 119 | 5 => 5 | 9 => 9 | 66 => 124 | 70 => 128 | 76 => 130 | 77 => 58 | n => n, fun | n => n⟩
theorem Try.sortL : Go.Proofs.SlLaysF.n6 Try.prog Try.sortL_ren := {
  mixed := by kernel_rfl
  f6 := ⟨Try.f73.name, by decide, Try.func73.trans (congrArg some (by kernel_rfl))⟩
  f14 := ⟨Try.f99.name, by decide, Try.func99.trans (congrArg some (by kernel_rfl))⟩
  f15 := Try.func100.trans (congrArg some (by kernel_rfl))
  f20 := ⟨Try.f104.name, by decide, Try.func104.trans (congrArg some (by kernel_rfl))⟩
  f21 := ⟨Try.f105.name, by decide, Try.func105.trans (congrArg some (by kernel_rfl))⟩
  f22 := ⟨Try.f106.name, by decide, Try.func106.trans (congrArg some (by kernel_rfl))⟩
  f23 := ⟨Try.f107.name, by decide, Try.func107.trans (congrArg some (by kernel_rfl))⟩
  f24 := ⟨Try.f108.name, by decide, Try.func108.trans (congrArg some (by kernel_rfl))⟩
  f25 := ⟨Try.f109.name, by decide, Try.func109.trans (congrArg some (by kernel_rfl))⟩
  f26 := ⟨Try.f110.name, by decide, Try.func110.trans (congrArg some (by kernel_rfl))⟩
  f27 := ⟨Try.f111.name, by decide, Try.func111.trans (congrArg some (by kernel_rfl))⟩
  f28 := Try.func112.trans (congrArg some (by kernel_rfl))
  f29 := Try.func113.trans (congrArg some (by kernel_rfl))
  f46 := ⟨Try.f114.name, by decide, Try.func114.trans (congrArg some (by kernel_rfl))⟩
  f47 := Try.func115.trans (congrArg some (by kernel_rfl))
  f48 := Try.func116.trans (congrArg some (by kernel_rfl))
  f49 := ⟨Try.f117.name, by decide, Try.func117.trans (congrArg some (by kernel_rfl))⟩
  f50 := ⟨Try.f118.name, by decide, Try.func118.trans (congrArg some (by kernel_rfl))⟩
  f57 := ⟨Try.f119.name, by decide, Try.func119.trans (congrArg some (by kernel_rfl))⟩
  t0 := Try.underlying0
  a0 := Try.isAgg0
  z0 := Try.sizeOf0
  v0 := Try.zeroValue0
  t3 := Try.underlying3
  a3 := Try.isAgg3
  z3 := Try.sizeOf3
  v3 := Try.zeroValue3
  t4 := Try.underlying4
  a4 := Try.isAgg4
  z4 := Try.sizeOf4
  v4 := Try.zeroValue4
  t5 := Try.underlying5
  a5 := Try.isAgg5
  z5 := Try.sizeOf5
  v5 := Try.zeroValue5
  t9 := Try.underlying9
  a9 := Try.isAgg9
  z9 := Try.sizeOf9
  v9 := Try.zeroValue9
  t22 := Try.underlying48
  a22 := Try.isAgg48
  z22 := Try.sizeOf48
  v22 := Try.zeroValue48
  a24 := Try.isAgg3
  z24 := Try.sizeOf3
  t25 := Try.underlying92
  a25 := Try.isAgg92
  z25 := Try.sizeOf92
  v25 := Try.zeroValue92
  t39 := Try.underlying109
  a39 := Try.isAgg109
  z39 := Try.sizeOf109
  v39 := Try.zeroValue109
  t45 := Try.underlying114
  a45 := Try.isAgg114
  z45 := Try.sizeOf114
  v45 := Try.zeroValue114
  t46 := Try.underlying115
  a46 := Try.isAgg115
  z46 := Try.sizeOf115
  v46 := Try.zeroValue115
  t50 := Try.underlying119
  a50 := Try.isAgg119
  z50 := Try.sizeOf119
  v50 := Try.zeroValue119
  t53 := Try.underlying122
  a53 := Try.isAgg122
  z53 := Try.sizeOf122
  v53 := Try.zeroValue122
  t55 := Try.underlying25
  a55 := Try.isAgg25
  z55 := Try.sizeOf25
  v55 := Try.zeroValue25
  t66 := Try.underlying124
  a66 := Try.isAgg124
  z66 := Try.sizeOf124
  v66 := Try.zeroValue124
  t70 := Try.underlying128
  a70 := Try.isAgg128
  z70 := Try.sizeOf128
  v70 := Try.zeroValue128
  t76 := Try.underlying130
  a76 := Try.isAgg130
  z76 := Try.sizeOf130
  v76 := Try.zeroValue130
  t77 := Try.underlying58
  a77 := Try.isAgg58
  z77 := Try.sizeOf58
  v77 := Try.zeroValue58 }
end Go.Proofs
namespace Go.Proofs.Ytokkipocdhfglaa.Ev
open Go Go.Proofs Go.Sort
set_option linter.unusedVariables false
set_option linter.unusedSimpArgs false
set_option maxRecDepth 100000
theorem sw_keep {α : Type} [Inhabited α] (enc : α → Value) (W : World) (g q : Nat) (dk : Array α) (os : Array Obj) : Keep (fun k => k = g) W (Go.Proofs.sortWorld enc W g 0 q dk os) := by
  have hs : (putRow enc (Sort.ahead W q) g 0 dk).heap.size = W.heap.size := by simp [putRow, mapBlock, Sort.ahead]
  refine ⟨rfl, rfl, rfl, by simp [Go.Proofs.sortWorld, hs], fun k hk hne => ?_⟩
  simp only [Go.Proofs.sortWorld]
  rw [heap_grow_old _ _ (by omega)]
  simp [putRow, mapBlock, Sort.ahead, Array.getElem?_modify, Ne.symm hne]
theorem closure_at {t : List SVtx} {p n x y : Int} {Z : Zs} {W : World} {bt bp bn : Nat} {vt : Value} (ht : t.length ≤ 1000) (hx : 0 ≤ x ∧ x < n) (hy : 0 ≤ y ∧ y < n) (hp : 0 ≤ p ∧ p < n) (hn : n ≤ 1000000)
    (hz : ∀ b o, Z b o → b < W.heap.size) (hD : DR Z W (encT t) vt) (ct : W.cell? ⟨bt, 0, none⟩ = some vt) (cp : W.cell? ⟨bp, 0, none⟩ = some (.int .i64 p)) (cn : W.cell? ⟨bn, 0, none⟩ = some (.int .i64 n)) :
    Calls P 74 #[.int .i64 x, .int .i64 y, .pointer (some ⟨bt, 0, none⟩), .pointer (some ⟨bp, 0, none⟩), .pointer (some ⟨bn, 0, none⟩)] W fun e w' => e = .returned (.int .i64 (cf t n p x y)) ∧ Go.RowKit.Below W.heap.size W w' := by
  have hpc := (closure_g low0 t p n x y ht hx hy hp hn).pcI okx0 rfl rfl
  have E : ZExt Z (fun b o => Z b o ∨ (o = 0 ∧ (b = bt ∨ b = bp ∨ b = bn))) W W := ⟨fun b o h => .inl h, fun _ _ _ => rfl⟩
  have he : ∀ (a : AV) (b : Nat) (v : Value), (b = bt ∨ b = bp ∨ b = bn) → W.cell? ⟨b, 0, none⟩ = some v → DR (fun b o => Z b o ∨ (o = 0 ∧ (b = bt ∨ b = bp ∨ b = bn))) W a v → DR (fun b o => Z b o ∨ (o = 0 ∧ (b = bt ∨ b = bp ∨ b = bn))) W (.ea [a]) (.pointer (some ⟨b, 0, none⟩)) := by
    intro a b v hb hc hd
    refine .ea [a] b 0 (fun _ => v) (fun j hj => ?_) (fun j hj => ?_)
    · obtain rfl : j = 0 := by simpa using hj
      exact ⟨.inr ⟨rfl, hb⟩, hc⟩
    · obtain rfl : j = 0 := by simpa using hj
      exact hd
  refine (hpc (fun b o => Z b o ∨ (o = 0 ∧ (b = bt ∨ b = bp ∨ b = bn))) W _ ?_ rfl ?_).mono ?_
  · rintro b o (h | ⟨rfl, rfl | rfl | rfl⟩)
    · exact hz b o h
    · exact World.block_lt_of_cell? W _ ct
    · exact World.block_lt_of_cell? W _ cp
    · exact World.block_lt_of_cell? W _ cn
  · intro i hi
    match i, hi with
    | 0, _ => exact .v _ rfl
    | 1, _ => exact .v _ rfl
    | 2, _ => exact he _ _ _ (.inl rfl) ct (DR.ext E hD)
    | 3, _ => exact he _ _ _ (.inr (.inl rfl)) cp (.v _ rfl)
    | 4, _ => exact he _ _ _ (.inr (.inr rfl)) cn (.v _ rfl)
  · rintro e w' ⟨v, Z', rfl, G, _, _, _, hv⟩
    cases hv
    exact ⟨rfl, ⟨G.os, G.tape, G.output, G.size, fun k hk => G.old hk⟩⟩
theorem sort_run {t : List SVtx} {p : Int} {n : Nat} {Z : Zs} {W : World} {bt bp bn : Nat} {vt v : Value} (ht : t.length ≤ 1000) (hp : 0 ≤ p ∧ p < n) (hn : n ≤ 1000)
    (hz : ∀ b o, Z b o → b < W.heap.size) (hD : DR Z W (encT t) vt) (ct : W.cell? ⟨bt, 0, none⟩ = some vt) (cp : W.cell? ⟨bp, 0, none⟩ = some (.int .i64 p)) (cn : W.cell? ⟨bn, 0, none⟩ = some (.int .i64 n))
    (hrow : W.ownsRow 0 3 1 v (others p n).length ((others p n).map (Value.int .i64))) (hZg : ∀ g c k, v = .slice (some ⟨g, 0, none⟩) k c → 0 < k → (∀ o, ¬ Z g o) ∧ g ≠ bt ∧ g ≠ bp ∧ g ≠ bn) :
    Calls P 73 #[v, .func (.func 74) #[] #[.pointer (some ⟨bt, 0, none⟩), .pointer (some ⟨bp, 0, none⟩), .pointer (some ⟨bn, 0, none⟩)]] W fun e w' =>
      e = .returned (.tuple #[]) ∧ w'.ownsRow 0 3 1 v (others p n).length ((sorted n p t).map (Value.int .i64)) ∧ Keep (fun k => v.ownBlock = some k) W w' := by
  have eg : ∀ args w, (callFunc 74 args).run P w = .ok (.enter 74 args) w := enters_of Try.func74 (by kernel_rfl) rfl
  haveI : Inhabited (Q n) := ⟨⟨p, hp⟩⟩
  rcases Nat.eq_zero_or_pos (others p n).length with h0 | h0
  · obtain ⟨A1, c1, rfl⟩ : ∃ A c, v = .slice A 0 c := by
      rcases hrow.2 with ⟨rfl, _⟩ | ⟨g, cap, cur, rfl, _⟩
      · exact ⟨_, _, rfl⟩
      · rw [h0]; exact ⟨_, _, rfl⟩
    refine (Go.Proofs.AnyF.slices_SortFunc_none (P := P) (ρ := Try.sortL_ren) { Try.sortL with } A1 c1 (.func (.func 74) #[] #[.pointer (some ⟨bt, 0, none⟩), .pointer (some ⟨bp, 0, none⟩), .pointer (some ⟨bn, 0, none⟩)]) W).mono ?_
    rintro e w' ⟨rfl, rfl⟩
    have hnil : others p n = [] := List.eq_nil_of_length_eq_zero h0
    refine ⟨rfl, ?_, .refl _ _⟩
    have : sorted n p t = [] := by simp [sorted, hnil]
    rw [this, ← hnil]
    exact hrow
  · obtain ⟨g, cap, cur, rfl, hrow'⟩ : ∃ g cap cur, v = .slice (some ⟨g, 0, none⟩) (others p n).length cap ∧ W.heap[g]? = some (.cells cur 3 (0, 0)) := by
      rcases hrow.2 with ⟨_, h⟩ | ⟨g, cap, cur, h1, _, h2, _⟩
      · omega
      · exact ⟨g, cap, cur, h1, h2⟩
    obtain ⟨hg1, hg2, hg3, hg4⟩ := hZg g cap _ rfl h0
    obtain ⟨d, hd⟩ := lift n (others p n) fun x hx => by have := others_mem.mp hx; omega
    have hlen : d.length = (others p n).length := by rw [← hd, List.length_map]
    have henc : (others p n).map (Value.int .i64) = d.map enc := by rw [← hd, List.map_map]; rfl
    rw [henc] at hrow
    obtain ⟨g', cap', hv', -, hgW, -, -, -, hH⟩ := Go.Lib.holds_of_ownsRow hrow (by simp)
    have hgg : g' = g ∧ cap' = cap := by
      simp only [Value.slice.injEq, Option.some.injEq, Addr.mk.injEq] at hv'
      exact ⟨hv'.1.1.symm, hv'.2.2.symm⟩
    obtain ⟨rfl, rfl⟩ := hgg
    clear hv'
    have hcmp : Go.Proofs.CmpLays1 P 74 #[.pointer (some ⟨bt, 0, none⟩), .pointer (some ⟨bp, 0, none⟩), .pointer (some ⟨bn, 0, none⟩)] enc (fun x y : Q n => cf t n p x.1 y.1) g' 0 d.toArray.size W := by
      intro m os dk hdk x y
      have hS := sw_keep (enc (n := n)) W g' m dk os
      have hx := x.2
      have hy := y.2
      have hcell : ∀ b o, b ≠ g' → b < W.heap.size → (Go.Proofs.sortWorld (enc (n := n)) W g' 0 m dk os).cell? ⟨b, o, none⟩ = W.cell? ⟨b, o, none⟩ := fun b o hb hlt => World.cell?_of_block (w := W) (hS.block b hlt hb)
      refine Go.Proofs.Ytokkipocdhfglaa.Up.calls_grown ?_
      exact closure_at ht hx hy hp (by omega) (fun b o h => Nat.lt_of_lt_of_le (hz b o h) hS.size)
        (DR.ext ⟨fun _ _ h => h, fun b o h => hcell b o (fun hb => hg1 o (hb ▸ h)) (hz b o h)⟩ hD)
        ((hcell bt 0 (Ne.symm hg2) (World.block_lt_of_cell? W _ ct)).trans ct) ((hcell bp 0 (Ne.symm hg3) (World.block_lt_of_cell? W _ cp)).trans cp) ((hcell bn 0 (Ne.symm hg4) (World.block_lt_of_cell? W _ cn)).trans cn)
    have hS := Go.Proofs.Any.slices_SortFunc_total (P := P) Try.sortL enc (fun _ => rfl) (fun x y : Q n => cf t n p x.1 y.1) (swo n p t) 74 #[.pointer (some ⟨bt, 0, none⟩), .pointer (some ⟨bp, 0, none⟩), .pointer (some ⟨bn, 0, none⟩)] g' 0 cap' d.toArray W eg hcmp hH hgW
      (by have := @others_len p n; simp; omega) (tot n p hp t)
    have hsz : d.toArray.size = (others p n).length := by simp [hlen]
    rw [hsz] at hS
    refine Calls.mono hS ?_
    rintro e w' ⟨rfl, q, os, rfl⟩
    have hms := sort_map n p t d
    rw [hd] at hms
    have hl2 : (d.mergeSort fun x y => !(Go.Proofs.ltOf (fun x y : Q n => cf t n p x.1 y.1)) y x).length = (others p n).length := by rw [List.length_mergeSort, hlen]
    have ho := Go.Lib.ownsRow_putRow (q := q) hrow hl2 (Nat.le_refl _)
    rw [List.take_of_length_le (by omega)] at ho
    refine ⟨rfl, ?_, ?_⟩
    · have e1 : (sorted n p t).map (Value.int .i64) = (d.mergeSort fun x y => !(Go.Proofs.ltOf (fun x y : Q n => cf t n p x.1 y.1)) y x).map enc := by
        have e2 : sorted n p t = (d.mergeSort fun x y => !(Go.Proofs.ltOf (fun x y : Q n => cf t n p x.1 y.1)) y x).map (·.1) := hms.symm
        rw [e2, List.map_map]
        rfl
      rw [e1]
      refine ⟨ho.1, ?_⟩
      rcases ho.2 with h | ⟨g, cap, cur, h1, h2, h3, h4⟩
      · exact .inl h
      · refine .inr ⟨g, cap, cur, h1, h2, ?_, h4⟩
        simp only [Go.Proofs.sortWorld]
        rw [heap_grow_old]
        · exact h3
        · rcases Nat.lt_or_ge g (putRow (enc (n := n)) (Sort.ahead W q) g' 0 (d.mergeSort fun x y => !(Go.Proofs.ltOf (fun x y : Q n => cf t n p x.1 y.1)) y x).toArray).heap.size with h | h
          · exact h
          · rw [Array.getElem?_eq_none h] at h3; cases h3
    · have hk := sw_keep (enc (n := n)) W g' q (d.toArray.toList.mergeSort fun x y => !(Go.Proofs.ltOf (fun x y : Q n => cf t n p x.1 y.1)) y x).toArray os
      exact ⟨hk.os, hk.tape, hk.output, hk.size, fun k h1 h2 => hk.block k h1 (fun h => h2 (by rw [h]; rfl))⟩
end Go.Proofs.Ytokkipocdhfglaa.Ev
