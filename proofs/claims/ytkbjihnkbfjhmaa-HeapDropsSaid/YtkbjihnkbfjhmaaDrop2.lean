/- Heap: all of one G are found and taken out. No condition. -/
import Derived.Test.YtkbjihnkbfjhmaaDrop1
import Derived.BigFrame
namespace Go.Proofs.Ytkbjihnkbfjhmaa.Heap
open Go Go.Proofs Go.RowKit Go.Shelf Go.Proofs.Ytkbjihnkbfjhmaa.Own Go.Proofs.YtkbjihnkbfjhmaaW.PrintWords Go.Proofs.YtkbjihnkbfjhmaaW.PrintLast Go.Proofs.YtkbjihnkbfjhmaaW.PrintMore
set_option linter.unusedVariables false
set_option linter.unusedSimpArgs false
theorem del1_calls (x : Tm) (g : Int) (gb : Nat) (b : Bool) (hb : (x.g == g) = b) (w : World) (hc : w.cell? ⟨gb, 0, none⟩ = some (.int .i64 g)) :
    Calls Try.prog 28 #[.agg #[.int .i64 x.t, .int .i64 x.s, .int .i64 x.g], .pointer (some ⟨gb, 0, none⟩)] w fun e w' => e = .returned (.bool b) ∧ Below w.heap.size w w' := by
  subst hb
  have hlt := World.block_lt_of_cell? w _ hc
  go_enter Try.func28, Try.ntmps28
  go_wp2
  go_ret
  exact ⟨rfl, below_alloc (Below.refl _ _) _⟩
def fi (g : Int) (l : List Tm) : Nat := l.findIdx (fun x => x.g == g)
theorem fi_le (g : Int) (l : List Tm) : fi g l ≤ l.length := List.findIdx_le_length
set_option maxHeartbeats 1000000 in
theorem index_calls (A : Option Addr) (c : Nat) (l : List Tm) (g : Int) (gb : Nat) (hlen : l.length ≤ 1000000) (w : World) (hC : kTm.C w A l.length l) (hc : w.cell? ⟨gb, 0, none⟩ = some (.int .i64 g)) (R : Int) (hR : (if fi g l < l.length then (fi g l : Int) else -1) = R) :
    Calls Try.prog 37 #[.slice A l.length c, .func (.func 28) #[] #[.pointer (some ⟨gb, 0, none⟩)]] w fun e w' => e = .returned (.int .i64 R) ∧ Below w.heap.size w w' := by
  have HC := Aside0.mk hC
  have HR := Aside0.mk hR
  have HG := Aside0.mk hc
  clear hC hc hR
  go_enter Try.func37, Try.ntmps37
  go_wp2
  go_loopg [5, 8] (l.length + 1) (fun kq v5 v8 w' => ∃ i : Nat, v8 = .int .i64 (i : Int) ∧ Aside0 (i + kq = l.length + 1 ∧ i ≤ l.length ∧ i ≤ fi g l) ∧ Aside0 (Below w.heap.size w w'))
  case atStart => exact ⟨0, rfl, ⟨by omega, Nat.zero_le _, Nat.zero_le _⟩, ⟨Below.refl _ _⟩⟩
  case round =>
    obtain ⟨i, rfl, HK, HB⟩ := hrel
    cases gk with
    | zero => exact absurd HK.out (by omega)
    | succ k1 =>
      by_cases hin : i < l.length
      · have c1 : decide ((i : Int) < (l.length : Int)) = true := decide_eq_true (by omega)
        have c1n : decide (i < l.length) = true := decide_eq_true (by omega)
        obtain ⟨ad, rfl, a0, a1, a2⟩ := at_elem (Kd.C_below HC.out HB.out) hin
        have hg := cell_below HG.out HB.out
        have HG2 := Aside0.mk hg
        have p0 : (i : Int) ≤ 1000000 := by omega
        have p1 : (0 : Int) ≤ (i : Int) := by omega
        have p2 : (i : Int) < (l.length : Int) := by omega
        have HL := Aside0.mk hin
        by_cases hx : (l[i].g == g) = true
        · have HF := Aside0.mk (show fi g l = i by
            have h1 : fi g l ≤ i := by
              refine Nat.le_of_not_lt fun hlt => ?_
              have h2 := List.not_of_lt_findIdx hlt
              rw [hx] at h2; cases h2
            exact Nat.le_antisymm h1 HK.out.2.2)
          have HX := Aside0.mk hx
          generalize l[i] = x at a0 a1 a2 HX
          clear hx hin hg
          go_wp2_with (go_at_call 28; (with_reducible refine (del1_calls x g gb true HX.out _ HG2.out).mono ?_); rintro e w2 ⟨rfl, hb⟩; have HB2 := Aside0.mk (HB.out.trans (hb.mono HB.out.size)); clear hb)
          go_ret
          exact ⟨by rw [← HR.out, HF.out, if_pos HL.out]; rfl, HB2.out⟩
        · replace hx : (l[i].g == g) = false := by simpa using hx
          have HF := Aside0.mk (show i + 1 ≤ fi g l by
            have h1 := HK.out.2.2
            rcases Nat.lt_or_eq_of_le h1 with h2 | h2
            · exact h2
            · exfalso
              have h3 : l.findIdx (fun x => x.g == g) < l.length := by show fi g l < l.length; omega
              have h4 := List.findIdx_getElem (p := fun x : Tm => x.g == g) (w := h3)
              have h5 : l.findIdx (fun x => x.g == g) = i := by show fi g l = i; omega
              simp only [h5] at h4
              rw [hx] at h4
              cases h4)
          have HX := Aside0.mk hx
          clear hx
          generalize l[i] = x at a0 a1 a2 HX
          clear hin hg
          go_wp2_with (go_at_call 28; (with_reducible refine (del1_calls x g gb false HX.out _ HG2.out).mono ?_); rintro e w2 ⟨rfl, hb⟩; have HB2 := Aside0.mk (HB.out.trans (hb.mono HB.out.size)); clear hb)
          go_roundg k1
          case measure => have := HK.out; omega
          case rel => exact ⟨i + 1, by first | rfl | go_num, ⟨by have := HK.out; omega, HL.out, HF.out⟩, HB2⟩
      · have c1 : decide ((i : Int) < (l.length : Int)) = false := decide_eq_false (by omega)
        have c1n : decide (i < l.length) = false := decide_eq_false (by omega)
        have HF := Aside0.mk (show ¬ fi g l < l.length by have := HK.out; omega)
        clear hin
        go_wp2
        go_ret
        exact ⟨by rw [← HR.out, if_neg HF.out]; rfl, HB.out⟩
def dropG (g : Int) (l : List Tm) : List Tm := l.filter (fun x => !(x.g == g))
theorem dropG_len (g : Int) (l : List Tm) : (dropG g l).length ≤ l.length := List.length_filter_le _ _
theorem dropG_snoc (g : Int) (l : List Tm) (x : Tm) : dropG g (l ++ [x]) = dropG g l ++ (if (x.g == g) = true then [] else [x]) := by
  unfold dropG
  rw [List.filter_append]
  by_cases h : (x.g == g) = true <;> simp [h]
theorem dropG_take_lt (g : Int) (l : List Tm) (k j : Nat) (hk : fi g l < j) (hj : j ≤ l.length) : (dropG g (l.take j)).length < j := by
  have h1 : ∀ (l : List Tm) (j : Nat), l.findIdx (fun x => x.g == g) < j → j ≤ l.length → (dropG g (l.take j)).length < j := by
    intro l
    induction l with
    | nil => intro j h1 h2; simp at h2; omega
    | cons x l ih =>
      intro j h1 h2
      cases j with
      | zero => omega
      | succ j =>
        rw [List.take_succ_cons]
        by_cases hx : (x.g == g) = true
        · have h3 := dropG_len g (l.take j)
          have h4 : dropG g (x :: l.take j) = dropG g (l.take j) := by unfold dropG; rw [List.filter_cons_of_neg (by simp [hx])]
          rw [h4]
          rw [List.length_take] at h3
          omega
        · have h4 : dropG g (x :: l.take j) = x :: dropG g (l.take j) := by unfold dropG; rw [List.filter_cons_of_pos (by simp [hx])]
          rw [h4, List.length_cons]
          have h5 : l.findIdx (fun x => x.g == g) < j := by
            rw [List.findIdx_cons] at h1
            simp [hx] at h1
            exact h1
          have := ih j h5 (by simpa using h2)
          omega
  exact h1 l j hk hj
theorem dropG_before (g : Int) (l : List Tm) (j : Nat) (hj : j ≤ fi g l) (hl : j ≤ l.length) : dropG g (l.take j) = l.take j := by
  unfold dropG
  refine List.filter_eq_self.mpr fun x hx => ?_
  obtain ⟨i, hi, rfl⟩ := List.getElem_of_mem hx
  rw [List.length_take] at hi
  rw [List.getElem_take]
  have := List.not_of_lt_findIdx (p := fun x : Tm => x.g == g) (xs := l) (i := i) (by show i < fi g l; omega)
  simpa using this
end Go.Proofs.Ytkbjihnkbfjhmaa.Heap
