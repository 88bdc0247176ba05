/- Heap: timers, what they are in memory; one ahead of another one. No condition. -/
import Derived.Test.YtkbjihnkbfjhmaaOwn2
import Derived.Test.YtkbjihnkbfjhmaaPComparex1
import Derived.Deep.RegionHeld3
import Derived.Outline
namespace Go.Proofs.Ytkbjihnkbfjhmaa.Heap
open Go Go.RowKit Go.Proofs.Ytkbjihnkbfjhmaa.Own Go.Proofs.YtkbjihnkbfjhmaaW.PrintWords Go.Proofs.YtkbjihnkbfjhmaaW.PrintLast Go.Proofs.YtkbjihnkbfjhmaaW.PrintMore
set_option linter.unusedVariables false
set_option linter.unusedSimpArgs false
structure Tm where
  t : Int
  s : Int
  g : Int
deriving DecidableEq
def Tm.cells (x : Tm) : List Value := [.int .i64 x.t, .int .i64 x.s, .int .i64 x.g]
def kTm : Kd Tm := Kd.iso (Kd.pair (Kd.int .i64) (Kd.pair (Kd.int .i64) (Kd.int .i64))) (fun x => (x.t, x.s, x.g))
theorem kTm_open {w : World} {x : Tm} {cs : List Value} (h : kTm.K w x cs) : cs = x.cells := by
  obtain ⟨_, _, rfl, rfl, _, _, rfl, rfl, rfl⟩ := h
  rfl
theorem kTm_mk (w : World) (x : Tm) : kTm.K w x x.cells := ⟨[_], [_, _], rfl, rfl, [_], [_], rfl, rfl, rfl⟩
def sgn (a b : Int) : Int := if a < b then -1 else if b < a then 1 else 0
def cmpT (x y : Tm) : Int := if sgn x.t y.t ≠ 0 then sgn x.t y.t else if sgn x.s y.s ≠ 0 then sgn x.s y.s else sgn x.g y.g
theorem cmp64 (a b : Int) : PCompare.cmp_Compare_int64.f a b = some (sgn a b) := by
  have h1 : (a != a) = false := by simp
  have h2 : (b != b) = false := by simp
  unfold PCompare.cmp_Compare_int64.f PCompare.cmp_isNaN_int64.f sgn
  simp only [Option.bind_some, h1, h2, Bool.false_eq_true, if_false]
  by_cases h3 : a < b
  · rw [if_pos h3, if_pos h3]
  · rw [if_neg h3, if_neg h3]
    by_cases h4 : b < a
    · rw [if_pos h4, if_pos h4]
    · rw [if_neg h4, if_neg h4]
theorem cmpi (a b : Int) : PCompare.cmp_Compare_int.f a b = some (sgn a b) := by
  have h1 : (a != a) = false := by simp
  have h2 : (b != b) = false := by simp
  unfold PCompare.cmp_Compare_int.f PCompare.cmp_isNaN_int.f sgn
  simp only [Option.bind_some, h1, h2, Bool.false_eq_true, if_false]
  by_cases h3 : a < b
  · rw [if_pos h3, if_pos h3]
  · rw [if_neg h3, if_neg h3]
    by_cases h4 : b < a
    · rw [if_pos h4, if_pos h4]
    · rw [if_neg h4, if_neg h4]
theorem cmp_f (x y : Tm) : PCompare.heap_Compare.f 5 x.t x.s x.g y.t y.s y.g = some (cmpT x y) := by
  unfold PCompare.heap_Compare.f cmpT
  rw [cmp64, cmp64, cmpi]
  simp only [Option.bind_some]
  generalize sgn x.t y.t = a
  generalize sgn x.s y.s = b
  generalize sgn x.g y.g = c
  have e1 : rd [a, b, c] 0 = a := rfl
  have e2 : rd [a, b, c] 1 = b := rfl
  have e3 : rd [a, b, c] 2 = c := rfl
  have w1 : wrap64 1 = 1 := by decide +kernel
  have w2 : wrap64 2 = 2 := by decide +kernel
  have w3 : wrap64 3 = 3 := by decide +kernel
  unfold PCompare.cmp_Or_int.f
  by_cases ha : a = 0
  · by_cases hb : b = 0
    · by_cases hc : c = 0
      · subst ha hb hc; simp [PCompare.cmp_Or_int.l0, e1, e2, e3, w1, w2, w3]
      · subst ha hb; simp [PCompare.cmp_Or_int.l0, e1, e2, e3, w1, w2, w3, hc]
    · subst ha; simp [PCompare.cmp_Or_int.l0, e1, e2, e3, w1, w2, w3, hb]
  · simp [PCompare.cmp_Or_int.l0, e1, e2, e3, w1, w2, w3, ha]
theorem cmp_calls (x y : Tm) (w : World) : Calls Try.prog 10 #[.agg #[.int .i64 x.t, .int .i64 x.s, .int .i64 x.g], .agg #[.int .i64 y.t, .int .i64 y.s, .int .i64 y.g]] w fun e w' => e = .returned (.int .i64 (cmpT x y)) ∧ Below w.heap.size w w' :=
  PCompare.heap_Compare.calls 5 _ _ _ _ _ _ _ w (cmp_f x y)
section
variable {w0 w w' : World} {F0 P0 : Nat → Prop} {ts : List Thing} {p eB : Nat} {cells : Array Value} {v : Value} {l : List Tm}
theorem cell_below {a : Addr} {v : Value} (h : w.cell? a = some v) (hb : Below w.heap.size w w') : w'.cell? a = some v := (hb.cell (World.block_lt_of_cell? w _ h)).trans h
theorem keep7 {a0 a1 a2 a3 a4 a5 a6 : Addr} {v0 v1 v2 v3 v4 v5 v6 : Value} {W : World} (h : w.cell? a0 = some v0 ∧ w.cell? a1 = some v1 ∧ w.cell? a2 = some v2 ∧ w.cell? a3 = some v3 ∧ w.cell? a4 = some v4 ∧ w.cell? a5 = some v5 ∧ w.cell? a6 = some v6 ∧ Aside0 (Below W.heap.size W w)) (hb : Below w.heap.size w w') :
    w'.cell? a0 = some v0 ∧ w'.cell? a1 = some v1 ∧ w'.cell? a2 = some v2 ∧ w'.cell? a3 = some v3 ∧ w'.cell? a4 = some v4 ∧ w'.cell? a5 = some v5 ∧ w'.cell? a6 = some v6 ∧ Aside0 (Below W.heap.size W w') := by
  obtain ⟨h0, h1, h2, h3, h4, h5, h6, h7⟩ := h
  exact ⟨cell_below h0 hb, cell_below h1 hb, cell_below h2 hb, cell_below h3 hb, cell_below h4 hb, cell_below h5 hb, cell_below h6 hb, ⟨h7.out.trans (hb.mono h7.out.size)⟩⟩
/-- The cells of an element. -/
theorem elem (h : St w0 F0 P0 (rowT kTm 23 v l :: ts) w) {i : Nat} (hi : i < l.length) : ∃ g c, v = .slice (some ⟨g, 0, none⟩) l.length c ∧ w.cell? ⟨g, i * 3, none⟩ = some (.int .i64 l[i].t) ∧ w.cell? ⟨g, i * 3 + 1, none⟩ = some (.int .i64 l[i].s) ∧ w.cell? ⟨g, i * 3 + 2, none⟩ = some (.int .i64 l[i].g) := by
  obtain ⟨ok, hN⟩ := h.row
  obtain ⟨g, c, rfl, -, -, -⟩ := Kd.N_form hN (by omega)
  obtain ⟨r1, r2, r3⟩ := h.reads
  obtain ⟨ad, cs, e1, hl, hK, hc⟩ := Kd.C_get r3 ⟨0, 0, 0⟩ (i : Int) (by omega) (by omega)
  injection e1 with e1
  subst e1
  have hx : l.getD (i : Int).toNat ⟨0, 0, 0⟩ = l[i] := by simp [List.getD_eq_getElem?_getD, List.getElem?_eq_getElem hi]
  rw [hx] at hK
  obtain rfl := kTm_open hK
  have h0 := hc 0 _ rfl
  have h1 := hc 1 _ rfl
  have h2 := hc 2 _ rfl
  have e : ∀ j : Nat, (⟨g, 0, none⟩ : Addr).add ((i : Int).toNat * kTm.sz + j) = ⟨g, i * 3 + j, none⟩ := fun j => by
    have e3 : kTm.sz = 3 := rfl
    simp [Addr.add, e3]
    omega
  rw [e] at h0 h1 h2
  exact ⟨g, c, rfl, h0, h1, h2⟩
set_option maxHeartbeats 1000000 in
theorem ahead_st (h : St w0 F0 P0 (boxT p eB cells :: rowT kTm 23 v l :: ts) w) (hv : cells[0]? = some v) {i k : Nat} (hi : i < l.length) (hk : k < l.length) (hlen : l.length ≤ 1000000) :
    Calls Try.prog 33 #[.pointer (some ⟨p, 0, none⟩), .int .i64 (i : Int), .int .i64 (k : Int)] w fun e w' => e = .returned (.bool (decide (cmpT l[i] l[k] < 0))) ∧ Below w.heap.size w w' := by
  obtain ⟨g, c, rfl, a0, a1, a2⟩ := elem h.drop hi
  obtain ⟨g', c', e1, b0, b1, b2⟩ := elem h.drop hk
  injection e1 with e1 e2 e3
  injection e1 with e1
  injection e1 with e1
  subst e1
  obtain ⟨ch, -⟩ := h.box_cell 0 _ hv
  have i0 : (0 : Int) ≤ (i : Int) := by omega
  have i1 : (i : Int) < (l.length : Int) := by omega
  have k0 : (0 : Int) ≤ (k : Int) := by omega
  have k1 : (k : Int) < (l.length : Int) := by omega
  have hcmp := Aside0.mk (fun w => cmp_calls l[i] l[k] w)
  generalize l[i] = x at *
  generalize l[k] = y at *
  go_enter Try.func33, Try.ntmps33
  go_wp2
  go_region_held3 (fun w' => w'.cell? ⟨p, 0, none⟩ = some (.slice (some ⟨g, 0, none⟩) l.length c) ∧ w'.cell? ⟨g, i * 3, none⟩ = some (.int .i64 x.t) ∧ w'.cell? ⟨g, i * 3 + 1, none⟩ = some (.int .i64 x.s) ∧ w'.cell? ⟨g, i * 3 + 2, none⟩ = some (.int .i64 x.g) ∧ w'.cell? ⟨g, k * 3, none⟩ = some (.int .i64 y.t) ∧ w'.cell? ⟨g, k * 3 + 1, none⟩ = some (.int .i64 y.s) ∧ w'.cell? ⟨g, k * 3 + 2, none⟩ = some (.int .i64 y.g) ∧ Aside0 (Below w.heap.size w w'))
    (first | exact hS' | exact keep7 (by assumption) (below_alloc (Below.refl _ _) _) | exact ⟨ch, a0, a1, a2, b0, b1, b2, ⟨below_drew1 (Below.refl _ _)⟩⟩ | assumption)
    ((go_at_call 10; (with_reducible refine (hcmp.out _).mono ?_); rintro e w' ⟨rfl, hb⟩; have hS' := keep7 (by assumption) hb; clear hb))
  go_wp2
  go_ret
  exact ⟨rfl, hS'.2.2.2.2.2.2.2.out⟩
theorem len_st (h : St w0 F0 P0 (boxT p eB cells :: ts) w) {A : Option Addr} {n c : Nat} (hv : cells[0]? = some (.slice A n c)) :
    Calls Try.prog 13 #[.pointer (some ⟨p, 0, none⟩)] w fun e w' => e = .returned (.int .i64 n) ∧ w' = w := by
  obtain ⟨ch, -⟩ := h.box_cell 0 _ hv
  go_enter Try.func13, Try.ntmps13
  go_wp2
  go_ret
  exact ⟨rfl, rfl⟩
theorem len_none (w : World) :
    Calls Try.prog 13 #[.pointer none] w fun e w' => e = .returned (.int .i64 0) ∧ w' = w := by
  go_enter Try.func13, Try.ntmps13
  go_wp2
  go_ret
  exact ⟨rfl, rfl⟩
end
end Go.Proofs.Ytkbjihnkbfjhmaa.Heap
