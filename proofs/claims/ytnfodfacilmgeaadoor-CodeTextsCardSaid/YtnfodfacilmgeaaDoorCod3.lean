/- code.Check, in plain words. No condition. -/
import Derived.Test.YtnfodfacilmgeaaDoorCod2
import Derived.Test.YtnfodfacilmgeaaDoorPspanx1
import Derived.BigFrame
namespace Go.Proofs.YtnfodfacilmgeaaDoor.Code
open Go Go.RowKit Go.Proofs Go.Proofs.YtnfodfacilmgeaaDoorW.PrintWords Go.Proofs.YtnfodfacilmgeaaDoorW.PrintLast Go.Proofs.YtnfodfacilmgeaaDoorW.PrintMore
set_option linter.unusedVariables false
set_option linter.unusedSimpArgs false
def spanF (op sems boxes np n : Int) : Int × Int × Bool :=
  if op = 1 then (-1000, 1000, true) else if op = 2 ∨ op = 10 then (0, 0, true) else if op = 3 then (0, np - 1, true) else if op = 4 ∨ op = 5 then (0, sems - 1, true)
  else if op = 6 ∨ op = 7 then (0, boxes - 1, true) else if op = 8 then (1, 1000, true) else if op = 9 then (0, n - 1, true) else (0, 0, false)
theorem span_f (op sems boxes np n : Int) (h1 : 0 ≤ sems) (h2 : sems ≤ 4) (h3 : 0 ≤ boxes) (h4 : boxes ≤ 4) (h5 : 0 ≤ np) (h6 : np ≤ 1000) (h7 : 0 ≤ n) (h8 : n ≤ 1000) :
    Pspan.code_span.f 3 op sems boxes np n = some (spanF op sems boxes np n) := by
  unfold Pspan.code_span.f spanF
  have e1 : wrap64 (np - 1) = np - 1 := by unfold wrap64; omega
  have e2 : wrap64 (sems - 1) = sems - 1 := by unfold wrap64; omega
  have e3 : wrap64 (boxes - 1) = boxes - 1 := by unfold wrap64; omega
  have e4 : wrap64 (n - 1) = n - 1 := by unfold wrap64; omega
  simp only [Pspan.code_span.j0, Pspan.code_span.j1, Pspan.code_span.j2, beq_iff_eq, e1, e2, e3, e4]
  by_cases k1 : op = 1
  · subst k1; rfl
  by_cases k2 : op = 2
  · subst k2; rfl
  by_cases k10 : op = 10
  · subst k10; rfl
  by_cases k3 : op = 3
  · subst k3; rfl
  by_cases k4 : op = 4
  · subst k4; rfl
  by_cases k5 : op = 5
  · subst k5; rfl
  by_cases k6 : op = 6
  · subst k6; rfl
  by_cases k7 : op = 7
  · subst k7; rfl
  by_cases k8 : op = 8
  · subst k8; rfl
  by_cases k9 : op = 9
  · subst k9; rfl
  simp [k1, k2, k3, k4, k5, k6, k7, k8, k9, k10]
structure Bx (W : World) (sb pb qb : Nat) (sems boxes : Int) (np n : Nat) : Prop where
  s0 : W.cell? ⟨sb, 0, none⟩ = some (.int .i64 sems)
  s1 : W.cell? ⟨sb, 1, none⟩ = some (.int .i64 boxes)
  p : ∃ A c, W.cell? ⟨pb, 0, none⟩ = some (.slice A np c)
  q : ∃ A c, W.cell? ⟨qb, 0, none⟩ = some (.slice A n c)
theorem Bx.below {W W' : World} {sb pb qb : Nat} {sems boxes : Int} {np n : Nat} (h : Bx W sb pb qb sems boxes np n) (hb : Below W.heap.size W W') : Bx W' sb pb qb sems boxes np n := by
  obtain ⟨s0, s1, ⟨A, c, p⟩, ⟨A', c', q⟩⟩ := h
  exact ⟨pw_cell_below hb s0, pw_cell_below hb s1, ⟨A, c, pw_cell_below hb p⟩, ⟨A', c', pw_cell_below hb q⟩⟩
def badB (sems boxes np n : Int) (x : Int × Int) : Bool := !(spanF x.1 sems boxes np n).2.2 || (decide (x.2 < (spanF x.1 sems boxes np n).1) || decide (x.2 > (spanF x.1 sems boxes np n).2.1))
set_option maxHeartbeats 1000000 in
theorem bad_calls (x : Int × Int) (sb pb qb : Nat) (sems boxes : Int) (np n : Nat) (w : World) (h : Bx w sb pb qb sems boxes np n) (h1 : 0 ≤ sems) (h2 : sems ≤ 4) (h3 : 0 ≤ boxes) (h4 : boxes ≤ 4) (h6 : np ≤ 1000) (h8 : n ≤ 1000) :
    Calls Tryd.prog 19 #[.agg #[.int .i64 x.1, .int .i64 x.2], .pointer (some ⟨sb, 0, none⟩), .pointer (some ⟨pb, 0, none⟩), .pointer (some ⟨qb, 0, none⟩)] w fun e w' => e = .returned (.bool (badB sems boxes np n x)) ∧ Below w.heap.size w w' := by
  have HX := Aside0.mk (h.below (below_alloc (Below.refl _ _) (.cells #[.int .i64 x.1, .int .i64 x.2] 43)))
  have HS := Aside0.mk (span_f x.1 sems boxes np n h1 h2 h3 h4 (by omega) (by omega) (by omega) (by omega))
  obtain ⟨s0, s1, ⟨A, c, p⟩, ⟨A', c', q⟩⟩ := HX.out
  clear h
  obtain ⟨lo, hi, ok, hsp⟩ : ∃ f t o, spanF x.1 sems boxes np n = (f, t, o) := ⟨_, _, _, rfl⟩
  have HV := Aside0.mk (show badB sems boxes np n x = (!ok || (decide (x.2 < lo) || decide (x.2 > hi))) by unfold badB; rw [hsp])
  have HS := Aside0.mk (HS.out.trans (congrArg some hsp))
  clear hsp h1 h2 h3 h4 h6 h8
  obtain ⟨op, a⟩ := x
  obtain ⟨b, hbb⟩ : ∃ b, w.heap.size = b := ⟨_, rfl⟩
  go_enter Tryd.func19, Tryd.ntmps19
  go_wp2_with (go_at_call 20; (with_reducible refine (Pspan.code_span.calls 3 op sems boxes np n lo hi ok _ HS.out).mono ?_); rintro e w1 ⟨rfl, hb0⟩; have hb := hb0.below; clear hb0; have c1 := pw_cell_below hb (show World.cell? _ ⟨w.heap.size, 1, none⟩ = some (.int .i64 a) by go_simp); have HB := Aside0.mk (below_then (below_alloc (Below.refl _ _) (.cells #[.int .i64 op, .int .i64 a] 43)) (by simp) hb); rw [hbb] at c1; clear hb)
  all_goals (go_ret; refine ⟨?_, by first | exact HB.out | exact hbb ▸ HB.out⟩; rw [HV.out]; first | rfl | (simp [*]; done))
def fiB (q : Int × Int → Bool) (p : List (Int × Int)) : Nat := p.findIdx q
theorem cellsIns {W : World} {A : Option Addr} {l : List (Int × Int)} (h : InsAt W A l) {i : Nat} (hi : i < l.length) : ∃ ad, A = some ad ∧ W.cell? (ad.add (i * 2)) = some (.int .i64 (l[i]).1) ∧ W.cell? ⟨(ad.add (i * 2)).block, (ad.add (i * 2)).off + 1, none⟩ = some (.int .i64 (l[i]).2) := by
  obtain ⟨ad, e, c0, c1⟩ := h (i : Int) (by omega) (by omega)
  rw [Int.toNat_natCast, List.getD_eq_getElem?_getD, List.getElem?_eq_getElem hi] at c0 c1
  exact ⟨ad, e, c0, c1⟩
set_option maxHeartbeats 1000000 in
theorem index_calls (A : Option Addr) (c : Nat) (l : List (Int × Int)) (sb pb qb : Nat) (sems boxes : Int) (np : Nat) (hlen : l.length ≤ 1000) (w : World) (hC : InsAt w A l) (hc : Bx w sb pb qb sems boxes np l.length) (h1 : 0 ≤ sems) (h2 : sems ≤ 4) (h3 : 0 ≤ boxes) (h4 : boxes ≤ 4) (h6 : np ≤ 1000)
    (R : Int) (hR : (if fiB (badB sems boxes np l.length) l < l.length then (fiB (badB sems boxes np l.length) l : Int) else -1) = R) :
    Calls Tryd.prog 18 #[.slice A l.length c, .func (.func 19) #[] #[.pointer (some ⟨sb, 0, none⟩), .pointer (some ⟨pb, 0, none⟩), .pointer (some ⟨qb, 0, none⟩)]] w fun e w' => e = .returned (.int .i64 R) ∧ Below w.heap.size w w' := by
  have HC := Aside0.mk hC
  have HR := Aside0.mk hR
  have HG := Aside0.mk hc
  have HN := Aside0.mk (And.intro h1 (And.intro h2 (And.intro h3 (And.intro h4 h6))))
  clear hC hc hR h1 h2 h3 h4 h6
  obtain ⟨g, hge⟩ : ∃ g, badB sems boxes np l.length = g := ⟨_, rfl⟩
  have HGE := Aside0.mk hge
  rw [hge] at HR
  clear hge
  go_enter Tryd.func18, Tryd.ntmps18
  go_wp2
  go_loopg [5, 8] (l.length + 1) (fun kq v5 v8 w' => ∃ i : Nat, v8 = .int .i64 (i : Int) ∧ Aside0 (i + kq = l.length + 1 ∧ i ≤ l.length ∧ i ≤ fiB g l) ∧ Aside0 (Below w.heap.size w w'))
  case atStart => exact ⟨0, rfl, ⟨by omega, Nat.zero_le _, Nat.zero_le _⟩, ⟨Below.refl _ _⟩⟩
  case round =>
    obtain ⟨i, rfl, HK, HB⟩ := hrel
    cases gk with
    | zero => exact absurd HK.out (by omega)
    | succ k1 =>
      by_cases hin : i < l.length
      · have c1 : decide ((i : Int) < (l.length : Int)) = true := decide_eq_true (by omega)
        have c1n : decide (i < l.length) = true := decide_eq_true (by omega)
        obtain ⟨ad, rfl, a0, a1⟩ := cellsIns (HC.out.below HB.out) hin
        have HG2 := Aside0.mk (HG.out.below HB.out)
        have p0 : (i : Int) ≤ 1000000 := by omega
        have p1 : (0 : Int) ≤ (i : Int) := by omega
        have p2 : (i : Int) < (l.length : Int) := by omega
        have HL := Aside0.mk hin
        by_cases hx : g l[i] = true
        · have HF := Aside0.mk (show fiB g l = i by
            have h1 : fiB g l ≤ i := by
              refine Nat.le_of_not_lt fun hlt => ?_
              have h2 := List.not_of_lt_findIdx hlt
              rw [hx] at h2; cases h2
            exact Nat.le_antisymm h1 HK.out.2.2)
          have HX := Aside0.mk hx
          generalize l[i] = x at a0 a1 HX
          clear hx hin
          go_wp2_with (go_at_call 19; (with_reducible refine (bad_calls x sb pb qb sems boxes np l.length _ HG2.out HN.out.1 HN.out.2.1 HN.out.2.2.1 HN.out.2.2.2.1 HN.out.2.2.2.2 hlen).mono ?_); rintro e w2 ⟨rfl, hb⟩; have HB2 := Aside0.mk (HB.out.trans (hb.mono HB.out.size)); clear hb; rw [HGE.out, HX.out])
          go_ret
          exact ⟨by rw [← HR.out, HF.out, if_pos HL.out]; rfl, HB2.out⟩
        · replace hx : g l[i] = false := by simpa using hx
          have HF := Aside0.mk (show i + 1 ≤ fiB g l by
            have h1 := HK.out.2.2
            rcases Nat.lt_or_eq_of_le h1 with h2 | h2
            · exact h2
            · exfalso
              have h3 : l.findIdx g < l.length := by show fiB g l < l.length; omega
              have h4 := List.findIdx_getElem (p := g) (w := h3)
              have h5 : l.findIdx g = i := by show fiB g l = i; omega
              simp only [h5] at h4
              rw [hx] at h4
              cases h4)
          have HX := Aside0.mk hx
          clear hx
          generalize l[i] = x at a0 a1 HX
          clear hin
          go_wp2_with (go_at_call 19; (with_reducible refine (bad_calls x sb pb qb sems boxes np l.length _ HG2.out HN.out.1 HN.out.2.1 HN.out.2.2.1 HN.out.2.2.2.1 HN.out.2.2.2.2 hlen).mono ?_); rintro e w2 ⟨rfl, hb⟩; have HB2 := Aside0.mk (HB.out.trans (hb.mono HB.out.size)); clear hb; rw [HGE.out, HX.out])
          go_roundg k1
          case measure => have := HK.out; omega
          case rel => exact ⟨i + 1, by first | rfl | go_num, ⟨by have := HK.out; omega, HL.out, HF.out⟩, HB2⟩
      · have c1 : decide ((i : Int) < (l.length : Int)) = false := decide_eq_false (by omega)
        have c1n : decide (i < l.length) = false := decide_eq_false (by omega)
        have HF := Aside0.mk (show ¬ fiB g l < l.length by have := HK.out; omega)
        clear hin
        go_wp2
        go_ret
        exact ⟨by rw [← HR.out, if_neg HF.out]; rfl, HB.out⟩
end Go.Proofs.YtnfodfacilmgeaaDoor.Code
