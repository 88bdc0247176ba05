/- code.Check, in plain words: the whole. No condition. -/
import Derived.Test.YtnfodfacilmgeaaDoorCod3
namespace Go.Proofs.YtnfodfacilmgeaaDoor.Code
open Go Go.RowKit Go.Proofs Go.Proofs.YtnfodfacilmgeaaDoorW.PrintWords Go.Proofs.YtnfodfacilmgeaaDoorW.PrintLast Go.Proofs.YtnfodfacilmgeaaDoorW.PrintMore
set_option linter.unusedVariables false
set_option linter.unusedSimpArgs false
abbrev Prog := List (Int × Int)
def ProgsAt (W : World) (A : Option Addr) (ps : List Prog) : Prop := ∀ i : Nat, i < ps.length → ∃ ad A0 c0, A = some ad ∧ W.cell? (ad.add i) = some (.slice A0 (ps.getD i []).length c0) ∧ (ps.getD i []).length ≤ c0 ∧ InsAt W A0 (ps.getD i [])
theorem ProgsAt.below {W W' : World} {A : Option Addr} {ps : List Prog} (h : ProgsAt W A ps) (hb : Below W.heap.size W W') : ProgsAt W' A ps := by
  intro i hi
  obtain ⟨ad, A0, c0, e, h1, h2, h3⟩ := h i hi
  exact ⟨ad, A0, c0, e, (hb.cell (World.block_lt_of_cell? W _ h1)).trans h1, h2, h3.below hb⟩
def oneF (sems boxes : Int) (np i : Nat) (p : Prog) : Option (Int × Int × Int) :=
  if p.length < 1 ∨ 32 < p.length then some (i, 0, 3)
  else if fiB (badB sems boxes np p.length) p < p.length then some (i, fiB (badB sems boxes np p.length) p, 1)
  else if (p.getD (p.length - 1) (0, 0)).1 ≠ 10 then some (i, ((p.length - 1 : Nat) : Int), 2) else none
def checkG (sems boxes : Int) (ps : List Prog) : Nat → Int × Int × Int
  | 0 => (0, 0, 0)
  | k + 1 => match oneF sems boxes ps.length (ps.length - (k + 1)) (ps.getD (ps.length - (k + 1)) []) with
    | some r => r
    | none => checkG sems boxes ps k
def checkF (sems boxes : Int) (ps : List Prog) : Int × Int × Int :=
  if sems < 0 ∨ 4 < sems ∨ boxes < 0 ∨ 4 < boxes then (0, 0, 1) else if ps.length < 1 ∨ 8 < ps.length then (0, 0, 3) else checkG sems boxes ps ps.length
set_option maxHeartbeats 4000000 in
theorem check_calls (A : Option Addr) (c : Nat) (ps : List Prog) (sems boxes : Int) (w : World) (hr : ProgsAt w A ps) (hl : ps.length ≤ 1000) (hll : ∀ p ∈ ps, p.length ≤ 1000) (r1 r2 r3 : Int) (hR : checkF sems boxes ps = (r1, r2, r3)) :
    Calls Tryd.prog 9 #[.slice A ps.length c, .agg #[.int .i64 sems, .int .i64 boxes]] w fun e w' => e = .returned (.tuple #[.int .i64 r1, .int .i64 r2, .int .i64 r3]) ∧ Below w.heap.size w w' := by
  have hb0 : Below w.heap.size w ((w.alloc (.cells #[.slice A ps.length c] 22)).alloc (.cells #[.int .i64 sems, .int .i64 boxes] 29)) := below_alloc (below_alloc (Below.refl _ _) _) _
  have HB0 := Aside0.mk hb0
  have HR := Aside0.mk (hr.below hb0)
  have HLL := Aside0.mk hll
  have HE := Aside0.mk hR
  clear hr hll hR hb0
  by_cases hbad : sems < 0 ∨ 4 < sems ∨ boxes < 0 ∨ 4 < boxes
  · have HE2 := Aside0.mk (show ((0 : Int), (0 : Int), (1 : Int)) = (r1, r2, r3) by rw [← HE.out]; unfold checkF; rw [if_pos hbad])
    clear HE
    by_cases g1 : sems < 0
    · have d1 := decide_eq_true g1
      clear hbad
      go_enter Tryd.func9, Tryd.ntmps9
      go_wp2
      go_ret3
      have := HE2.out; cases this
      exact ⟨rfl, HB0.out⟩
    have d1 := decide_eq_false g1
    by_cases g2 : 4 < sems
    · have d2 := decide_eq_true g2
      clear hbad
      go_enter Tryd.func9, Tryd.ntmps9
      go_wp2
      go_ret3
      have := HE2.out; cases this
      exact ⟨rfl, HB0.out⟩
    have d2 := decide_eq_false g2
    by_cases g3 : boxes < 0
    · have d3 := decide_eq_true g3
      clear hbad
      go_enter Tryd.func9, Tryd.ntmps9
      go_wp2
      go_ret3
      have := HE2.out; cases this
      exact ⟨rfl, HB0.out⟩
    have d3 := decide_eq_false g3
    by_cases g4 : 4 < boxes
    · have d4 := decide_eq_true g4
      clear hbad
      go_enter Tryd.func9, Tryd.ntmps9
      go_wp2
      go_ret3
      have := HE2.out; cases this
      exact ⟨rfl, HB0.out⟩
    exact absurd hbad (by omega)
  have d1 : decide (sems < 0) = false := decide_eq_false (by omega)
  have d2 : decide (4 < sems) = false := decide_eq_false (by omega)
  have d3 : decide (boxes < 0) = false := decide_eq_false (by omega)
  have d4 : decide (4 < boxes) = false := decide_eq_false (by omega)
  have HS := Aside0.mk (show 0 ≤ sems ∧ sems ≤ 4 ∧ 0 ≤ boxes ∧ boxes ≤ 4 by omega)
  have HE2 := Aside0.mk (show (if ps.length < 1 ∨ 8 < ps.length then ((0 : Int), (0 : Int), (3 : Int)) else checkG sems boxes ps ps.length) = (r1, r2, r3) by rw [← HE.out]; unfold checkF; rw [if_neg hbad])
  clear HE hbad
  by_cases g5 : (ps.length : Int) < 1
  · have d5 := decide_eq_true g5
    have HE3 := Aside0.mk (show ((0 : Int), (0 : Int), (3 : Int)) = (r1, r2, r3) by rw [← HE2.out, if_pos (Or.inl (by omega))])
    clear HE2 g5
    go_enter Tryd.func9, Tryd.ntmps9
    go_wp2
    go_ret3
    have := HE3.out; cases this
    exact ⟨rfl, HB0.out⟩
  have d5 := decide_eq_false g5
  by_cases g6 : 8 < (ps.length : Int)
  · have d6 := decide_eq_true g6
    have HE3 := Aside0.mk (show ((0 : Int), (0 : Int), (3 : Int)) = (r1, r2, r3) by rw [← HE2.out, if_pos (Or.inr (by omega))])
    clear HE2 g5 g6
    go_enter Tryd.func9, Tryd.ntmps9
    go_wp2
    go_ret3
    have := HE3.out; cases this
    exact ⟨rfl, HB0.out⟩
  have d6 := decide_eq_false g6
  have HE3 := Aside0.mk (show checkG sems boxes ps ps.length = (r1, r2, r3) by rw [← HE2.out, if_neg (by omega)])
  have HP := Aside0.mk (show ps.length ≤ 8 by omega)
  clear HE2 g5 g6
  have hp := (show ((w.alloc (.cells #[.slice A ps.length c] 22)).alloc (.cells #[.int .i64 sems, .int .i64 boxes] 29)).cell? ⟨w.heap.size, 0, none⟩ = some (.slice A ps.length c) by go_simp)
  have hs0 := (show ((w.alloc (.cells #[.slice A ps.length c] 22)).alloc (.cells #[.int .i64 sems, .int .i64 boxes] 29)).cell? ⟨w.heap.size + 1, 0, none⟩ = some (.int .i64 sems) by go_simp)
  have hs1 := (show ((w.alloc (.cells #[.slice A ps.length c] 22)).alloc (.cells #[.int .i64 sems, .int .i64 boxes] 29)).cell? ⟨w.heap.size + 1, 1, none⟩ = some (.int .i64 boxes) by go_simp)
  have HBX := Aside0.mk (And.intro hp (And.intro hs0 hs1))
  clear hp hs0 hs1
  go_enter Tryd.func9, Tryd.ntmps9
  go_wp2
  generalize ((w.alloc (.cells #[.slice A ps.length c] 22)).alloc (.cells #[.int .i64 sems, .int .i64 boxes] 29)) = W0 at HB0 HR HBX ⊢
  go_loopg [7, 8, 9, 10, 41] (ps.length + 1) (fun kq v7 v8 v9 v10 v41 w' => ∃ (k : Nat), v41 = .int .i64 (k : Int) ∧ Aside0 (k + kq = ps.length + 1 ∧ k ≤ ps.length) ∧ Aside0 (checkG sems boxes ps (ps.length - k) = (r1, r2, r3)) ∧ Aside0 (Below W0.heap.size W0 w'))
  case atStart => exact ⟨0, rfl, ⟨by omega⟩, HE3, ⟨Below.refl _ _⟩⟩
  case round =>
    obtain ⟨k, rfl, HK, HF, HB⟩ := hrel
    by_cases hin : k < ps.length
    · have c1 : decide ((k : Int) < (ps.length : Int)) = true := decide_eq_true (by omega)
      have c1n : decide (k < ps.length) = true := decide_eq_true (by omega)
      obtain ⟨ad, A0, c0, rfl, a0, a1, a2⟩ := (HR.out.below HB.out) k hin
      have HIN := Aside0.mk a2
      have HPL := Aside0.mk (show (ps.getD k []).length ≤ 1000 from HLL.out _ (by rw [List.getD_eq_getElem?_getD, List.getElem?_eq_getElem hin]; exact List.getElem_mem hin))
      have HF1 := Aside0.mk (show (match oneF sems boxes ps.length k (ps.getD k []) with | some r => r | none => checkG sems boxes ps (ps.length - (k + 1))) = (r1, r2, r3) by
        have h1 := HF.out
        rw [show ps.length - k = (ps.length - (k + 1)) + 1 by omega] at h1
        rw [checkG, show ps.length - (ps.length - (k + 1) + 1) = k by omega] at h1
        exact h1)
      clear HF a2
      have p1 : (0 : Int) ≤ (k : Int) := by omega
      have p2 : (k : Int) < (ps.length : Int) := by omega
      have HKI := Aside0.mk hin
      generalize ps.getD k [] = p at a0 a1 HIN HPL HF1
      clear hin
      have hlt := World.block_lt_of_cell? wr _ a0
      by_cases g1 : (p.length : Int) < 1
      · have e1 := decide_eq_true g1
        have HO := Aside0.mk (show ((k : Int), (0 : Int), (3 : Int)) = (r1, r2, r3) by rw [← HF1.out]; unfold oneF; rw [if_pos (Or.inl (by omega))])
        clear g1 HF1
        go_wp2
        go_ret3
        have := HO.out; cases this
        exact ⟨rfl, below_step HB0.out (below_step HB.out (below_alloc (Below.refl _ _) _))⟩
      have e1 := decide_eq_false g1
      by_cases g2 : 32 < (p.length : Int)
      · have e2 := decide_eq_true g2
        have HO := Aside0.mk (show ((k : Int), (0 : Int), (3 : Int)) = (r1, r2, r3) by rw [← HF1.out]; unfold oneF; rw [if_pos (Or.inr (by omega))])
        clear g1 g2 HF1
        go_wp2
        go_ret3
        have := HO.out; cases this
        exact ⟨rfl, below_step HB0.out (below_step HB.out (below_alloc (Below.refl _ _) _))⟩
      have e2 := decide_eq_false g2
      have HF2 := Aside0.mk (show (match (if fiB (badB sems boxes ps.length p.length) p < p.length then some ((k : Int), (fiB (badB sems boxes ps.length p.length) p : Int), (1 : Int)) else if (p.getD (p.length - 1) (0, 0)).1 ≠ 10 then some ((k : Int), ((p.length - 1 : Nat) : Int), (2 : Int)) else none) with | some r => r | none => checkG sems boxes ps (ps.length - (k + 1))) = (r1, r2, r3) by
        rw [← HF1.out]; unfold oneF; rw [if_neg (show ¬ (p.length < 1 ∨ 32 < p.length) by omega)])
      have HP0 := Aside0.mk (show 0 < p.length by omega)
      clear HF1 g1 g2
      have hb1 : Below wr.heap.size wr (wr.alloc (.cells #[.slice A0 p.length c0] 24)) := below_alloc (Below.refl _ _) _
      have HI1 := Aside0.mk (HIN.out.below hb1)
      have hc8 : (wr.alloc (.cells #[.slice A0 p.length c0] 24)).cell? ⟨wr.heap.size, 0, none⟩ = some (.slice A0 p.length c0) := by go_simp
      have HC8 := Aside0.mk hc8
      have HX1 := Aside0.mk (show Bx (wr.alloc (.cells #[.slice A0 p.length c0] 24)) (w.heap.size + 1) w.heap.size wr.heap.size sems boxes ps.length p.length from
        have hbb := below_step HB.out hb1
        ⟨pw_cell_below hbb HBX.out.2.1, pw_cell_below hbb HBX.out.2.2, ⟨_, _, pw_cell_below hbb HBX.out.1⟩, ⟨_, _, hc8⟩⟩)
      clear hc8 hb1
      by_cases hfi : fiB (badB sems boxes ps.length p.length) p < p.length
      · have HO := Aside0.mk (show ((k : Int), (fiB (badB sems boxes ps.length p.length) p : Int), (1 : Int)) = (r1, r2, r3) by rw [← HF2.out, if_pos hfi])
        obtain ⟨f, hf⟩ : ∃ f, fiB (badB sems boxes ps.length p.length) p = f := ⟨_, rfl⟩
        have HV := Aside0.mk (show (if fiB (badB sems boxes ps.length p.length) p < p.length then (fiB (badB sems boxes ps.length p.length) p : Int) else -1) = (f : Int) by rw [if_pos hfi, hf])
        rw [hf] at HO
        clear hfi HF2 hf
        have f1 : decide (0 ≤ (f : Int)) = true := decide_eq_true (by omega)
        have f2 : (0 ≤ (f : Int)) = True := eq_true (by omega)
        go_wp2_with (go_at_call 18; (with_reducible refine (index_calls A0 c0 p (w.heap.size + 1) w.heap.size wr.heap.size sems boxes ps.length HPL.out _ HI1.out HX1.out HS.out.1 HS.out.2.1 HS.out.2.2.1 HS.out.2.2.2 (Nat.le_trans HP.out (by decide)) (f : Int) HV.out).mono ?_); rintro e w2 ⟨rfl, hb⟩; have HB2 := Aside0.mk (below_step (below_step HB.out (below_alloc (Below.refl _ _) (.cells #[.slice A0 p.length c0] 24))) hb); have c8 := pw_cell_below hb HC8.out;  clear hb)
        go_ret3
        have := HO.out; cases this
        exact ⟨rfl, below_step HB0.out HB2.out⟩
      · have HF3 := Aside0.mk (show (match (if (p.getD (p.length - 1) (0, 0)).1 ≠ 10 then some ((k : Int), ((p.length - 1 : Nat) : Int), (2 : Int)) else none) with | some r => r | none => checkG sems boxes ps (ps.length - (k + 1))) = (r1, r2, r3) by rw [← HF2.out, if_neg hfi])
        have HV := Aside0.mk (show (if fiB (badB sems boxes ps.length p.length) p < p.length then (fiB (badB sems boxes ps.length p.length) p : Int) else -1) = -1 by rw [if_neg hfi])
        clear hfi HF2
        have HLI := Aside0.mk HIN.out
        have q0 : wrap64 ((p.length : Int) - 1) = ((p.length - 1 : Nat) : Int) := by have := HP0.out; have := HPL.out; unfold wrap64; omega
        have q1 : (((p.length - 1 : Nat) : Int) < (p.length : Int)) := by have := HP0.out; omega
        have q2 : (0 ≤ ((p.length - 1 : Nat) : Int)) := by omega
        have q3 : p.length - 1 < p.length := by have := HP0.out; omega
        have HQ := Aside0.mk q3
        have HGD := Aside0.mk (show p.getD (p.length - 1) (0, 0) = p[p.length - 1] by rw [List.getD_eq_getElem?_getD, List.getElem?_eq_getElem q3]; rfl)
        by_cases hx : (p[p.length - 1]).1 = 10
        · have HO := Aside0.mk (show checkG sems boxes ps (ps.length - (k + 1)) = (r1, r2, r3) by rw [← HF3.out, HGD.out, if_neg (by simp [hx])])
          have hx2 := beq_iff_eq.mpr hx
          have HX := Aside0.mk hx
          clear hx HF3
          go_wp2_with (go_at_call 18; (with_reducible refine (index_calls A0 c0 p (w.heap.size + 1) w.heap.size wr.heap.size sems boxes ps.length HPL.out _ HI1.out HX1.out HS.out.1 HS.out.2.1 HS.out.2.2.1 HS.out.2.2.2 (Nat.le_trans HP.out (by decide)) (-1) HV.out).mono ?_); rintro e w2 ⟨rfl, hb⟩; have HB2 := Aside0.mk (below_step (below_step HB.out (below_alloc (Below.refl _ _) (.cells #[.slice A0 p.length c0] 24))) hb); have c8 := pw_cell_below hb HC8.out; obtain ⟨ad2, rfl, b0, b1⟩ := cellsIns (HI1.out.below hb) HQ.out; clear hb)
          go_roundg (ps.length - k)
          case measure => have := HK.out; omega
          case rel => exact ⟨k + 1, by first | rfl | go_num, ⟨by have := HK.out; have := HKI.out; omega⟩, HO, HB2⟩
        · have HO := Aside0.mk (show ((k : Int), ((p.length - 1 : Nat) : Int), (2 : Int)) = (r1, r2, r3) by rw [← HF3.out, HGD.out, if_pos hx])
          have hx2 := beq_eq_false_iff_ne.mpr hx
          have HX := Aside0.mk hx
          clear hx HF3
          go_wp2_with (go_at_call 18; (with_reducible refine (index_calls A0 c0 p (w.heap.size + 1) w.heap.size wr.heap.size sems boxes ps.length HPL.out _ HI1.out HX1.out HS.out.1 HS.out.2.1 HS.out.2.2.1 HS.out.2.2.2 (Nat.le_trans HP.out (by decide)) (-1) HV.out).mono ?_); rintro e w2 ⟨rfl, hb⟩; have HB2 := Aside0.mk (below_step (below_step HB.out (below_alloc (Below.refl _ _) (.cells #[.slice A0 p.length c0] 24))) hb); have c8 := pw_cell_below hb HC8.out; obtain ⟨ad2, rfl, b0, b1⟩ := cellsIns (HI1.out.below hb) HQ.out; clear hb)
          go_ret3
          have := HO.out; cases this
          exact ⟨by rw [q0]; rfl, below_step HB0.out HB2.out⟩
    · have c1 : decide ((k : Int) < (ps.length : Int)) = false := decide_eq_false (by omega)
      have c1n : decide (k < ps.length) = false := decide_eq_false (by omega)
      have HO := Aside0.mk (show ((0 : Int), (0 : Int), (0 : Int)) = (r1, r2, r3) by
        have h1 := HF.out
        have h2 := HK.out
        rw [show ps.length - k = 0 by omega] at h1
        exact h1)
      clear hin
      go_wp2
      go_ret3
      have := HO.out; cases this
      exact ⟨rfl, below_step HB0.out HB.out⟩
end Go.Proofs.YtnfodfacilmgeaaDoor.Code
