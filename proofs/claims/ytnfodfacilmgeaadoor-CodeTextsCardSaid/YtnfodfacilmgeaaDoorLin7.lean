/- The document's Line, walked by hand. No condition. -/
import Derived.Test.YtnfodfacilmgeaaDoorCod1
import Derived.Test.YtnfodfacilmgeaaDoorPCodeTextsx5
namespace Go.Proofs.YtnfodfacilmgeaaDoor.PCodeTexts
open Go Go.RowKit Go.Proofs Go.Proofs.YtnfodfacilmgeaaDoor.Code Go.Proofs.YtnfodfacilmgeaaDoorW.PrintWords Go.Proofs.YtnfodfacilmgeaaDoorW.PrintLast Go.Proofs.YtnfodfacilmgeaaDoorW.PrintMore
set_option linter.unusedVariables false
set_option linter.unusedSimpArgs false
def qm (s : ByteArray) : ByteArray := if s.toList = [] then ⟨#[63]⟩ else s
def catafalqueref07_Line.f (k : Nat) (a0_0 : Int) (a0_1 : Int) : Option ByteArray :=
  (catafalqueref07_Name.f a0_0).bind fun s => if bare a0_0 a0_1 then some (qm s) else (catafalqueref07_Figures.f k a0_1).bind fun t => if (qm s).size + 1 + t.size ≤ 9223372036854775807 then some ((qm s ++ (⟨#[32]⟩ : ByteArray)) ++ t) else none
theorem catafalqueref07_Line.mono : ∀ a0 a1 k, LeO (catafalqueref07_Line.f k a0 a1) (catafalqueref07_Line.f (k + 1) a0 a1) := by
  intro a0 a1 k
  unfold catafalqueref07_Line.f
  repeat' first
      | (with_reducible exact catafalqueref07_Figures.mono _ _)
      | (with_reducible exact LeO.refl _)
      | (with_reducible exact LeO.none _)
      | (with_reducible refine LeO.ite ?_ ?_)
      | (with_reducible refine LeO.bind ?_ (fun _ => ?_))
      | exact catafalqueref07_Figures.mono _ _
      | exact LeO.none _
      | refine LeO.ite ?_ ?_
      | refine LeO.bind ?_ (fun _ => ?_)
set_option maxHeartbeats 8000000 in
theorem catafalqueref07_Line.calls (k : Nat) (a0_0 : Int) (a0_1 : Int) (r : ByteArray) (w : World) (h : catafalqueref07_Line.f k a0_0 a0_1 = some r) :
    Calls Tryd.prog 29 #[.agg #[.int .i64 a0_0, .int .i64 a0_1]] w fun e w' => e = .returned (.string r) ∧ Below w.heap.size w w' := by
  obtain ⟨s, hs, h⟩ := Option.bind_eq_some_iff.mp h
  have HN := Aside0.mk (catafalqueref07_Name.calls a0_0 s (w.alloc (.cells #[.int .i64 a0_0, .int .i64 a0_1] 43)) hs)
  clear hs
  by_cases hb : bare a0_0 a0_1
  · rw [if_pos hb] at h
    obtain rfl := Option.some.inj h
    clear h
    obtain ⟨rfl, hb2⟩ := hb
    by_cases he : s.toList = []
    · have e1 : s.toList.isEmpty = true := by rw [he]; rfl
      have HQ := Aside0.mk (show qm s = ⟨#[63]⟩ from if_pos he)
      clear he
      rcases hb2 with rfl | rfl
      · go_enter Tryd.func29, Tryd.ntmps29
        go_wp2_with (first
          | (go_at_call 17; (with_reducible refine HN.out.mono ?_); rintro e w1 ⟨rfl, hb⟩; have c0 := pw_cell_below hb (show World.cell? _ ⟨w.heap.size, 0, none⟩ = some (.int .i64 2) by go_simp); have c1 := pw_cell_below hb (show World.cell? _ ⟨w.heap.size, 1, none⟩ = some (.int .i64 0) by go_simp); obtain ⟨b, hbb⟩ : ∃ b, w.heap.size = b := ⟨_, rfl⟩; have HB := Aside0.mk (below_then (below_alloc (Below.refl _ _) (.cells #[.int .i64 2, .int .i64 0] 43)) (by simp) hb); rw [hbb] at c0 c1; clear hb HN))
        go_ret
        exact ⟨by rw [HQ.out]; rfl, HB.out⟩
      · go_enter Tryd.func29, Tryd.ntmps29
        go_wp2_with (first
          | (go_at_call 17; (with_reducible refine HN.out.mono ?_); rintro e w1 ⟨rfl, hb⟩; have c0 := pw_cell_below hb (show World.cell? _ ⟨w.heap.size, 0, none⟩ = some (.int .i64 10) by go_simp); have c1 := pw_cell_below hb (show World.cell? _ ⟨w.heap.size, 1, none⟩ = some (.int .i64 0) by go_simp); obtain ⟨b, hbb⟩ : ∃ b, w.heap.size = b := ⟨_, rfl⟩; have HB := Aside0.mk (below_then (below_alloc (Below.refl _ _) (.cells #[.int .i64 10, .int .i64 0] 43)) (by simp) hb); rw [hbb] at c0 c1; clear hb HN))
        go_ret
        exact ⟨by rw [HQ.out]; rfl, HB.out⟩
    · have e1 : s.toList.isEmpty = false := by
        cases h : s.toList with
        | nil => exact absurd h he
        | cons x l => rfl
      have HQ := Aside0.mk (show qm s = s from if_neg he)
      clear he
      rcases hb2 with rfl | rfl
      · go_enter Tryd.func29, Tryd.ntmps29
        go_wp2_with (first
          | (go_at_call 17; (with_reducible refine HN.out.mono ?_); rintro e w1 ⟨rfl, hb⟩; have c0 := pw_cell_below hb (show World.cell? _ ⟨w.heap.size, 0, none⟩ = some (.int .i64 2) by go_simp); have c1 := pw_cell_below hb (show World.cell? _ ⟨w.heap.size, 1, none⟩ = some (.int .i64 0) by go_simp); obtain ⟨b, hbb⟩ : ∃ b, w.heap.size = b := ⟨_, rfl⟩; have HB := Aside0.mk (below_then (below_alloc (Below.refl _ _) (.cells #[.int .i64 2, .int .i64 0] 43)) (by simp) hb); rw [hbb] at c0 c1; clear hb HN))
        go_ret
        exact ⟨by rw [HQ.out]; rfl, HB.out⟩
      · go_enter Tryd.func29, Tryd.ntmps29
        go_wp2_with (first
          | (go_at_call 17; (with_reducible refine HN.out.mono ?_); rintro e w1 ⟨rfl, hb⟩; have c0 := pw_cell_below hb (show World.cell? _ ⟨w.heap.size, 0, none⟩ = some (.int .i64 10) by go_simp); have c1 := pw_cell_below hb (show World.cell? _ ⟨w.heap.size, 1, none⟩ = some (.int .i64 0) by go_simp); obtain ⟨b, hbb⟩ : ∃ b, w.heap.size = b := ⟨_, rfl⟩; have HB := Aside0.mk (below_then (below_alloc (Below.refl _ _) (.cells #[.int .i64 10, .int .i64 0] 43)) (by simp) hb); rw [hbb] at c0 c1; clear hb HN))
        go_ret
        exact ⟨by rw [HQ.out]; rfl, HB.out⟩
  · rw [if_neg hb] at h
    obtain ⟨t, ht, h⟩ := Option.bind_eq_some_iff.mp h
    by_cases hz : (qm s).size + 1 + t.size ≤ 9223372036854775807
    · rw [if_pos hz] at h
      obtain rfl := Option.some.inj h
      clear h
      have HF := Aside0.mk ht
      clear ht
      by_cases he : s.toList = []
      · have e1 : s.toList.isEmpty = true := by rw [he]; rfl
        have hq : qm s = ⟨#[63]⟩ := if_pos he
        rw [hq] at hz
        have z1 : ¬ 9223372036854775807 < 2 + t.size := Nat.not_lt.mpr hz
        have HQ := Aside0.mk hq
        clear he hz hq
        by_cases ha : a0_1 = 0
        · have q1 : (a0_1 == 0) = true := beq_iff_eq.mpr ha
          have q2 : (a0_0 == 2) = false := beq_eq_false_iff_ne.mpr (fun h => hb ⟨ha, .inl h⟩)
          have q3 : (a0_0 == 10) = false := beq_eq_false_iff_ne.mpr (fun h => hb ⟨ha, .inr h⟩)
          clear ha hb
          go_enter Tryd.func29, Tryd.ntmps29
          go_wp2_with (first
            | (go_at_call 17; (with_reducible refine HN.out.mono ?_); rintro e w1 ⟨rfl, hb⟩; have c0 := pw_cell_below hb (show World.cell? _ ⟨w.heap.size, 0, none⟩ = some (.int .i64 a0_0) by go_simp); have c1 := pw_cell_below hb (show World.cell? _ ⟨w.heap.size, 1, none⟩ = some (.int .i64 a0_1) by go_simp); obtain ⟨b, hbb⟩ : ∃ b, w.heap.size = b := ⟨_, rfl⟩; have HB := Aside0.mk (below_then (below_alloc (Below.refl _ _) (.cells #[.int .i64 a0_0, .int .i64 a0_1] 43)) (by simp) hb); rw [hbb] at c0 c1; clear hb HN)
            | (go_at_call 36; (with_reducible refine (catafalqueref07_Figures.calls k a0_1 t _ HF.out).mono ?_); rintro e w2 ⟨rfl, hb⟩; have HB2 := Aside0.mk (below_step HB.out hb); clear hb))
          all_goals (go_ret; exact ⟨by rw [HQ.out]; rfl, HB2.out⟩)
        · have q1 : (a0_1 == 0) = false := beq_eq_false_iff_ne.mpr ha
          clear ha hb
          go_enter Tryd.func29, Tryd.ntmps29
          go_wp2_with (first
            | (go_at_call 17; (with_reducible refine HN.out.mono ?_); rintro e w1 ⟨rfl, hb⟩; have c0 := pw_cell_below hb (show World.cell? _ ⟨w.heap.size, 0, none⟩ = some (.int .i64 a0_0) by go_simp); have c1 := pw_cell_below hb (show World.cell? _ ⟨w.heap.size, 1, none⟩ = some (.int .i64 a0_1) by go_simp); obtain ⟨b, hbb⟩ : ∃ b, w.heap.size = b := ⟨_, rfl⟩; have HB := Aside0.mk (below_then (below_alloc (Below.refl _ _) (.cells #[.int .i64 a0_0, .int .i64 a0_1] 43)) (by simp) hb); rw [hbb] at c0 c1; clear hb HN)
            | (go_at_call 36; (with_reducible refine (catafalqueref07_Figures.calls k a0_1 t _ HF.out).mono ?_); rintro e w2 ⟨rfl, hb⟩; have HB2 := Aside0.mk (below_step HB.out hb); clear hb))
          all_goals (go_ret; exact ⟨by rw [HQ.out]; rfl, HB2.out⟩)
      · have e1 : s.toList.isEmpty = false := by
          cases h : s.toList with
          | nil => exact absurd h he
          | cons x l => rfl
        have hq : qm s = s := if_neg he
        rw [hq] at hz
        have z1 : ¬ 9223372036854775807 < s.size + 1 + t.size := Nat.not_lt.mpr hz
        have z2 : ¬ 9223372036854775807 < s.size + 1 := by omega
        have HQ := Aside0.mk hq
        clear he hz hq
        by_cases ha : a0_1 = 0
        · have q1 : (a0_1 == 0) = true := beq_iff_eq.mpr ha
          have q2 : (a0_0 == 2) = false := beq_eq_false_iff_ne.mpr (fun h => hb ⟨ha, .inl h⟩)
          have q3 : (a0_0 == 10) = false := beq_eq_false_iff_ne.mpr (fun h => hb ⟨ha, .inr h⟩)
          clear ha hb
          go_enter Tryd.func29, Tryd.ntmps29
          go_wp2_with (first
            | (go_at_call 17; (with_reducible refine HN.out.mono ?_); rintro e w1 ⟨rfl, hb⟩; have c0 := pw_cell_below hb (show World.cell? _ ⟨w.heap.size, 0, none⟩ = some (.int .i64 a0_0) by go_simp); have c1 := pw_cell_below hb (show World.cell? _ ⟨w.heap.size, 1, none⟩ = some (.int .i64 a0_1) by go_simp); obtain ⟨b, hbb⟩ : ∃ b, w.heap.size = b := ⟨_, rfl⟩; have HB := Aside0.mk (below_then (below_alloc (Below.refl _ _) (.cells #[.int .i64 a0_0, .int .i64 a0_1] 43)) (by simp) hb); rw [hbb] at c0 c1; clear hb HN)
            | (go_at_call 36; (with_reducible refine (catafalqueref07_Figures.calls k a0_1 t _ HF.out).mono ?_); rintro e w2 ⟨rfl, hb⟩; have HB2 := Aside0.mk (below_step HB.out hb); clear hb))
          all_goals (go_ret; exact ⟨by rw [HQ.out]; rfl, HB2.out⟩)
        · have q1 : (a0_1 == 0) = false := beq_eq_false_iff_ne.mpr ha
          clear ha hb
          go_enter Tryd.func29, Tryd.ntmps29
          go_wp2_with (first
            | (go_at_call 17; (with_reducible refine HN.out.mono ?_); rintro e w1 ⟨rfl, hb⟩; have c0 := pw_cell_below hb (show World.cell? _ ⟨w.heap.size, 0, none⟩ = some (.int .i64 a0_0) by go_simp); have c1 := pw_cell_below hb (show World.cell? _ ⟨w.heap.size, 1, none⟩ = some (.int .i64 a0_1) by go_simp); obtain ⟨b, hbb⟩ : ∃ b, w.heap.size = b := ⟨_, rfl⟩; have HB := Aside0.mk (below_then (below_alloc (Below.refl _ _) (.cells #[.int .i64 a0_0, .int .i64 a0_1] 43)) (by simp) hb); rw [hbb] at c0 c1; clear hb HN)
            | (go_at_call 36; (with_reducible refine (catafalqueref07_Figures.calls k a0_1 t _ HF.out).mono ?_); rintro e w2 ⟨rfl, hb⟩; have HB2 := Aside0.mk (below_step HB.out hb); clear hb))
          all_goals (go_ret; exact ⟨by rw [HQ.out]; rfl, HB2.out⟩)
    · rw [if_neg hz] at h; cases h
end Go.Proofs.YtnfodfacilmgeaaDoor.PCodeTexts
