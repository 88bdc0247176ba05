-- Written by wip/tools/xprint.py over the kit's print; hand-proved contracts inlined.
import Derived.Test.YtnfodfacilmgeaaDoorPCodeChecksx0
import Derived.Test.YtnfodfacilmgeaaDoorPCodeChecksx2
namespace Go.Proofs.YtnfodfacilmgeaaDoor.PCodeChecks
open Go.RowKit Go.Proofs.YtnfodfacilmgeaaDoorW.PrintWords Go.Proofs.YtnfodfacilmgeaaDoorW.PrintLast Go.Proofs.YtnfodfacilmgeaaDoorW.PrintMore
attribute [local go_sem] max2_int min2_int max_two min_two max_three min_three max_four min_four   -- for this text's walks alone
set_option linter.unusedVariables false
set_option linter.unusedSimpArgs false

/-! ### catafalqueref07_Check: function 10 -/
mutual
def catafalqueref07_Check.j0 : Nat → List (List (S43)) → Int → Int → Bool → Option (Int × Int × Int)
  | 0, _, _, _, _ => none
  | k + 1, x0, x1, x2, x25 => if x25 = true then (some (0, 0, 1)) else (if (x0.length : Int) = 0 then (catafalqueref07_Check.j1 k x0 x1 x2 true) else (catafalqueref07_Check.j1 k x0 x1 x2 (decide ((x0.length : Int) > 8))))
def catafalqueref07_Check.j1 : Nat → List (List (S43)) → Int → Int → Bool → Option (Int × Int × Int)
  | 0, _, _, _, _ => none
  | k + 1, x0, x1, x2, x33 => if x33 = true then (some (0, 0, 3)) else (catafalqueref07_Check.l0 k x0 x1 x2 0)
def catafalqueref07_Check.l0 : Nat → List (List (S43)) → Int → Int → Int → Option (Int × Int × Int)
  | 0, _, _, _, _ => none
  | k + 1, x0, x1, x2, x9 => if x9 < (x0.length : Int) then (if 0 ≤ x9 then (if ((rd_L4 x0 x9).length : Int) = 0 then (catafalqueref07_Check.j3 k x0 x1 x2 x9 ((rd_L4 x0 x9).length : Int) true) else (catafalqueref07_Check.j3 k x0 x1 x2 x9 ((rd_L4 x0 x9).length : Int) (decide (((rd_L4 x0 x9).length : Int) > 32)))) else (none)) else (some (0, 0, 0))
def catafalqueref07_Check.j3 : Nat → List (List (S43)) → Int → Int → Int → Int → Bool → Option (Int × Int × Int)
  | 0, _, _, _, _, _, _ => none
  | k + 1, x0, x1, x2, x9, x10, x50 => if x50 = true then (some (x9, 0, 3)) else (catafalqueref07_Check.l1 k x0 x1 x2 x9 x10 0)
def catafalqueref07_Check.l1 : Nat → List (List (S43)) → Int → Int → Int → Int → Int → Option (Int × Int × Int)
  | 0, _, _, _, _, _, _ => none
  | k + 1, x0, x1, x2, x9, x10, x11 => if x11 < x10 then (if 0 ≤ x9 then (if x9 < (x0.length : Int) then (if 0 ≤ x11 then (if x11 < ((rd_L4 x0 x9).length : Int) then ((catafalqueref07_May.f k ((rd_T43 (rd_L4 x0 x9) x11).f0) ((rd_T43 (rd_L4 x0 x9) x11).f1) x1 x2 (x0.length : Int) x10).bind fun t139 => (if t139 = true then (catafalqueref07_Check.l1 k x0 x1 x2 x9 x10 (wrap64 (x11 + 1))) else (some (x9, x11, 1)))) else (none)) else (none)) else (none)) else (none)) else (if 0 ≤ x9 then (if x9 < (x0.length : Int) then (if 0 ≤ (wrap64 (x10 - 1)) then (if (wrap64 (x10 - 1)) < ((rd_L4 x0 x9).length : Int) then (if ((rd_T43 (rd_L4 x0 x9) (wrap64 (x10 - 1))).f0) = 10 then (catafalqueref07_Check.l0 k x0 x1 x2 (wrap64 (x9 + 1))) else (some (x9, wrap64 (x10 - 1), 2))) else (none)) else (none)) else (none)) else (none))
end
def catafalqueref07_Check.f (k : Nat) (l0 : List (List (S43))) (a1 : Int) (a2 : Int) : Option (Int × Int × Int) := if a1 < 0 then (catafalqueref07_Check.j0 k l0 a1 a2 true) else (if a1 > 4 then (catafalqueref07_Check.j0 k l0 a1 a2 true) else (if a2 < 0 then (catafalqueref07_Check.j0 k l0 a1 a2 true) else (catafalqueref07_Check.j0 k l0 a1 a2 (decide (a2 > 4)))))
theorem catafalqueref07_Check.mono_l : ∀ k, (∀ y0 y1 y2 y3, LeO (catafalqueref07_Check.j0 k y0 y1 y2 y3) (catafalqueref07_Check.j0 (k + 1) y0 y1 y2 y3)) ∧ (∀ y0 y1 y2 y3, LeO (catafalqueref07_Check.j1 k y0 y1 y2 y3) (catafalqueref07_Check.j1 (k + 1) y0 y1 y2 y3)) ∧ (∀ y0 y1 y2 y3, LeO (catafalqueref07_Check.l0 k y0 y1 y2 y3) (catafalqueref07_Check.l0 (k + 1) y0 y1 y2 y3)) ∧ (∀ y0 y1 y2 y3 y4 y5, LeO (catafalqueref07_Check.j3 k y0 y1 y2 y3 y4 y5) (catafalqueref07_Check.j3 (k + 1) y0 y1 y2 y3 y4 y5)) ∧ (∀ y0 y1 y2 y3 y4 y5, LeO (catafalqueref07_Check.l1 k y0 y1 y2 y3 y4 y5) (catafalqueref07_Check.l1 (k + 1) y0 y1 y2 y3 y4 y5))
  | 0 => ⟨fun _ _ _ _ r h => by simp [catafalqueref07_Check.j0] at h, fun _ _ _ _ r h => by simp [catafalqueref07_Check.j1] at h, fun _ _ _ _ r h => by simp [catafalqueref07_Check.l0] at h, fun _ _ _ _ _ _ r h => by simp [catafalqueref07_Check.j3] at h, fun _ _ _ _ _ _ r h => by simp [catafalqueref07_Check.l1] at h⟩
  | k + 1 => by
    obtain ⟨ih0, ih1, ih2, ih3, ih4⟩ := catafalqueref07_Check.mono_l k
    refine ⟨?_, ?_, ?_, ?_, ?_⟩
    · intro y0 y1 y2 y3
      unfold catafalqueref07_Check.j0
      repeat' first
      | (with_reducible exact ih0 _ _ _ _)
      | (with_reducible exact ih1 _ _ _ _)
      | (with_reducible exact ih2 _ _ _ _)
      | (with_reducible exact ih3 _ _ _ _ _ _)
      | (with_reducible exact ih4 _ _ _ _ _ _)
      | (with_reducible exact catafalqueref07_May.mono _ _ _ _ _ _ _)
      | (with_reducible exact LeO.refl _)
      | (with_reducible exact LeO.none _)
      | (with_reducible refine LeO.ite ?_ ?_)
      | (with_reducible refine LeO.bind ?_ (fun _ => ?_))
      | exact ih0 _ _ _ _
      | exact ih1 _ _ _ _
      | exact ih2 _ _ _ _
      | exact ih3 _ _ _ _ _ _
      | exact ih4 _ _ _ _ _ _
      | exact catafalqueref07_May.mono _ _ _ _ _ _ _
      | exact LeO.none _
      | refine LeO.ite ?_ ?_
      | refine LeO.bind ?_ (fun _ => ?_)
    · intro y0 y1 y2 y3
      unfold catafalqueref07_Check.j1
      repeat' first
      | (with_reducible exact ih0 _ _ _ _)
      | (with_reducible exact ih1 _ _ _ _)
      | (with_reducible exact ih2 _ _ _ _)
      | (with_reducible exact ih3 _ _ _ _ _ _)
      | (with_reducible exact ih4 _ _ _ _ _ _)
      | (with_reducible exact catafalqueref07_May.mono _ _ _ _ _ _ _)
      | (with_reducible exact LeO.refl _)
      | (with_reducible exact LeO.none _)
      | (with_reducible refine LeO.ite ?_ ?_)
      | (with_reducible refine LeO.bind ?_ (fun _ => ?_))
      | exact ih0 _ _ _ _
      | exact ih1 _ _ _ _
      | exact ih2 _ _ _ _
      | exact ih3 _ _ _ _ _ _
      | exact ih4 _ _ _ _ _ _
      | exact catafalqueref07_May.mono _ _ _ _ _ _ _
      | exact LeO.none _
      | refine LeO.ite ?_ ?_
      | refine LeO.bind ?_ (fun _ => ?_)
    · intro y0 y1 y2 y3
      unfold catafalqueref07_Check.l0
      repeat' first
      | (with_reducible exact ih0 _ _ _ _)
      | (with_reducible exact ih1 _ _ _ _)
      | (with_reducible exact ih2 _ _ _ _)
      | (with_reducible exact ih3 _ _ _ _ _ _)
      | (with_reducible exact ih4 _ _ _ _ _ _)
      | (with_reducible exact catafalqueref07_May.mono _ _ _ _ _ _ _)
      | (with_reducible exact LeO.refl _)
      | (with_reducible exact LeO.none _)
      | (with_reducible refine LeO.ite ?_ ?_)
      | (with_reducible refine LeO.bind ?_ (fun _ => ?_))
      | exact ih0 _ _ _ _
      | exact ih1 _ _ _ _
      | exact ih2 _ _ _ _
      | exact ih3 _ _ _ _ _ _
      | exact ih4 _ _ _ _ _ _
      | exact catafalqueref07_May.mono _ _ _ _ _ _ _
      | exact LeO.none _
      | refine LeO.ite ?_ ?_
      | refine LeO.bind ?_ (fun _ => ?_)
    · intro y0 y1 y2 y3 y4 y5
      unfold catafalqueref07_Check.j3
      repeat' first
      | (with_reducible exact ih0 _ _ _ _)
      | (with_reducible exact ih1 _ _ _ _)
      | (with_reducible exact ih2 _ _ _ _)
      | (with_reducible exact ih3 _ _ _ _ _ _)
      | (with_reducible exact ih4 _ _ _ _ _ _)
      | (with_reducible exact catafalqueref07_May.mono _ _ _ _ _ _ _)
      | (with_reducible exact LeO.refl _)
      | (with_reducible exact LeO.none _)
      | (with_reducible refine LeO.ite ?_ ?_)
      | (with_reducible refine LeO.bind ?_ (fun _ => ?_))
      | exact ih0 _ _ _ _
      | exact ih1 _ _ _ _
      | exact ih2 _ _ _ _
      | exact ih3 _ _ _ _ _ _
      | exact ih4 _ _ _ _ _ _
      | exact catafalqueref07_May.mono _ _ _ _ _ _ _
      | exact LeO.none _
      | refine LeO.ite ?_ ?_
      | refine LeO.bind ?_ (fun _ => ?_)
    · intro y0 y1 y2 y3 y4 y5
      unfold catafalqueref07_Check.l1
      repeat' first
      | (with_reducible exact ih0 _ _ _ _)
      | (with_reducible exact ih1 _ _ _ _)
      | (with_reducible exact ih2 _ _ _ _)
      | (with_reducible exact ih3 _ _ _ _ _ _)
      | (with_reducible exact ih4 _ _ _ _ _ _)
      | (with_reducible exact catafalqueref07_May.mono _ _ _ _ _ _ _)
      | (with_reducible exact LeO.refl _)
      | (with_reducible exact LeO.none _)
      | (with_reducible refine LeO.ite ?_ ?_)
      | (with_reducible refine LeO.bind ?_ (fun _ => ?_))
      | exact ih0 _ _ _ _
      | exact ih1 _ _ _ _
      | exact ih2 _ _ _ _
      | exact ih3 _ _ _ _ _ _
      | exact ih4 _ _ _ _ _ _
      | exact catafalqueref07_May.mono _ _ _ _ _ _ _
      | exact LeO.none _
      | refine LeO.ite ?_ ?_
      | refine LeO.bind ?_ (fun _ => ?_)
theorem catafalqueref07_Check.mono : ∀ a0 a1 a2 k, LeO (catafalqueref07_Check.f k a0 a1 a2) (catafalqueref07_Check.f (k + 1) a0 a1 a2) := by
  intro a0 a1 a2 k
  obtain ⟨ih0, ih1, ih2, ih3, ih4⟩ := catafalqueref07_Check.mono_l k
  unfold catafalqueref07_Check.f
  repeat' first
      | (with_reducible exact ih0 _ _ _ _)
      | (with_reducible exact ih1 _ _ _ _)
      | (with_reducible exact ih2 _ _ _ _)
      | (with_reducible exact ih3 _ _ _ _ _ _)
      | (with_reducible exact ih4 _ _ _ _ _ _)
      | (with_reducible exact catafalqueref07_May.mono _ _ _ _ _ _ _)
      | (with_reducible exact LeO.refl _)
      | (with_reducible exact LeO.none _)
      | (with_reducible refine LeO.ite ?_ ?_)
      | (with_reducible refine LeO.bind ?_ (fun _ => ?_))
      | exact ih0 _ _ _ _
      | exact ih1 _ _ _ _
      | exact ih2 _ _ _ _
      | exact ih3 _ _ _ _ _ _
      | exact ih4 _ _ _ _ _ _
      | exact catafalqueref07_May.mono _ _ _ _ _ _ _
      | exact LeO.none _
      | refine LeO.ite ?_ ?_
      | refine LeO.bind ?_ (fun _ => ?_)
set_option maxHeartbeats 8000000 in
set_option maxRecDepth 100000 in
theorem catafalqueref07_Check.calls (k : Nat) (A0 : Option Addr) (c0 : Nat) (l0 : List (List (S43))) (a1 : Int) (a2 : Int) (r1 : Int) (r2 : Int) (r3 : Int) (w : World) (hr0 : Kd.C (Kd.slice 43 k43) w A0 l0.length l0) (hc0 : l0.length ≤ c0) (h : catafalqueref07_Check.f k l0 a1 a2 = some (r1, r2, r3)) :
    Calls Tryd.prog 10 #[.slice A0 l0.length c0, .int .i64 a1, .int .i64 a2] w fun e w' => e = .returned (.tuple #[.int .i64 r1, .int .i64 r2, .int .i64 r3]) ∧ Below w.heap.size w w' := by
  have hu43 := Tryd.underlying43
  have HR0 := Aside0.mk hr0
  have HC0 := Aside0.mk hc0
  clear hr0 hc0
  have HB := Aside0.mk (Below.refl w.heap.size w)
  have H : (if a1 < 0 then (catafalqueref07_Check.j0 k l0 a1 a2 true) else (if a1 > 4 then (catafalqueref07_Check.j0 k l0 a1 a2 true) else (if a2 < 0 then (catafalqueref07_Check.j0 k l0 a1 a2 true) else (catafalqueref07_Check.j0 k l0 a1 a2 (decide (a2 > 4)))))) = some (r1, r2, r3) := h
  clear h
  have HC4 := Aside0.mk H
  clear H
  go_enter Tryd.func10, Tryd.ntmps10
  go_upto_region 1 with (fail)
  go_cut [25] (fun v25 wc => ∃ (kq : Nat) (x25_3 : Bool), v25 = .bool x25_3 ∧ Aside0 (catafalqueref07_Check.j0 kq l0 a1 a2 x25_3 = some (r1, r2, r3)) ∧ Aside0 (kq ≤ k) ∧ Aside0 (Below w.heap.size w wc))
  case first =>
    have H := HC4.out
    clear HC4
    by_cases c5 : a1 < 0
    · rw [if_pos c5] at H
      have c5b0 : decide (a1 < 0) = true := decide_eq_true c5
      clear c5
      (first | rw [c5b0] | (simp only [i64_w, i32_w]; rw [c5b0]) | skip)
      have H' := Aside0.mk H
      clear H
      go_wp2
      go_meet
      case rel => exact ⟨_, (true), (by first | rfl | (simp; done) | (simp [*]; done)), H', ⟨by first | omega | exact Nat.le_refl _⟩, ⟨by repeat (first | (with_reducible first | exact HB.out | apply below_alloc | apply pw_below_drewN | apply below_drew1) | exact HB.out)⟩⟩
    · rw [if_neg c5] at H
      have c5b0 : decide (a1 < 0) = false := decide_eq_false c5
      clear c5
      (first | rw [c5b0] | (simp only [i64_w, i32_w]; rw [c5b0]) | skip)
      by_cases c6 : a1 > 4
      · rw [if_pos c6] at H
        have c6b0 : decide (4 < a1) = true := decide_eq_true c6
        clear c6
        have H' := Aside0.mk H
        clear H
        go_wp2
        go_meet
        case rel => exact ⟨_, (true), (by first | rfl | (simp; done) | (simp [*]; done)), H', ⟨by first | omega | exact Nat.le_refl _⟩, ⟨by repeat (first | (with_reducible first | exact HB.out | apply below_alloc | apply pw_below_drewN | apply below_drew1) | exact HB.out)⟩⟩
      · rw [if_neg c6] at H
        have c6b0 : decide (4 < a1) = false := decide_eq_false c6
        clear c6
        by_cases c7 : a2 < 0
        · rw [if_pos c7] at H
          have c7b0 : decide (a2 < 0) = true := decide_eq_true c7
          clear c7
          have H' := Aside0.mk H
          clear H
          go_wp2
          go_meet
          case rel => exact ⟨_, (true), (by first | rfl | (simp; done) | (simp [*]; done)), H', ⟨by first | omega | exact Nat.le_refl _⟩, ⟨by repeat (first | (with_reducible first | exact HB.out | apply below_alloc | apply pw_below_drewN | apply below_drew1) | exact HB.out)⟩⟩
        · rw [if_neg c7] at H
          have c7b0 : decide (a2 < 0) = false := decide_eq_false c7
          clear c7
          have H' := Aside0.mk H
          clear H
          go_wp2
          go_meet
          case rel => exact ⟨_, (decide (a2 > 4)), (by first | rfl | (simp; done) | (simp [*]; done)), H', ⟨by first | omega | exact Nat.le_refl _⟩, ⟨by repeat (first | (with_reducible first | exact HB.out | apply below_alloc | apply pw_below_drewN | apply below_drew1) | exact HB.out)⟩⟩
  case rest =>
    clear HC4
    try clear c1
    try clear p2
    try clear c5
    try clear c5b0
    try clear c6
    try clear c6b0
    try clear c7
    try clear c7b0
    obtain ⟨kq, x25_3, rfl, HA, HJ3, HB⟩ := hcut
    cases kq with
    | zero => exact absurd HA.out (by simp [catafalqueref07_Check.j0])
    | succ kj3 =>
      have H := HA.out
      clear HA
      simp only [catafalqueref07_Check.j0] at H
      by_cases c8 : x25_3 = true
      · subst c8
        have H1 : (some (0, 0, 1)) = some (r1, r2, r3) := by rw [if_pos rfl] at H; exact H
        clear H
        have H := H1
        clear H1
        simp only [Option.some.injEq, Prod.mk.injEq] at H
        obtain ⟨rfl, rfl, rfl⟩ := H
        go_wp2
        go_ret3
        exact ⟨by first | rfl | (simp [errW_none, errW_some] <;> rfl) | (simp [*, errW_none, errW_some] <;> rfl), by repeat (first | (with_reducible first | exact HB.out | apply below_alloc | apply pw_below_drewN | apply below_drew1) | exact HB.out)⟩
      · replace c8 := Bool.eq_false_iff.mpr c8
        subst c8
        have H1 : (if (l0.length : Int) = 0 then (catafalqueref07_Check.j1 kj3 l0 a1 a2 true) else (catafalqueref07_Check.j1 kj3 l0 a1 a2 (decide ((l0.length : Int) > 8)))) = some (r1, r2, r3) := by rw [if_neg (show ¬ (false = true) by decide)] at H; exact H
        clear H
        have H := H1
        clear H1
        have HC9 := Aside0.mk H
        clear H
        go_upto_region 3 with (fail)
        go_cut [33] (fun v33 wc => ∃ (kq : Nat) (x33_8 : Bool), v33 = .bool x33_8 ∧ Aside0 (catafalqueref07_Check.j1 kq l0 a1 a2 x33_8 = some (r1, r2, r3)) ∧ Aside0 (kq ≤ kj3) ∧ Aside0 (Below w.heap.size w wc))
        case first =>
          have H := HC9.out
          clear HC9
          by_cases c10 : (l0.length : Int) = 0
          · rw [if_pos c10] at H
            have c10b0 : ((l0.length : Int) == 0) = true := beq_iff_eq.mpr c10
            have c10b1 : ((l0.length : Int) != 0) = false := bne_eq_false_iff_eq.mpr c10
            clear c10
            (first | rw [c10b0] | (simp only [i64_w, i32_w]; rw [c10b0]) | skip)
            have H' := Aside0.mk H
            clear H
            go_wp2
            go_meet
            case rel => exact ⟨_, (true), (by first | rfl | (simp; done) | (simp [*]; done)), H', ⟨by have := HJ3.out; first | omega | exact Nat.le_refl _⟩, ⟨by repeat (first | (with_reducible first | exact HB.out | apply below_alloc | apply pw_below_drewN | apply below_drew1) | exact HB.out)⟩⟩
          · rw [if_neg c10] at H
            have c10b0 : ((l0.length : Int) == 0) = false := beq_eq_false_iff_ne.mpr c10
            have c10b1 : ((l0.length : Int) != 0) = true := bne_iff_ne.mpr c10
            have c10b2 : ¬ (l0 = []) := fun h_ => c10 (by rw [h_]; rfl)
            (first | rw [c10b0] | (simp only [i64_w, i32_w]; rw [c10b0]) | skip)
            have H' := Aside0.mk H
            clear H
            go_wp2
            go_meet
            case rel => exact ⟨_, (decide ((l0.length : Int) > 8)), (by first | rfl | (simp; done) | (simp [*]; done)), H', ⟨by have := HJ3.out; first | omega | exact Nat.le_refl _⟩, ⟨by repeat (first | (with_reducible first | exact HB.out | apply below_alloc | apply pw_below_drewN | apply below_drew1) | exact HB.out)⟩⟩
        case rest =>
          clear HC9
          try clear c1
          try clear p2
          try clear c5
          try clear c5b0
          try clear c6
          try clear c6b0
          try clear c7
          try clear c7b0
          try clear c8
          try clear c10
          try clear c10b0
          try clear c10b1
          try clear c10b2
          try clear p2
          obtain ⟨kq, x33_8, rfl, HA, HJ8, HB⟩ := hcut
          cases kq with
          | zero => exact absurd HA.out (by simp [catafalqueref07_Check.j1])
          | succ kj8 =>
            have H := HA.out
            clear HA
            simp only [catafalqueref07_Check.j1] at H
            by_cases c11 : x33_8 = true
            · subst c11
              have H1 : (some (0, 0, 3)) = some (r1, r2, r3) := by rw [if_pos rfl] at H; exact H
              clear H
              have H := H1
              clear H1
              simp only [Option.some.injEq, Prod.mk.injEq] at H
              obtain ⟨rfl, rfl, rfl⟩ := H
              go_wp2
              go_ret3
              exact ⟨by first | rfl | (simp [errW_none, errW_some] <;> rfl) | (simp [*, errW_none, errW_some] <;> rfl), by repeat (first | (with_reducible first | exact HB.out | apply below_alloc | apply pw_below_drewN | apply below_drew1) | exact HB.out)⟩
            · replace c11 := Bool.eq_false_iff.mpr c11
              subst c11
              have H1 : (catafalqueref07_Check.l0 kj8 l0 a1 a2 0) = some (r1, r2, r3) := by rw [if_neg (show ¬ (false = true) by decide)] at H; exact H
              clear H
              have H := H1
              clear H1
              have H' := Aside0.mk H
              clear H
              go_wp2
              go_loopg [9] kj8 (fun kq v9 w' => ∃ (x9_3 : Int), v9 = .int .i64 x9_3 ∧ Aside0 (catafalqueref07_Check.l0 kq l0 a1 a2 x9_3 = some (r1, r2, r3)) ∧ Aside0 (kq ≤ kj8) ∧ Aside0 (Below w.heap.size w w'))
              case atStart => exact ⟨(0), (by first | rfl | (simp; done) | (simp [*]; done)), H', ⟨Nat.le_refl _⟩, ⟨by repeat (first | (with_reducible first | exact HB.out | apply below_alloc | apply pw_below_drewN | apply below_drew1) | exact HB.out)⟩⟩
              case round =>
                clear H'
                try clear c1
                try clear p2
                try clear c5
                try clear c5b0
                try clear c6
                try clear c6b0
                try clear c7
                try clear c7b0
                try clear c8
                try clear c10
                try clear c10b0
                try clear c10b1
                try clear c10b2
                try clear c11
                try clear p2
                obtain ⟨x9_3, rfl, HA, HK3, HB⟩ := hrel
                cases gk with
                | zero => exact absurd HA.out (by simp [catafalqueref07_Check.l0])
                | succ k3 =>
                  have H := HA.out
                  clear HA
                  simp only [catafalqueref07_Check.l0] at H
                  by_cases c12 : x9_3 < (l0.length : Int)
                  · rw [if_pos c12] at H
                    have c12b0 : decide (x9_3 < (l0.length : Int)) = true := decide_eq_true c12
                    clear c12
                    by_cases c13 : 0 ≤ x9_3
                    · rw [if_pos c13] at H
                      have c13b0 : decide (0 ≤ x9_3) = true := decide_eq_true c13
                      clear c13
                      have HC14 := Aside0.mk H
                      clear H
                      have p136 : 0 ≤ (x9_3 : Int) := of_decide_eq_true (by first | (with_reducible assumption) | assumption)
                      have q136 : x9_3 < (l0.length : Int) := of_decide_eq_true (by first | (with_reducible assumption) | assumption)
                      obtain ⟨ad136, A136_0, c136_0, e136, hx136_0, hl136_0, hi136_0⟩ := at_L4 HR0.out x9_3 p136 q136
                      cases e136
                      replace hx136_0 := (HB.out.cell (World.block_lt_of_cell? w _ hx136_0)).trans hx136_0
                      have HR136_0 := Aside0.mk hi136_0
                      have HC136_0 := Aside0.mk hl136_0
                      clear hi136_0 hl136_0
                      replace p136 := eq_true p136
                      replace q136 := eq_true q136
                      go_upto_region 9 with (fail)
                      go_cut [50] (fun v50 wc => ∃ (kq : Nat) (x50_13 : Bool), v50 = .bool x50_13 ∧ Aside0 (catafalqueref07_Check.j3 kq l0 a1 a2 x9_3 ((rd_L4 l0 x9_3).length : Int) x50_13 = some (r1, r2, r3)) ∧ Aside0 (kq ≤ k3) ∧ Aside0 (Below w.heap.size w wc))
                      case first =>
                        have H := HC14.out
                        clear HC14
                        by_cases c15 : ((rd_L4 l0 x9_3).length : Int) = 0
                        · rw [if_pos c15] at H
                          have c15b0 : (((rd_L4 l0 x9_3).length : Int) == 0) = true := beq_iff_eq.mpr c15
                          have c15b1 : (((rd_L4 l0 x9_3).length : Int) != 0) = false := bne_eq_false_iff_eq.mpr c15
                          clear c15
                          (first | rw [c15b0] | (simp only [i64_w, i32_w]; rw [c15b0]) | skip)
                          have H' := Aside0.mk H
                          clear H
                          go_wp2
                          go_meet
                          case rel => exact ⟨_, (true), (by first | rfl | (simp; done) | (simp [*]; done)), H', ⟨by have := HJ3.out; have := HJ8.out; have := HK3.out; first | omega | exact Nat.le_refl _⟩, ⟨by repeat (first | (with_reducible first | exact HB.out | apply below_alloc | apply pw_below_drewN | apply below_drew1) | exact HB.out)⟩⟩
                        · rw [if_neg c15] at H
                          have c15b0 : (((rd_L4 l0 x9_3).length : Int) == 0) = false := beq_eq_false_iff_ne.mpr c15
                          have c15b1 : (((rd_L4 l0 x9_3).length : Int) != 0) = true := bne_iff_ne.mpr c15
                          have c15b2 : ¬ ((rd_L4 l0 x9_3) = []) := fun h_ => c15 (by rw [h_]; rfl)
                          (first | rw [c15b0] | (simp only [i64_w, i32_w]; rw [c15b0]) | skip)
                          have H' := Aside0.mk H
                          clear H
                          go_wp2
                          go_meet
                          case rel => exact ⟨_, (decide (((rd_L4 l0 x9_3).length : Int) > 32)), (by first | rfl | (simp; done) | (simp [*]; done)), H', ⟨by have := HJ3.out; have := HJ8.out; have := HK3.out; first | omega | exact Nat.le_refl _⟩, ⟨by repeat (first | (with_reducible first | exact HB.out | apply below_alloc | apply pw_below_drewN | apply below_drew1) | exact HB.out)⟩⟩
                      case rest =>
                        clear HC14
                        try clear c1
                        try clear p1
                        try clear q1
                        try clear hx1
                        try clear p2
                        try clear c5
                        try clear c5b0
                        try clear c6
                        try clear c6b0
                        try clear c7
                        try clear c7b0
                        try clear c8
                        try clear c10
                        try clear c10b0
                        try clear c10b1
                        try clear c10b2
                        try clear c11
                        try clear c12
                        try clear c12b0
                        try clear c13
                        try clear c13b0
                        try clear p13
                        try clear q13
                        try clear hx13
                        try clear c15
                        try clear c15b0
                        try clear c15b1
                        try clear c15b2
                        try clear hx136_0
                        try clear p136
                        try clear p2
                        try clear q136
                        obtain ⟨kq, x50_13, rfl, HA, HJ13, HB⟩ := hcut
                        cases kq with
                        | zero => exact absurd HA.out (by simp [catafalqueref07_Check.j3])
                        | succ kj13 =>
                          have H := HA.out
                          clear HA
                          simp only [catafalqueref07_Check.j3] at H
                          by_cases c16 : x50_13 = true
                          · subst c16
                            have H1 : (some (x9_3, 0, 3)) = some (r1, r2, r3) := by rw [if_pos rfl] at H; exact H
                            clear H
                            have H := H1
                            clear H1
                            simp only [Option.some.injEq, Prod.mk.injEq] at H
                            obtain ⟨rfl, rfl, rfl⟩ := H
                            go_wp2
                            go_ret3
                            exact ⟨by first | rfl | (simp [errW_none, errW_some] <;> rfl) | (simp [*, errW_none, errW_some] <;> rfl), by repeat (first | (with_reducible first | exact HB.out | apply below_alloc | apply pw_below_drewN | apply below_drew1) | exact HB.out)⟩
                          · replace c16 := Bool.eq_false_iff.mpr c16
                            subst c16
                            have H1 : (catafalqueref07_Check.l1 kj13 l0 a1 a2 x9_3 ((rd_L4 l0 x9_3).length : Int) 0) = some (r1, r2, r3) := by rw [if_neg (show ¬ (false = true) by decide)] at H; exact H
                            clear H
                            have H := H1
                            clear H1
                            have H' := Aside0.mk H
                            clear H
                            go_wp2
                            go_loopg [11] kj13 (fun kq v11 w' => ∃ (x11_5 : Int), v11 = .int .i64 x11_5 ∧ Aside0 (catafalqueref07_Check.l1 kq l0 a1 a2 x9_3 ((rd_L4 l0 x9_3).length : Int) x11_5 = some (r1, r2, r3)) ∧ Aside0 (kq ≤ kj13) ∧ Aside0 (Below w.heap.size w w'))
                            case atStart => exact ⟨(0), (by first | rfl | (simp; done) | (simp [*]; done)), H', ⟨Nat.le_refl _⟩, ⟨by repeat (first | (with_reducible first | exact HB.out | apply below_alloc | apply pw_below_drewN | apply below_drew1) | exact HB.out)⟩⟩
                            case round =>
                              clear H'
                              try clear c1
                              try clear p1
                              try clear q1
                              try clear hx1
                              try clear p2
                              try clear c5
                              try clear c5b0
                              try clear c6
                              try clear c6b0
                              try clear c7
                              try clear c7b0
                              try clear c8
                              try clear c10
                              try clear c10b0
                              try clear c10b1
                              try clear c10b2
                              try clear c11
                              try clear c12
                              try clear c12b0
                              try clear c13
                              try clear c13b0
                              try clear p13
                              try clear q13
                              try clear hx13
                              try clear c15
                              try clear c15b0
                              try clear c15b1
                              try clear c15b2
                              try clear c16
                              try clear hx136_0
                              try clear p1
                              try clear p13
                              try clear p136
                              try clear p2
                              try clear q1
                              try clear q13
                              try clear q136
                              obtain ⟨x11_5, rfl, HA, HK5, HB⟩ := hrel
                              cases gk with
                              | zero => exact absurd HA.out (by simp [catafalqueref07_Check.l1])
                              | succ k5 =>
                                have H := HA.out
                                clear HA
                                simp only [catafalqueref07_Check.l1] at H
                                by_cases c17 : x11_5 < ((rd_L4 l0 x9_3).length : Int)
                                · rw [if_pos c17] at H
                                  have c17b0 : decide (x11_5 < ((rd_L4 l0 x9_3).length : Int)) = true := decide_eq_true c17
                                  clear c17
                                  by_cases c18 : 0 ≤ x9_3
                                  · rw [if_pos c18] at H
                                    have c18b0 : decide (0 ≤ x9_3) = true := decide_eq_true c18
                                    clear c18
                                    by_cases c19 : x9_3 < (l0.length : Int)
                                    · rw [if_pos c19] at H
                                      have c19b0 : decide (x9_3 < (l0.length : Int)) = true := decide_eq_true c19
                                      clear c19
                                      by_cases c20 : 0 ≤ x11_5
                                      · rw [if_pos c20] at H
                                        have c20b0 : decide (0 ≤ x11_5) = true := decide_eq_true c20
                                        clear c20
                                        by_cases c21 : x11_5 < ((rd_L4 l0 x9_3).length : Int)
                                        · rw [if_pos c21] at H
                                          have c21b0 : decide (x11_5 < ((rd_L4 l0 x9_3).length : Int)) = true := decide_eq_true c21
                                          clear c21
                                          replace H := Option.bind_eq_some_iff.mp H
                                          obtain ⟨t139, A220, H⟩ := H
                                          replace H : (if t139 = true then (catafalqueref07_Check.l1 k5 l0 a1 a2 x9_3 ((rd_L4 l0 x9_3).length : Int) (wrap64 (x11_5 + 1))) else (some (x9_3, x11_5, 1))) = some (r1, r2, r3) := H
                                          have A22 := Aside0.mk A220
                                          clear A220
                                          by_cases c23 : t139 = true
                                          · subst c23
                                            have H1 : (catafalqueref07_Check.l1 k5 l0 a1 a2 x9_3 ((rd_L4 l0 x9_3).length : Int) (wrap64 (x11_5 + 1))) = some (r1, r2, r3) := by rw [if_pos rfl] at H; exact H
                                            clear H
                                            have H := H1
                                            clear H1
                                            have H' := Aside0.mk H
                                            clear H
                                            have p137 : 0 ≤ (x9_3 : Int) := of_decide_eq_true (by first | (with_reducible assumption) | assumption)
                                            have q137 : x9_3 < (l0.length : Int) := of_decide_eq_true (by first | (with_reducible assumption) | assumption)
                                            obtain ⟨ad137, A137_0, c137_0, e137, hx137_0, hl137_0, hi137_0⟩ := at_L4 HR0.out x9_3 p137 q137
                                            obtain rfl : ad136 = ad137 := (by injection e137)
                                            replace hx137_0 := (HB.out.cell (World.block_lt_of_cell? w _ hx137_0)).trans hx137_0
                                            have HR137_0 := Aside0.mk hi137_0
                                            have HC137_0 := Aside0.mk hl137_0
                                            clear hi137_0 hl137_0
                                            replace p137 := eq_true p137
                                            replace q137 := eq_true q137
                                            have p138 : 0 ≤ (x11_5 : Int) := of_decide_eq_true (by first | (with_reducible assumption) | assumption)
                                            have q138 : x11_5 < ((rd_L4 l0 x9_3).length : Int) := of_decide_eq_true (by first | (with_reducible assumption) | assumption)
                                            obtain ⟨ad138, e138, hx138_0, hx138_1⟩ := at_T43 HR137_0.out x11_5 p138 q138
                                            cases e138
                                            replace hx138_0 := (HB.out.cell (World.block_lt_of_cell? w _ hx138_0)).trans hx138_0
                                            replace hx138_1 := (HB.out.cell (World.block_lt_of_cell? w _ hx138_1)).trans hx138_1
                                            replace p138 := eq_true p138
                                            replace q138 := eq_true q138
                                            go_wp2_with (first | ((with_reducible refine gate_callee (f := 21) rfl ?_); refine goesL_ (some 69) rfl rfl Tryd.func21 (by kernel_rfl) rfl #[.agg #[.int .i64 ((rd_T43 (rd_L4 l0 x9_3) x11_5).f0), .int .i64 ((rd_T43 (rd_L4 l0 x9_3) x11_5).f1)], .int .i64 a1, .int .i64 a2, .int .i64 (l0.length : Int), .int .i64 ((rd_L4 l0 x9_3).length : Int)] rfl (by (try simp only [List.map_toArray, List.map_cons, List.map_nil]); first | done | rfl | (simp only [List.length_drop, List.length_take]; rfl)) ?_; (with_reducible refine (catafalqueref07_May.calls k5 ((rd_T43 (rd_L4 l0 x9_3) x11_5).f0) ((rd_T43 (rd_L4 l0 x9_3) x11_5).f1) a1 a2 (l0.length : Int) ((rd_L4 l0 x9_3).length : Int) true _ A22.out).mono ?_); rintro e w24 ⟨rfl, hb⟩; refine ⟨_, rfl, ?_⟩; have n0_ := Aside0.mk (below_step (by repeat (first | (with_reducible first | exact HB.out | apply below_alloc | apply pw_below_drewN | apply below_drew1) | exact HB.out)) hb); clear HB; have HB := n0_; clear n0_; (try clear hb); (try clear hb2); (try clear hk); (try clear hi)))
                                            go_roundg k5
                                            case measure => have := HJ3.out; have := HJ8.out; have := HK3.out; have := HJ13.out; have := HK5.out; omega
                                            case rel => exact ⟨(wrap64 (x11_5 + 1)), (by first | rfl | (simp; done) | (simp [*]; done)), H', ⟨by have := HJ3.out; have := HJ8.out; have := HK3.out; have := HJ13.out; have := HK5.out; omega⟩, ⟨by repeat (first | (with_reducible first | exact HB.out | apply below_alloc | apply pw_below_drewN | apply below_drew1) | exact HB.out)⟩⟩
                                          · replace c23 := Bool.eq_false_iff.mpr c23
                                            subst c23
                                            have H1 : (some (x9_3, x11_5, 1)) = some (r1, r2, r3) := by rw [if_neg (show ¬ (false = true) by decide)] at H; exact H
                                            clear H
                                            have H := H1
                                            clear H1
                                            simp only [Option.some.injEq, Prod.mk.injEq] at H
                                            obtain ⟨rfl, rfl, rfl⟩ := H
                                            have p137 : 0 ≤ (x9_3 : Int) := of_decide_eq_true (by first | (with_reducible assumption) | assumption)
                                            have q137 : x9_3 < (l0.length : Int) := of_decide_eq_true (by first | (with_reducible assumption) | assumption)
                                            obtain ⟨ad137, A137_0, c137_0, e137, hx137_0, hl137_0, hi137_0⟩ := at_L4 HR0.out x9_3 p137 q137
                                            obtain rfl : ad136 = ad137 := (by injection e137)
                                            replace hx137_0 := (HB.out.cell (World.block_lt_of_cell? w _ hx137_0)).trans hx137_0
                                            have HR137_0 := Aside0.mk hi137_0
                                            have HC137_0 := Aside0.mk hl137_0
                                            clear hi137_0 hl137_0
                                            replace p137 := eq_true p137
                                            replace q137 := eq_true q137
                                            have p138 : 0 ≤ (x11_5 : Int) := of_decide_eq_true (by first | (with_reducible assumption) | assumption)
                                            have q138 : x11_5 < ((rd_L4 l0 x9_3).length : Int) := of_decide_eq_true (by first | (with_reducible assumption) | assumption)
                                            obtain ⟨ad138, e138, hx138_0, hx138_1⟩ := at_T43 HR137_0.out x11_5 p138 q138
                                            cases e138
                                            replace hx138_0 := (HB.out.cell (World.block_lt_of_cell? w _ hx138_0)).trans hx138_0
                                            replace hx138_1 := (HB.out.cell (World.block_lt_of_cell? w _ hx138_1)).trans hx138_1
                                            replace p138 := eq_true p138
                                            replace q138 := eq_true q138
                                            go_wp2_with (first | ((with_reducible refine gate_callee (f := 21) rfl ?_); refine goesL_ (some 69) rfl rfl Tryd.func21 (by kernel_rfl) rfl #[.agg #[.int .i64 ((rd_T43 (rd_L4 l0 x9_3) x11_5).f0), .int .i64 ((rd_T43 (rd_L4 l0 x9_3) x11_5).f1)], .int .i64 a1, .int .i64 a2, .int .i64 (l0.length : Int), .int .i64 ((rd_L4 l0 x9_3).length : Int)] rfl (by (try simp only [List.map_toArray, List.map_cons, List.map_nil]); first | done | rfl | (simp only [List.length_drop, List.length_take]; rfl)) ?_; (with_reducible refine (catafalqueref07_May.calls k5 ((rd_T43 (rd_L4 l0 x9_3) x11_5).f0) ((rd_T43 (rd_L4 l0 x9_3) x11_5).f1) a1 a2 (l0.length : Int) ((rd_L4 l0 x9_3).length : Int) false _ A22.out).mono ?_); rintro e w25 ⟨rfl, hb⟩; refine ⟨_, rfl, ?_⟩; have n0_ := Aside0.mk (below_step (by repeat (first | (with_reducible first | exact HB.out | apply below_alloc | apply pw_below_drewN | apply below_drew1) | exact HB.out)) hb); clear HB; have HB := n0_; clear n0_; (try clear hb); (try clear hb2); (try clear hk); (try clear hi)))
                                            go_ret3
                                            exact ⟨by first | rfl | (simp [errW_none, errW_some] <;> rfl) | (simp [*, errW_none, errW_some] <;> rfl), by repeat (first | (with_reducible first | exact HB.out | apply below_alloc | apply pw_below_drewN | apply below_drew1) | exact HB.out)⟩
                                        · rw [if_neg c21] at H
                                          exact absurd H (by simp)
                                      · rw [if_neg c20] at H
                                        exact absurd H (by simp)
                                    · rw [if_neg c19] at H
                                      exact absurd H (by simp)
                                  · rw [if_neg c18] at H
                                    exact absurd H (by simp)
                                · rw [if_neg c17] at H
                                  have c17b0 : decide (x11_5 < ((rd_L4 l0 x9_3).length : Int)) = false := decide_eq_false c17
                                  clear c17
                                  by_cases c26 : 0 ≤ x9_3
                                  · rw [if_pos c26] at H
                                    have c26b0 : decide (0 ≤ x9_3) = true := decide_eq_true c26
                                    clear c26
                                    by_cases c27 : x9_3 < (l0.length : Int)
                                    · rw [if_pos c27] at H
                                      have c27b0 : decide (x9_3 < (l0.length : Int)) = true := decide_eq_true c27
                                      clear c27
                                      obtain ⟨ji28, hji28⟩ : ∃ j_ : Int, (wrap64 (((rd_L4 l0 x9_3).length : Int) - 1)) = j_ := ⟨_, rfl⟩
                                      replace H : (if 0 ≤ (ji28) then (if (ji28) < ((rd_L4 l0 x9_3).length : Int) then (if ((rd_T43 (rd_L4 l0 x9_3) (ji28)).f0) = 10 then (catafalqueref07_Check.l0 k5 l0 a1 a2 (wrap64 (x9_3 + 1))) else (some (x9_3, ji28, 2))) else (none)) else (none)) = some (r1, r2, r3) := by first | (rw [hji28] at H; exact H) | (simp only [hji28] at H ⊢; exact H)
                                      have hji28w : (IntKind.i64.wrap (((rd_L4 l0 x9_3).length : Int) - 1)) = ji28 := (i64_w _).trans hji28
                                      by_cases c29 : 0 ≤ (ji28)
                                      · rw [if_pos c29] at H
                                        have c29b0 : decide (0 ≤ (ji28)) = true := decide_eq_true c29
                                        clear c29
                                        by_cases c30 : (ji28) < ((rd_L4 l0 x9_3).length : Int)
                                        · rw [if_pos c30] at H
                                          have c30b0 : decide ((ji28) < ((rd_L4 l0 x9_3).length : Int)) = true := decide_eq_true c30
                                          clear c30
                                          by_cases c31 : ((rd_T43 (rd_L4 l0 x9_3) (ji28)).f0) = 10
                                          · rw [if_pos c31] at H
                                            have c31b0 : (((rd_T43 (rd_L4 l0 x9_3) (ji28)).f0) == 10) = true := beq_iff_eq.mpr c31
                                            have c31b1 : (((rd_T43 (rd_L4 l0 x9_3) (ji28)).f0) != 10) = false := bne_eq_false_iff_eq.mpr c31
                                            clear c31
                                            have H' := Aside0.mk H
                                            clear H
                                            have p140 : 0 ≤ (x9_3 : Int) := of_decide_eq_true (by first | (with_reducible assumption) | assumption)
                                            have q140 : x9_3 < (l0.length : Int) := of_decide_eq_true (by first | (with_reducible assumption) | assumption)
                                            obtain ⟨ad140, A140_0, c140_0, e140, hx140_0, hl140_0, hi140_0⟩ := at_L4 HR0.out x9_3 p140 q140
                                            obtain rfl : ad136 = ad140 := (by injection e140)
                                            replace hx140_0 := (HB.out.cell (World.block_lt_of_cell? w _ hx140_0)).trans hx140_0
                                            have HR140_0 := Aside0.mk hi140_0
                                            have HC140_0 := Aside0.mk hl140_0
                                            clear hi140_0 hl140_0
                                            replace p140 := eq_true p140
                                            replace q140 := eq_true q140
                                            have p141 : 0 ≤ ((ji28) : Int) := of_decide_eq_true (by first | (with_reducible assumption) | assumption)
                                            have q141 : (ji28) < ((rd_L4 l0 x9_3).length : Int) := of_decide_eq_true (by first | (with_reducible assumption) | assumption)
                                            obtain ⟨ad141, e141, hx141_0, hx141_1⟩ := at_T43 HR140_0.out (ji28) p141 q141
                                            cases e141
                                            replace hx141_0 := (HB.out.cell (World.block_lt_of_cell? w _ hx141_0)).trans hx141_0
                                            replace hx141_1 := (HB.out.cell (World.block_lt_of_cell? w _ hx141_1)).trans hx141_1
                                            replace p141 := eq_true p141
                                            replace q141 := eq_true q141
                                            go_wp2
                                            go_roundg k5
                                            case measure => have := HJ3.out; have := HJ8.out; have := HK3.out; have := HJ13.out; have := HK5.out; omega
                                            case rel => exact ⟨(wrap64 (x9_3 + 1)), (by first | rfl | (simp; done) | (simp [*]; done)), H', ⟨by have := HJ3.out; have := HJ8.out; have := HK3.out; have := HJ13.out; have := HK5.out; omega⟩, ⟨by repeat (first | (with_reducible first | exact HB.out | apply below_alloc | apply pw_below_drewN | apply below_drew1) | exact HB.out)⟩⟩
                                          · rw [if_neg c31] at H
                                            have c31b0 : (((rd_T43 (rd_L4 l0 x9_3) (ji28)).f0) == 10) = false := beq_eq_false_iff_ne.mpr c31
                                            have c31b1 : (((rd_T43 (rd_L4 l0 x9_3) (ji28)).f0) != 10) = true := bne_iff_ne.mpr c31
                                            simp only [Option.some.injEq, Prod.mk.injEq] at H
                                            obtain ⟨rfl, rfl, rfl⟩ := H
                                            have p140 : 0 ≤ (x9_3 : Int) := of_decide_eq_true (by first | (with_reducible assumption) | assumption)
                                            have q140 : x9_3 < (l0.length : Int) := of_decide_eq_true (by first | (with_reducible assumption) | assumption)
                                            obtain ⟨ad140, A140_0, c140_0, e140, hx140_0, hl140_0, hi140_0⟩ := at_L4 HR0.out x9_3 p140 q140
                                            obtain rfl : ad136 = ad140 := (by injection e140)
                                            replace hx140_0 := (HB.out.cell (World.block_lt_of_cell? w _ hx140_0)).trans hx140_0
                                            have HR140_0 := Aside0.mk hi140_0
                                            have HC140_0 := Aside0.mk hl140_0
                                            clear hi140_0 hl140_0
                                            replace p140 := eq_true p140
                                            replace q140 := eq_true q140
                                            have p141 : 0 ≤ ((ji28) : Int) := of_decide_eq_true (by first | (with_reducible assumption) | assumption)
                                            have q141 : (ji28) < ((rd_L4 l0 x9_3).length : Int) := of_decide_eq_true (by first | (with_reducible assumption) | assumption)
                                            obtain ⟨ad141, e141, hx141_0, hx141_1⟩ := at_T43 HR140_0.out (ji28) p141 q141
                                            cases e141
                                            replace hx141_0 := (HB.out.cell (World.block_lt_of_cell? w _ hx141_0)).trans hx141_0
                                            replace hx141_1 := (HB.out.cell (World.block_lt_of_cell? w _ hx141_1)).trans hx141_1
                                            replace p141 := eq_true p141
                                            replace q141 := eq_true q141
                                            go_wp2
                                            go_ret3
                                            exact ⟨by first | rfl | (simp [errW_none, errW_some] <;> rfl) | (simp only [← hji28]; first | rfl | (simp [errW_none, errW_some] <;> rfl)) | (simp [*, errW_none, errW_some] <;> rfl), by repeat (first | (with_reducible first | exact HB.out | apply below_alloc | apply pw_below_drewN | apply below_drew1) | exact HB.out)⟩
                                        · rw [if_neg c30] at H
                                          exact absurd H (by simp)
                                      · rw [if_neg c29] at H
                                        exact absurd H (by simp)
                                    · rw [if_neg c27] at H
                                      exact absurd H (by simp)
                                  · rw [if_neg c26] at H
                                    exact absurd H (by simp)
                    · rw [if_neg c13] at H
                      exact absurd H (by simp)
                  · rw [if_neg c12] at H
                    have c12b0 : decide (x9_3 < (l0.length : Int)) = false := decide_eq_false c12
                    clear c12
                    simp only [Option.some.injEq, Prod.mk.injEq] at H
                    obtain ⟨rfl, rfl, rfl⟩ := H
                    go_wp2
                    go_ret3
                    exact ⟨by first | rfl | (simp [errW_none, errW_some] <;> rfl) | (simp [*, errW_none, errW_some] <;> rfl), by repeat (first | (with_reducible first | exact HB.out | apply below_alloc | apply pw_below_drewN | apply below_drew1) | exact HB.out)⟩

-- NOT PRINTED: function 3 (catafalquelaw07_CodeChecks)

end Go.Proofs.YtnfodfacilmgeaaDoor.PCodeChecks
