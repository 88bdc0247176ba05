-- Written by wip/tools/xprint.py over the kit's print; hand-proved contracts inlined.
import Derived.Test.YtjfaafnngloblaaPDistFirstx0
import Derived.Test.YtjfaafnngloblaaPDistFirstx2
import Derived.Test.YtjfaafnngloblaaPDistFirstx3
import Derived.Test.YtjfaafnngloblaaPDistFirstx4
namespace Go.Proofs.Ytjfaafnngloblaa.PDistFirst
open Go.RowKit Go.Proofs.YtjfaafnngloblaaW.PrintWords Go.Proofs.YtjfaafnngloblaaW.PrintLast Go.Proofs.YtjfaafnngloblaaW.PrintMore
attribute [local go_sem] max2_int min2_int max_two min_two max_three min_three max_four min_four   -- for this text's walks alone
set_option linter.unusedVariables false
set_option linter.unusedSimpArgs false

/-! ### catafalquelaw02_DistFirst: function 7 -/
mutual
def catafalquelaw02_DistFirst.j0 : Nat → List (S40) → Int → Bool → Int → Bool → Option (Bool)
  | 0, _, _, _, _, _ => none
  | k + 1, x0, x1, x5, x6, x28 => if x28 = true then (some x5) else ((dist_Near.f k x0 x1).bind fun t193 => (catafalquelaw02_DistFirst.l0 k x0 x1 x5 x6 t193 3 0))
def catafalquelaw02_DistFirst.l0 : Nat → List (S40) → Int → Bool → Int → List Int → Int → Int → Option (Bool)
  | 0, _, _, _, _, _, _, _ => none
  | k + 1, x0, x1, x5, x6, x7, x8, x9 => if x9 < x6 then (if x9 = x1 then (catafalquelaw02_DistFirst.l0 k x0 x1 x5 x6 x7 x8 (wrap64 (x9 + 1))) else ((dist_Far.f k x0 x1 x9).bind fun t196 => (catafalquelaw02_DistFirst.l0 k x0 x1 x5 x6 x7 (mn x8 t196) (wrap64 (x9 + 1))))) else (if x5 = true then (if (x7.length : Int) = (wrap64 (x6 - 1)) then (if 0 < (x7.length : Int) then ((dist_Far.f k x0 x1 (rd x7 0)).bind fun t198 => (if t198 = x8 then (some (decide (x8 ≥ 1))) else (some false))) else (none)) else (some false)) else (some false))
end
def catafalquelaw02_DistFirst.f (k : Nat) (l0 : List (S40)) (a1 : Int) : Option (Bool) := (catafalquelaw02_shown.f k).bind fun t191 => ((catafalqueref02_Procs.f k l0).bind fun t192 => (if (l0.length : Int) > 64 then (catafalquelaw02_DistFirst.j0 k l0 a1 t191 t192 true) else (if a1 < 0 then (catafalquelaw02_DistFirst.j0 k l0 a1 t191 t192 true) else (if a1 ≥ t192 then (catafalquelaw02_DistFirst.j0 k l0 a1 t191 t192 true) else (catafalquelaw02_DistFirst.j0 k l0 a1 t191 t192 (decide (t192 < 2)))))))
theorem catafalquelaw02_DistFirst.mono_l : ∀ k, (∀ y0 y1 y2 y3 y4, LeO (catafalquelaw02_DistFirst.j0 k y0 y1 y2 y3 y4) (catafalquelaw02_DistFirst.j0 (k + 1) y0 y1 y2 y3 y4)) ∧ (∀ y0 y1 y2 y3 y4 y5 y6, LeO (catafalquelaw02_DistFirst.l0 k y0 y1 y2 y3 y4 y5 y6) (catafalquelaw02_DistFirst.l0 (k + 1) y0 y1 y2 y3 y4 y5 y6))
  | 0 => ⟨fun _ _ _ _ _ r h => by simp [catafalquelaw02_DistFirst.j0] at h, fun _ _ _ _ _ _ _ r h => by simp [catafalquelaw02_DistFirst.l0] at h⟩
  | k + 1 => by
    obtain ⟨ih0, ih1⟩ := catafalquelaw02_DistFirst.mono_l k
    refine ⟨?_, ?_⟩
    · intro y0 y1 y2 y3 y4
      unfold catafalquelaw02_DistFirst.j0
      repeat' first
      | (with_reducible exact ih0 _ _ _ _ _)
      | (with_reducible exact ih1 _ _ _ _ _ _ _)
      | (with_reducible exact catafalquelaw02_shown.mono _)
      | (with_reducible exact catafalqueref02_Procs.mono _ _)
      | (with_reducible exact dist_Far.mono _ _ _ _)
      | (with_reducible exact dist_Near.mono _ _ _)
      | (with_reducible exact LeO.refl _)
      | (with_reducible exact LeO.none _)
      | (with_reducible refine LeO.ite ?_ ?_)
      | (with_reducible refine LeO.bind ?_ (fun _ => ?_))
      | exact ih0 _ _ _ _ _
      | exact ih1 _ _ _ _ _ _ _
      | exact catafalquelaw02_shown.mono _
      | exact catafalqueref02_Procs.mono _ _
      | exact dist_Far.mono _ _ _ _
      | exact dist_Near.mono _ _ _
      | exact LeO.none _
      | refine LeO.ite ?_ ?_
      | refine LeO.bind ?_ (fun _ => ?_)
    · intro y0 y1 y2 y3 y4 y5 y6
      unfold catafalquelaw02_DistFirst.l0
      repeat' first
      | (with_reducible exact ih0 _ _ _ _ _)
      | (with_reducible exact ih1 _ _ _ _ _ _ _)
      | (with_reducible exact catafalquelaw02_shown.mono _)
      | (with_reducible exact catafalqueref02_Procs.mono _ _)
      | (with_reducible exact dist_Far.mono _ _ _ _)
      | (with_reducible exact dist_Near.mono _ _ _)
      | (with_reducible exact LeO.refl _)
      | (with_reducible exact LeO.none _)
      | (with_reducible refine LeO.ite ?_ ?_)
      | (with_reducible refine LeO.bind ?_ (fun _ => ?_))
      | exact ih0 _ _ _ _ _
      | exact ih1 _ _ _ _ _ _ _
      | exact catafalquelaw02_shown.mono _
      | exact catafalqueref02_Procs.mono _ _
      | exact dist_Far.mono _ _ _ _
      | exact dist_Near.mono _ _ _
      | exact LeO.none _
      | refine LeO.ite ?_ ?_
      | refine LeO.bind ?_ (fun _ => ?_)
theorem catafalquelaw02_DistFirst.mono : ∀ a0 a1 k, LeO (catafalquelaw02_DistFirst.f k a0 a1) (catafalquelaw02_DistFirst.f (k + 1) a0 a1) := by
  intro a0 a1 k
  obtain ⟨ih0, ih1⟩ := catafalquelaw02_DistFirst.mono_l k
  unfold catafalquelaw02_DistFirst.f
  repeat' first
      | (with_reducible exact ih0 _ _ _ _ _)
      | (with_reducible exact ih1 _ _ _ _ _ _ _)
      | (with_reducible exact catafalquelaw02_shown.mono _)
      | (with_reducible exact catafalqueref02_Procs.mono _ _)
      | (with_reducible exact dist_Far.mono _ _ _ _)
      | (with_reducible exact dist_Near.mono _ _ _)
      | (with_reducible exact LeO.refl _)
      | (with_reducible exact LeO.none _)
      | (with_reducible refine LeO.ite ?_ ?_)
      | (with_reducible refine LeO.bind ?_ (fun _ => ?_))
      | exact ih0 _ _ _ _ _
      | exact ih1 _ _ _ _ _ _ _
      | exact catafalquelaw02_shown.mono _
      | exact catafalqueref02_Procs.mono _ _
      | exact dist_Far.mono _ _ _ _
      | exact dist_Near.mono _ _ _
      | exact LeO.none _
      | refine LeO.ite ?_ ?_
      | refine LeO.bind ?_ (fun _ => ?_)
set_option maxHeartbeats 8000000 in
set_option maxRecDepth 100000 in
theorem catafalquelaw02_DistFirst.calls (k : Nat) (A0 : Option Addr) (c0 : Nat) (l0 : List (S40)) (a1 : Int) (r : Bool) (w : World) (hr0 : Kd.C k40 w A0 l0.length l0) (hc0 : l0.length ≤ c0) (hr_ : Aside0 (r = true)) (h : catafalquelaw02_DistFirst.f k l0 a1 = some r) :
    Calls Try.prog 7 #[.slice A0 l0.length c0, .int .i64 a1] w fun e w' => e = .returned (.bool r) ∧ Below w.heap.size w w' := by
  have HR0 := Aside0.mk hr0
  have HC0 := Aside0.mk hc0
  clear hr0 hc0
  have HB := Aside0.mk (Below.refl w.heap.size w)
  have H : ((catafalquelaw02_shown.f k).bind fun t191 => ((catafalqueref02_Procs.f k l0).bind fun t192 => (if (l0.length : Int) > 64 then (catafalquelaw02_DistFirst.j0 k l0 a1 t191 t192 true) else (if a1 < 0 then (catafalquelaw02_DistFirst.j0 k l0 a1 t191 t192 true) else (if a1 ≥ t192 then (catafalquelaw02_DistFirst.j0 k l0 a1 t191 t192 true) else (catafalquelaw02_DistFirst.j0 k l0 a1 t191 t192 (decide (t192 < 2)))))))) = some r := h
  clear h
  replace H := Option.bind_eq_some_iff.mp H
  obtain ⟨t191, A30, H⟩ := H
  replace H : ((catafalqueref02_Procs.f k l0).bind fun t192 => (if (l0.length : Int) > 64 then (catafalquelaw02_DistFirst.j0 k l0 a1 t191 t192 true) else (if a1 < 0 then (catafalquelaw02_DistFirst.j0 k l0 a1 t191 t192 true) else (if a1 ≥ t192 then (catafalquelaw02_DistFirst.j0 k l0 a1 t191 t192 true) else (catafalquelaw02_DistFirst.j0 k l0 a1 t191 t192 (decide (t192 < 2))))))) = some r := H
  have A3 := Aside0.mk A30
  clear A30
  replace H := Option.bind_eq_some_iff.mp H
  obtain ⟨t192, A40, H⟩ := H
  replace H : (if (l0.length : Int) > 64 then (catafalquelaw02_DistFirst.j0 k l0 a1 t191 t192 true) else (if a1 < 0 then (catafalquelaw02_DistFirst.j0 k l0 a1 t191 t192 true) else (if a1 ≥ t192 then (catafalquelaw02_DistFirst.j0 k l0 a1 t191 t192 true) else (catafalquelaw02_DistFirst.j0 k l0 a1 t191 t192 (decide (t192 < 2)))))) = some r := H
  have A4 := Aside0.mk A40
  clear A40
  have HC5 := Aside0.mk H
  clear H
  go_enter Try.func7, Try.ntmps7
  go_upto_region 3 with (first | ((with_reducible refine gate_callee (f := 10) rfl ?_); refine goesL_ (some 10) rfl rfl Try.func10 (by kernel_rfl) rfl #[] rfl (by (try simp only [List.map_toArray, List.map_cons, List.map_nil]); first | done | rfl | (simp only [List.length_drop, List.length_take]; rfl)) ?_; (with_reducible refine (catafalquelaw02_shown.calls k  t191 _ A3.out).mono ?_); rintro e w6 ⟨rfl, hb⟩; refine ⟨_, rfl, ?_⟩; have n0_ := Aside0.mk (below_step (by repeat (first | (with_reducible first | exact HB.out | apply below_alloc | apply pw_below_drewN | apply below_drew1) | exact HB.out)) hb); clear HB; have HB := n0_; clear n0_; (try clear hb); (try clear hb2); (try clear hk); (try clear hi)) | ((with_reducible refine gate_callee (f := 18) rfl ?_); refine goesL_ (some 12) rfl rfl Try.func18 (by kernel_rfl) rfl #[.slice A0 l0.length c0] rfl (by (try simp only [List.map_toArray, List.map_cons, List.map_nil]); first | done | rfl | (simp only [List.length_drop, List.length_take]; rfl)) ?_; (with_reducible refine (catafalqueref02_Procs.calls k _ _ l0 t192 _ ?side1 ?side2 A4.out).mono ?_); (case side1 => repeat (first | exact (Kd.C_below HR0.out HB.out) | (with_reducible refine Kd.C_alloc ?_ _) | (with_reducible refine Kd.C_drewN ?_ _) | (with_reducible refine Kd.C_drew ?_))); (case side2 => exact HC0.out); rintro e w7 ⟨rfl, hb⟩; refine ⟨_, rfl, ?_⟩; have n0_ := Aside0.mk (below_step (by repeat (first | (with_reducible first | exact HB.out | apply below_alloc | apply pw_below_drewN | apply below_drew1) | exact HB.out)) hb); clear HB; have HB := n0_; clear n0_; (try clear hb); (try clear hb2); (try clear hk); (try clear hi)))
  (try simp only [Act.put, List.setIfInBounds_toArray, List.set_cons_zero, List.set_cons_succ])
  go_cut [28] (fun v28 wc => ∃ (kq : Nat) (x28_4 : Bool), v28 = .bool x28_4 ∧ Aside0 (catafalquelaw02_DistFirst.j0 kq l0 a1 t191 t192 x28_4 = some r) ∧ Aside0 (kq ≤ k) ∧ Aside0 (Below w.heap.size w wc))
  case first =>
    have H := HC5.out
    clear HC5
    by_cases c8 : (l0.length : Int) > 64
    · rw [if_pos c8] at H
      have c8b0 : decide (64 < (l0.length : Int)) = true := decide_eq_true c8
      have c8b1 : decide (64 < l0.length) = true := decide_eq_true (by omega)
      clear c8
      (first | rw [c8b0] | (simp only [i64_w, i32_w]; rw [c8b0]) | skip)
      have H' := Aside0.mk H
      clear H
      go_wp2
      go_meet
      case rel => exact ⟨_, (true), (by first | rfl | (simp; done) | (simp [*]; done)), H', ⟨by first | omega | exact Nat.le_refl _⟩, ⟨by repeat (first | (with_reducible first | exact HB.out | apply below_alloc | apply pw_below_drewN | apply below_drew1) | exact HB.out)⟩⟩
    · rw [if_neg c8] at H
      have c8b0 : decide (64 < (l0.length : Int)) = false := decide_eq_false c8
      have c8b1 : decide (64 < l0.length) = false := decide_eq_false (by omega)
      clear c8
      (first | rw [c8b0] | (simp only [i64_w, i32_w]; rw [c8b0]) | skip)
      by_cases c9 : a1 < 0
      · rw [if_pos c9] at H
        have c9b0 : decide (a1 < 0) = true := decide_eq_true c9
        clear c9
        have H' := Aside0.mk H
        clear H
        go_wp2
        go_meet
        case rel => exact ⟨_, (true), (by first | rfl | (simp; done) | (simp [*]; done)), H', ⟨by first | omega | exact Nat.le_refl _⟩, ⟨by repeat (first | (with_reducible first | exact HB.out | apply below_alloc | apply pw_below_drewN | apply below_drew1) | exact HB.out)⟩⟩
      · rw [if_neg c9] at H
        have c9b0 : decide (a1 < 0) = false := decide_eq_false c9
        clear c9
        by_cases c10 : a1 ≥ t192
        · rw [if_pos c10] at H
          have c10b0 : decide (t192 ≤ a1) = true := decide_eq_true c10
          clear c10
          have H' := Aside0.mk H
          clear H
          go_wp2
          go_meet
          case rel => exact ⟨_, (true), (by first | rfl | (simp; done) | (simp [*]; done)), H', ⟨by first | omega | exact Nat.le_refl _⟩, ⟨by repeat (first | (with_reducible first | exact HB.out | apply below_alloc | apply pw_below_drewN | apply below_drew1) | exact HB.out)⟩⟩
        · rw [if_neg c10] at H
          have c10b0 : decide (t192 ≤ a1) = false := decide_eq_false c10
          clear c10
          have H' := Aside0.mk H
          clear H
          go_wp2
          go_meet
          case rel => exact ⟨_, (decide (t192 < 2)), (by first | rfl | (simp; done) | (simp [*]; done)), H', ⟨by first | omega | exact Nat.le_refl _⟩, ⟨by repeat (first | (with_reducible first | exact HB.out | apply below_alloc | apply pw_below_drewN | apply below_drew1) | exact HB.out)⟩⟩
  case rest =>
    clear HC5
    try clear c1
    try clear p2
    try clear c7
    try clear c8
    try clear c8b0
    try clear c8b1
    try clear c9
    try clear c9b0
    try clear c10
    try clear c10b0
    obtain ⟨kq, x28_4, rfl, HA, HJ4, HB⟩ := hcut
    cases kq with
    | zero => exact absurd HA.out (by simp [catafalquelaw02_DistFirst.j0])
    | succ kj4 =>
      have H := HA.out
      clear HA
      simp only [catafalquelaw02_DistFirst.j0] at H
      by_cases c11 : x28_4 = true
      · subst c11
        have H1 : (some t191) = some r := by rw [if_pos rfl] at H; exact H
        clear H
        have H := H1
        clear H1
        obtain rfl := Option.some.inj H
        go_wp2
        go_ret
        exact ⟨by first | rfl | (simp [errW_none, errW_some] <;> rfl) | (simp [*, errW_none, errW_some] <;> rfl), by repeat (first | (with_reducible first | exact HB.out | apply below_alloc | apply pw_below_drewN | apply below_drew1) | exact HB.out)⟩
      · replace c11 := Bool.eq_false_iff.mpr c11
        subst c11
        have H1 : ((dist_Near.f kj4 l0 a1).bind fun t193 => (catafalquelaw02_DistFirst.l0 kj4 l0 a1 t191 t192 t193 3 0)) = some r := by rw [if_neg (show ¬ (false = true) by decide)] at H; exact H
        clear H
        have H := H1
        clear H1
        replace H := Option.bind_eq_some_iff.mp H
        obtain ⟨t193, A120, H⟩ := H
        replace H : (catafalquelaw02_DistFirst.l0 kj4 l0 a1 t191 t192 t193 3 0) = some r := H
        have A12 := Aside0.mk A120
        clear A120
        have H' := Aside0.mk H
        clear H
        go_wp2_with (first | ((with_reducible refine gate_callee (f := 16) rfl ?_); refine goesL_ (some 32) rfl rfl Try.func16 (by kernel_rfl) rfl #[.slice A0 l0.length c0, .int .i64 a1] rfl (by (try simp only [List.map_toArray, List.map_cons, List.map_nil]); first | done | rfl | (simp only [List.length_drop, List.length_take]; rfl)) ?_; (with_reducible refine (dist_Near.calls kj4 _ _ l0 a1 t193 _ ?side1 ?side2 A12.out).mono ?_); (case side1 => repeat (first | exact (Kd.C_below HR0.out HB.out) | (with_reducible refine Kd.C_alloc ?_ _) | (with_reducible refine Kd.C_drewN ?_ _) | (with_reducible refine Kd.C_drew ?_))); (case side2 => exact HC0.out); rintro e w13 ⟨v194, rfl, ho0, hb⟩; refine ⟨_, rfl, ?_⟩; have n0_ := Aside0.mk (Kd.R_lower ho0 (below_size (by repeat (first | (with_reducible first | exact HB.out | apply below_alloc | apply pw_below_drewN | apply below_drew1) | exact HB.out)))); have n1_ := Aside0.mk (below_step (by repeat (first | (with_reducible first | exact HB.out | apply below_alloc | apply pw_below_drewN | apply below_drew1) | exact HB.out)) hb); clear HB; have HO195 := n0_; have HB := n1_; clear n0_ n1_; (try clear hb); (try clear hb2); (try clear hk); (try clear hi); (try clear ho0)))
        go_loopg [8, 9] kj4 (fun kq v8 v9 w' => ∃ (x8_2 : Int) (x9_2 : Int), v8 = .int .i64 x8_2 ∧ v9 = .int .i64 x9_2 ∧ Aside0 (catafalquelaw02_DistFirst.l0 kq l0 a1 t191 t192 t193 x8_2 x9_2 = some r) ∧ Aside0 (kq ≤ kj4) ∧ Aside0 (Kd.R (Kd.int .i64) 3 w' w.heap.size (fun _ => True) v194 t193) ∧ Aside0 (Below w.heap.size w w'))
        case atStart => exact ⟨(3), (0), (by first | rfl | (simp; done) | (simp [*]; done)), (by first | rfl | (simp; done) | (simp [*]; done)), H', ⟨Nat.le_refl _⟩, ⟨by (with_reducible repeat (first | apply Kd.R_alloc | apply Kd.R_drewN | apply Kd.R_drew)); exact HO195.out⟩, ⟨by repeat (first | (with_reducible first | exact HB.out | apply below_alloc | apply pw_below_drewN | apply below_drew1) | exact HB.out)⟩⟩
        case round =>
          clear H'
          try clear c1
          try clear p2
          try clear c7
          try clear c8
          try clear c8b0
          try clear c8b1
          try clear c9
          try clear c9b0
          try clear c10
          try clear c10b0
          try clear c11
          try clear p2
          obtain ⟨x8_2, x9_2, rfl, rfl, HA, HK2, HO_7, HB⟩ := hrel
          cases gk with
          | zero => exact absurd HA.out (by simp [catafalquelaw02_DistFirst.l0])
          | succ k2 =>
            have H := HA.out
            clear HA
            simp only [catafalquelaw02_DistFirst.l0] at H
            by_cases c14 : x9_2 < t192
            · rw [if_pos c14] at H
              have c14b0 : decide (x9_2 < t192) = true := decide_eq_true c14
              clear c14
              by_cases c15 : x9_2 = a1
              · rw [if_pos c15] at H
                have c15b0 : (x9_2 == a1) = true := beq_iff_eq.mpr c15
                have c15b1 : (x9_2 != a1) = false := bne_eq_false_iff_eq.mpr c15
                clear c15
                have H' := Aside0.mk H
                clear H
                go_wp2
                go_roundg k2
                case measure => have := HJ4.out; have := HK2.out; omega
                case rel => exact ⟨(x8_2), (wrap64 (x9_2 + 1)), (by first | rfl | (simp; done) | (simp [*]; done)), (by first | rfl | (simp; done) | (simp [*]; done)), H', ⟨by have := HJ4.out; have := HK2.out; omega⟩, ⟨by (with_reducible repeat (first | apply Kd.R_alloc | apply Kd.R_drewN | apply Kd.R_drew)); exact HO_7.out⟩, ⟨by repeat (first | (with_reducible first | exact HB.out | apply below_alloc | apply pw_below_drewN | apply below_drew1) | exact HB.out)⟩⟩
              · rw [if_neg c15] at H
                have c15b0 : (x9_2 == a1) = false := beq_eq_false_iff_ne.mpr c15
                have c15b1 : (x9_2 != a1) = true := bne_iff_ne.mpr c15
                replace H := Option.bind_eq_some_iff.mp H
                obtain ⟨t196, A160, H⟩ := H
                replace H : (catafalquelaw02_DistFirst.l0 k2 l0 a1 t191 t192 t193 (mn x8_2 t196) (wrap64 (x9_2 + 1))) = some r := H
                have A16 := Aside0.mk A160
                clear A160
                obtain ⟨ji17, hji17⟩ : ∃ j_ : Int, (mn x8_2 t196) = j_ := ⟨_, rfl⟩
                replace H : (catafalquelaw02_DistFirst.l0 k2 l0 a1 t191 t192 t193 ji17 (wrap64 (x9_2 + 1))) = some r := by first | (rw [hji17] at H; exact H) | (simp only [hji17] at H ⊢; exact H)
                (try rw [hji17] at A16)
                have hji17_ : (if t196 < x8_2 then t196 else x8_2) = ji17 := hji17
                have H' := Aside0.mk H
                clear H
                go_wp2_with (first | ((with_reducible refine gate_callee (f := 11) rfl ?_); refine goesL_ (some 45) rfl rfl Try.func11 (by kernel_rfl) rfl #[.slice A0 l0.length c0, .int .i64 a1, .int .i64 x9_2] rfl (by (try simp only [List.map_toArray, List.map_cons, List.map_nil]); first | done | rfl | (simp only [List.length_drop, List.length_take]; rfl)) ?_; (with_reducible refine (dist_Far.calls k2 _ _ l0 a1 x9_2 t196 _ ?side1 ?side2 A16.out).mono ?_); (case side1 => repeat (first | exact (Kd.C_below HR0.out HB.out) | (with_reducible refine Kd.C_alloc ?_ _) | (with_reducible refine Kd.C_drewN ?_ _) | (with_reducible refine Kd.C_drew ?_))); (case side2 => exact HC0.out); rintro e w18 ⟨rfl, hb⟩; refine ⟨_, rfl, ?_⟩; have n0_ := Aside0.mk (Kd.R_below (by (with_reducible repeat (first | apply Kd.R_alloc | apply Kd.R_drewN | apply Kd.R_drew)); exact HO_7.out) hb); have n1_ := Aside0.mk (below_step (by repeat (first | (with_reducible first | exact HB.out | apply below_alloc | apply pw_below_drewN | apply below_drew1) | exact HB.out)) hb); clear HO_7; clear HB; have HO_7 := n0_; have HB := n1_; clear n0_ n1_; (try clear hb); (try clear hb2); (try clear hk); (try clear hi)))
                go_roundg k2
                case measure => have := HJ4.out; have := HK2.out; omega
                case rel => exact ⟨(ji17), (wrap64 (x9_2 + 1)), (by first | rfl | (simp; done) | (simp only [← hji17] <;> (first | rfl | simp)) | (simp [*]; done)), (by first | rfl | (simp; done) | (simp [*]; done)), H', ⟨by have := HJ4.out; have := HK2.out; omega⟩, ⟨by (with_reducible repeat (first | apply Kd.R_alloc | apply Kd.R_drewN | apply Kd.R_drew)); exact HO_7.out⟩, ⟨by repeat (first | (with_reducible first | exact HB.out | apply below_alloc | apply pw_below_drewN | apply below_drew1) | exact HB.out)⟩⟩
            · rw [if_neg c14] at H
              have c14b0 : decide (x9_2 < t192) = false := decide_eq_false c14
              clear c14
              by_cases c19 : t191 = true
              · subst c19
                have H1 : (if (t193.length : Int) = (wrap64 (t192 - 1)) then (if 0 < (t193.length : Int) then ((dist_Far.f k2 l0 a1 (rd t193 0)).bind fun t198 => (if t198 = x8_2 then (some (decide (x8_2 ≥ 1))) else (some false))) else (none)) else (some false)) = some r := by rw [if_pos rfl] at H; exact H
                clear H
                have H := H1
                clear H1
                by_cases c20 : (t193.length : Int) = (wrap64 (t192 - 1))
                · rw [if_pos c20] at H
                  have c20b0 : ((t193.length : Int) == (wrap64 (t192 - 1))) = true := beq_iff_eq.mpr c20
                  have c20b1 : ((t193.length : Int) != (wrap64 (t192 - 1))) = false := bne_eq_false_iff_eq.mpr c20
                  clear c20
                  by_cases c21 : 0 < (t193.length : Int)
                  · rw [if_pos c21] at H
                    have c21b0 : decide (0 < (t193.length : Int)) = true := decide_eq_true c21
                    have c21b1 : decide (0 < t193.length) = true := decide_eq_true (by omega)
                    clear c21
                    replace H := Option.bind_eq_some_iff.mp H
                    obtain ⟨t198, A220, H⟩ := H
                    replace H : (if t198 = x8_2 then (some (decide (x8_2 ≥ 1))) else (some false)) = some r := H
                    have A22 := Aside0.mk A220
                    clear A220
                    by_cases c23 : t198 = x8_2
                    · rw [if_pos c23] at H
                      have c23b0 : (t198 == x8_2) = true := beq_iff_eq.mpr c23
                      have c23b1 : (t198 != x8_2) = false := bne_eq_false_iff_eq.mpr c23
                      clear c23
                      obtain rfl := Option.some.inj H
                      obtain ⟨Ao24, co24, eo24⟩ := Kd.R_slice HO_7.out
                      subst eo24
                      have p197 : 0 ≤ (0 : Int) := (by omega)
                      have q197 : 0 < (t193.length : Int) := of_decide_eq_true (by first | (with_reducible assumption) | assumption)
                      obtain ⟨ad197, e197, hx197_0⟩ := Kd.at_int (Kd.R_reads' HO_7.out).2.2 0 p197 q197
                      cases e197
                      have qi197 : (0 < t193.length) = True := eq_true (by omega)
                      (try rw [show ((0 : Int)).toNat = 0 from rfl] at hx197_0)
                      (try rw [Addr.add_zero'] at hx197_0)
                      replace p197 := eq_true p197
                      replace q197 := eq_true q197
                      go_wp2_with (first | (go_at_call 11; (with_reducible refine (dist_Far.calls k2 _ _ l0 a1 (rd t193 0) t198 _ ?side1 ?side2 A22.out).mono ?_); (case side1 => repeat (first | exact (Kd.C_below HR0.out HB.out) | (with_reducible refine Kd.C_alloc ?_ _) | (with_reducible refine Kd.C_drewN ?_ _) | (with_reducible refine Kd.C_drew ?_))); (case side2 => exact HC0.out); rintro e w25 ⟨rfl, hb⟩; have n0_ := Aside0.mk (Kd.R_below (by (with_reducible repeat (first | apply Kd.R_alloc | apply Kd.R_drewN | apply Kd.R_drew)); exact HO_7.out) hb); have n1_ := Aside0.mk (below_step (by repeat (first | (with_reducible first | exact HB.out | apply below_alloc | apply pw_below_drewN | apply below_drew1) | exact HB.out)) hb); clear HO_7; clear HB; have HO_7 := n0_; have HB := n1_; clear n0_ n1_; (try clear hb); (try clear hb2); (try clear hk); (try clear hi)))
                      go_ret
                      exact ⟨by first | rfl | (simp [errW_none, errW_some] <;> rfl) | (simp [*, errW_none, errW_some] <;> rfl), by repeat (first | (with_reducible first | exact HB.out | apply below_alloc | apply pw_below_drewN | apply below_drew1) | exact HB.out)⟩
                    · rw [if_neg c23] at H
                      have c23b0 : (t198 == x8_2) = false := beq_eq_false_iff_ne.mpr c23
                      have c23b1 : (t198 != x8_2) = true := bne_iff_ne.mpr c23
                      exact absurd ((Option.some.inj H).trans hr_.out) (by decide)
                  · rw [if_neg c21] at H
                    exact absurd H (by simp)
                · rw [if_neg c20] at H
                  have c20b0 : ((t193.length : Int) == (wrap64 (t192 - 1))) = false := beq_eq_false_iff_ne.mpr c20
                  have c20b1 : ((t193.length : Int) != (wrap64 (t192 - 1))) = true := bne_iff_ne.mpr c20
                  exact absurd ((Option.some.inj H).trans hr_.out) (by decide)
              · replace c19 := Bool.eq_false_iff.mpr c19
                subst c19
                have H1 : (some false) = some r := by rw [if_neg (show ¬ (false = true) by decide)] at H; exact H
                clear H
                have H := H1
                clear H1
                exact absurd ((Option.some.inj H).trans hr_.out) (by decide)

end Go.Proofs.Ytjfaafnngloblaa.PDistFirst
