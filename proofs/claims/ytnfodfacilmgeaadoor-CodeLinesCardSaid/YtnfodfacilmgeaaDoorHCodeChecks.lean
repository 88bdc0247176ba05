/- CodeChecks: the walk. No condition. -/
import Derived.Test.YtnfodfacilmgeaaDoorCod5
import Derived.Test.YtnfodfacilmgeaaDoorChkP
import Derived.Test.YtnfodfacilmgeaaDoorXOpen
namespace Go.Proofs.YtnfodfacilmgeaaDoor.Code
open Go Go.RowKit Go.Proofs Go.Proofs.YtnfodfacilmgeaaDoorW.PrintWords Go.Proofs.YtnfodfacilmgeaaDoorW.PrintLast Go.Proofs.YtnfodfacilmgeaaDoorW.PrintMore
set_option linter.unusedVariables false
set_option linter.unusedSimpArgs false
open PCodeChecks
theorem insAt_of {W : World} {A : Option Addr} {l : List S43} (h : Kd.C k43 W A l.length l) : InsAt W A (l.map pr) := by
  intro i h0 h1
  rw [List.length_map] at h1
  obtain ⟨ad, e, c0, c1⟩ := at_T43 h i h0 h1
  have hi : i.toNat < l.length := by omega
  have e2 : (l.map pr).getD i.toNat (0, 0) = ((rd_T43 l i).f0, (rd_T43 l i).f1) := by
    rw [show rd_T43 l i = rd_T43 l (i.toNat : Int) by rw [Int.toNat_of_nonneg h0]]
    rw [List.getD_eq_getElem?_getD, List.getElem?_eq_getElem (by rw [List.length_map]; exact hi)]
    exact rdpr l i.toNat hi
  exact ⟨ad, e, by rw [e2]; exact c0, by rw [e2]; exact c1⟩
theorem progsAt_of {W : World} {A : Option Addr} {ps : List (List S43)} (h : Kd.C (Kd.slice 43 k43) W A ps.length ps) : ProgsAt W A (ps.map (·.map pr)) := by
  intro i hi
  rw [List.length_map] at hi
  obtain ⟨ad, A0, c0, e, h1, h2, h3⟩ := at_L4 h (i : Int) (by omega) (by omega)
  have e2 : (ps.map (·.map pr)).getD i [] = (rd_L4 ps (i : Int)).map pr := by
    rw [rd4, List.getD_eq_getElem?_getD, List.getElem?_map, List.getD_eq_getElem?_getD, List.getElem?_eq_getElem hi]; rfl
  refine ⟨ad, A0, c0, e, ?_, ?_, ?_⟩
  · rw [e2, List.length_map]; rw [Int.toNat_natCast] at h1; exact h1
  · rw [e2, List.length_map]; exact h2
  · rw [e2]; exact insAt_of h3
theorem opIns : Go.Proofs.YtnfodfacilmgeaaDoorX.Opens Tryd.prog 43 k43 (fun x => (Lit.int .i64 x.f0).wf = true ∧ (Lit.int .i64 x.f1).wf = true) :=
  Go.Proofs.YtnfodfacilmgeaaDoorX.Opens.imp (Go.Proofs.YtnfodfacilmgeaaDoorX.Opens.struct (fun x : S43 => (x.f0, x.f1)) (fun p => ⟨p.1, p.2⟩) (fun _ => rfl) Tryd.underlying43 (by kernel_rfl) (Go.Proofs.YtnfodfacilmgeaaDoorX.OpensF.cons rfl (by kernel_rfl) (Go.Proofs.YtnfodfacilmgeaaDoorX.Opens.int Tryd.underlying3) (Go.Proofs.YtnfodfacilmgeaaDoorX.OpensF.one rfl (by kernel_rfl) (Go.Proofs.YtnfodfacilmgeaaDoorX.Opens.int Tryd.underlying3)))) (fun a h => by simpa using h)
def longB (ps : List (List S43)) (k : Nat) : Prop := ∀ j, j < k → (ps.getD j []).length ≤ 100
set_option maxHeartbeats 4000000 in
theorem checks_calls (w : World) (A : Option Addr) (c : Nat) (ps : List (List S43)) (hr : Kd.C (Kd.slice 43 k43) w A ps.length ps) (hc : ps.length ≤ c) {X0 : Prop} (_ : X0) (sems : Int) (_ : (Lit.int .i64 sems).wf = true) (boxes : Int) (_ : (Lit.int .i64 boxes).wf = true) (ht : Pows w) :
    Calls Tryd.prog 3 #[.slice A ps.length c, .int .i64 sems, .int .i64 boxes] w fun e w' => e = .returned (.bool true) ∧ Below w.heap.size w w' := by
  have HT := Aside0.mk ht
  have HR := Aside0.mk hr
  have HC := Aside0.mk hc
  clear ht hr hc
  by_cases h20 : 20 < (ps.length : Int)
  · have f1 := decide_eq_true h20
    clear h20
    go_enter Tryd.func3, Tryd.ntmps3
    go_wp2_with (go_at_call 8; (with_reducible refine (shown_calls _ HT.out).mono ?_); rintro e w1 ⟨rfl, hb⟩; have HB1 := Aside0.mk hb; clear hb)
    go_ret
    exact ⟨rfl, HB1.out⟩
  have f1 := decide_eq_false h20
  have H20 := Aside0.mk (show ps.length ≤ 20 by omega)
  clear h20
  go_enter Tryd.func3, Tryd.ntmps3
  go_wp2_with (go_at_call 8; (with_reducible refine (shown_calls _ HT.out).mono ?_); rintro e w1 ⟨rfl, hb⟩; have HB1 := Aside0.mk hb; clear hb)
  go_loopg [8] (ps.length + 1) (fun kq v8 w' => ∃ (k : Nat), v8 = .int .i64 (k : Int) ∧ Aside0 (k + kq = ps.length + 1 ∧ k ≤ ps.length) ∧ Aside0 (longB ps k) ∧ Aside0 (Below w.heap.size w w'))
  case atStart => exact ⟨0, rfl, ⟨by omega⟩, ⟨fun j hj => absurd hj (Nat.not_lt_zero j)⟩, HB1⟩
  case round =>
    clear HB1
    obtain ⟨k, rfl, HK, HL, HB⟩ := hrel
    by_cases hk : k < ps.length
    · have c1 : decide ((k : Int) < (ps.length : Int)) = true := decide_eq_true (by omega)
      have c1n : decide (k < ps.length) = true := decide_eq_true (by omega)
      obtain ⟨ad, A0, c0, rfl, a0, a1, a2⟩ := at_L4 HR.out (k : Int) (by omega) (by omega)
      rw [Int.toNat_natCast] at a0
      replace a0 := (HB.out.cell (World.block_lt_of_cell? w _ a0)).trans a0
      have HP := Aside0.mk (rd4 ps k)
      generalize rd_L4 ps (k : Int) = p at a0 HP
      clear a1 a2
      have p1 : (0 : Int) ≤ (k : Int) := by omega
      have p2 : (k : Int) < (ps.length : Int) := by omega
      have w1 : wrap64 ((k : Int) + 1) = ((k + 1 : Nat) : Int) := by have := H20.out; unfold wrap64; omega
      by_cases h100 : 100 < (p.length : Int)
      · have f2 := decide_eq_true h100
        clear h100 hk
        go_wp2
        go_ret
        exact ⟨rfl, HB.out⟩
      · have f2 := decide_eq_false h100
        have HL2 := Aside0.mk (show longB ps (k + 1) by
          intro j hj
          rcases Nat.lt_succ_iff_lt_or_eq.mp hj with h | h
          · exact HL.out j h
          · subst h; rw [← HP.out]; omega)
        have HKL := Aside0.mk hk
        clear h100 hk
        go_wp2
        go_roundg (ps.length - k)
        case measure => have := HK.out; omega
        case rel => exact ⟨k + 1, by rw [w1], ⟨by have := HK.out; have := HKL.out; omega⟩, HL2, HB⟩
    · have c1 : decide ((k : Int) < (ps.length : Int)) = false := decide_eq_false (by omega)
      have c1n : decide (k < ps.length) = false := decide_eq_false (by omega)
      have HLL := Aside0.mk (show ∀ p ∈ ps, p.length ≤ 100 by
        intro p hp
        obtain ⟨j, hj, rfl⟩ := List.getElem_of_mem hp
        have := HL.out j (by have := HK.out; omega)
        rw [List.getD_eq_getElem?_getD, List.getElem?_eq_getElem hj] at this
        exact this)
      have HP := Aside0.mk (progsAt_of (Kd.C_below HR.out HB.out))
      obtain ⟨r1, r2, r3, hR⟩ : ∃ r1 r2 r3, checkF sems boxes (ps.map (·.map pr)) = (r1, r2, r3) := ⟨_, _, _, rfl⟩
      have HE := Aside0.mk hR
      have HF := Aside0.mk ((check_f ps sems boxes H20.out HLL.out 1100 (Nat.le_refl _)).trans (congrArg some hR))
      have hck := check_calls A c (ps.map (·.map pr)) sems boxes wr HP.out (by have := H20.out; rw [List.length_map]; omega) (by
        intro p hp
        obtain ⟨q, hq, rfl⟩ := List.mem_map.mp hp
        have := HLL.out q hq
        rw [List.length_map]; omega) r1 r2 r3 hR
      rw [List.length_map] at hck
      have HCK := Aside0.mk hck
      clear hk hR hck
      go_wp2_with (first
        | (go_at_call 9; (with_reducible refine HCK.out.mono ?_); rintro e w1 ⟨rfl, hb⟩; have HB2 := Aside0.mk (below_step HB.out hb); clear hb)
        | (go_at_call 10; (with_reducible refine (catafalqueref07_Check.calls 1102 A c ps sems boxes r1 r2 r3 _ (Kd.C_below HR.out HB2.out) HC.out HF.out).mono ?_); rintro e w2 ⟨rfl, hb⟩; have HB3 := Aside0.mk (below_step HB2.out hb); clear hb))
      go_ret
      exact ⟨rfl, HB3.out⟩
end Go.Proofs.YtnfodfacilmgeaaDoor.Code
