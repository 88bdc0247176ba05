/- The head of all statements. -/
import Derived.Test.YtnfodfacilmgeaaDoorCod4
namespace Go.Proofs.YtnfodfacilmgeaaDoor.Code
open Go Go.RowKit Go.Proofs Go.Proofs.YtnfodfacilmgeaaDoorW.PrintWords Go.Proofs.YtnfodfacilmgeaaDoorW.PrintLast Go.Proofs.YtnfodfacilmgeaaDoorW.PrintMore
set_option linter.unusedVariables false
set_option linter.unusedSimpArgs false
theorem insAt_of_cells {W : World} {b : Nat} {l : List (Int × Int)} (h : ∀ i : Nat, (hi : i < l.length) → W.cell? ⟨b, i * 2, none⟩ = some (.int .i64 (l[i]).1) ∧ W.cell? ⟨b, i * 2 + 1, none⟩ = some (.int .i64 (l[i]).2)) : InsAt W (some ⟨b, 0, none⟩) l := by
  intro i h0 h1
  have hi : i.toNat < l.length := by omega
  obtain ⟨c0, c1⟩ := h i.toNat hi
  refine ⟨⟨b, 0, none⟩, rfl, ?_, ?_⟩
  · rw [List.getD_eq_getElem?_getD, List.getElem?_eq_getElem hi]
    rw [Go.WideShapes.add_plain, Nat.zero_add]; exact c0
  · rw [List.getD_eq_getElem?_getD, List.getElem?_eq_getElem hi]
    rw [Go.WideShapes.add_plain, Nat.zero_add]; exact c1
theorem bs_toList (l : List UInt8) : (bs l).toList = l := by rw [Lib.toList_data]; rfl
theorem shown_text : textB [(1, 3), (10, 0)] = [97, 100, 100, 32, 51, 10, 101, 120, 105, 116, 10] := by decide +kernel
theorem shown_check : checkF 0 0 [[(1, 3), (10, 0)]] = (0, 0, 0) := by decide +kernel
theorem shown_name : nmB 9 = [108, 111, 111, 112] := by decide +kernel
set_option maxHeartbeats 2000000 in
theorem shown_calls (w : World) (ht : Pows w) : Calls Tryd.prog 8 #[] w fun e w' => e = .returned (.bool true) ∧ Below w.heap.size w w' := by
  have HT := Aside0.mk ht
  clear ht
  obtain ⟨W0, hW0⟩ : ∃ W0, W0 = ((w.alloc (.cells #[.int .i64 1, .int .i64 3, .int .i64 10, .int .i64 0] 43)).alloc (.cells #[.slice (some ⟨w.heap.size, 0, none⟩) 2 2] 24)) := ⟨_, rfl⟩
  have hI : InsAt W0 (some ⟨w.heap.size, 0, none⟩) [(1, 3), (10, 0)] := by
    refine insAt_of_cells fun i hi => ?_
    match i, hi with
    | 0, _ => rw [hW0]; constructor <;> go_simp
    | 1, _ => rw [hW0]; constructor <;> go_simp
  have hP : ProgsAt W0 (some ⟨w.heap.size + 1, 0, none⟩) [[(1, 3), (10, 0)]] := by
    intro i hi
    match i, hi with
    | 0, _ => exact ⟨⟨w.heap.size + 1, 0, none⟩, some ⟨w.heap.size, 0, none⟩, 2, rfl, by rw [hW0]; go_simp, Nat.le_refl _, hI⟩
  have hB : Below w.heap.size w W0 := by rw [hW0]; exact below_alloc (below_alloc (Below.refl _ _) _) _
  have HC := Aside0.mk (check_calls (some ⟨w.heap.size + 1, 0, none⟩) 1 [[(1, 3), (10, 0)]] 0 0 W0 hP (by decide) (by decide) 0 0 0 shown_check)
  have HI := Aside0.mk hI
  have HB := Aside0.mk hB
  clear hI hP hB
  rw [hW0] at HC
  have t1 := bs_toList [97, 100, 100, 32, 51, 10, 101, 120, 105, 116, 10]
  have t2 := bs_toList [108, 111, 111, 112]
  go_enter Tryd.func8, Tryd.ntmps8
  go_wp2_with (first
    | (go_at_call 9; refine HC.out.mono ?_; rintro e w1 ⟨rfl, hb⟩; have HB1 := Aside0.mk (show Below w.heap.size w w1 from below_step HB.out (by rw [hW0]; exact hb)); have HI1 := Aside0.mk (HI.out.below (show Below W0.heap.size W0 w1 by rw [hW0]; exact hb)); clear hb)
    | (go_at_call 12; refine (text_calls (some ⟨w.heap.size, 0, none⟩) 2 [(1, 3), (10, 0)] _ HI1.out (by decide) (by decide) (by unfold Wf; decide) (HT.out.below HB1.out)).mono ?_; rintro e w2 ⟨rfl, hb⟩; have HB2 := Aside0.mk (below_step HB1.out hb); clear hb; rw [shown_text])
    | (go_at_call 11; refine (name_calls 9 _).mono ?_; rintro e w3 ⟨rfl, hb⟩; have HB3 := Aside0.mk (below_step HB2.out hb); clear hb; rw [shown_name]))
  go_ret
  exact ⟨rfl, HB3.out⟩
end Go.Proofs.YtnfodfacilmgeaaDoor.Code
