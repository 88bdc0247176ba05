/- code.Name, code.one, in plain words. No condition. -/
import Derived.Test.YtnfodfacilmgeaaDoorBld
import Derived.Test.YtnfodfacilmgeaaDoorPCox1
import Derived.Test.YtnfodfacilmgeaaDoorWWords
import Derived.Test.YtnfodfacilmgeaaDoorWLast
import Derived.Test.YtnfodfacilmgeaaDoorWMore
import Derived.WalkLawsBesides
import Derived.Lib.ItoaLen
namespace Go.Proofs.YtnfodfacilmgeaaDoor.Code
open Go Go.RowKit Go.Proofs Go.Proofs.YtnfodfacilmgeaaDoorW.PrintWords Go.Proofs.YtnfodfacilmgeaaDoorW.PrintLast Go.Proofs.YtnfodfacilmgeaaDoorW.PrintMore
set_option linter.unusedVariables false
set_option linter.unusedSimpArgs false
def bs (l : List UInt8) : ByteArray := ⟨l.toArray⟩
def nmL : List (List UInt8) := [[], [97, 100, 100], [121, 105, 101, 108, 100], [115, 112, 97, 119, 110], [97, 99, 113, 117, 105, 114, 101], [114, 101, 108, 101, 97, 115, 101], [115, 101, 110, 100], [114, 101, 99, 118], [115, 108, 101, 101, 112], [108, 111, 111, 112], [101, 120, 105, 116]]
def nmB (op : Int) : List UInt8 := if 0 ≤ op ∧ op < 11 then nmL.getD op.toNat [] else []
theorem name_f (op : Int) : PCo.code_Name.f op = some (bs (nmB op)) := by
  have hn : PCo.code_names.f = some (nmL.map bs) := rfl
  unfold PCo.code_Name.f nmB
  rw [hn, Option.bind_some]
  by_cases h0 : op ≥ 0
  · rw [if_pos h0]
    by_cases h1 : op < 11
    · rw [if_pos (by simpa [nmL] using h1), if_pos h0, if_pos ⟨h0, h1⟩]
      congr 1
      unfold rdOf
      rw [List.getD_eq_getElem?_getD, List.getElem?_map, List.getD_eq_getElem?_getD]
      cases nmL[op.toNat]? <;> rfl
    · rw [if_neg (by simpa [nmL] using h1), if_neg (by omega)]; rfl
  · rw [if_neg h0, if_neg (by omega)]; rfl
theorem name_calls (op : Int) (w : World) : Calls Tryd.prog 11 #[.int .i64 op] w fun e w' => e = .returned (.string (bs (nmB op))) ∧ Below w.heap.size w w' :=
  PCo.code_Name.calls op _ w (name_f op)
def ItoaOk (w : World) (n : Int) : Prop := ∀ w', Below w.heap.size w w' → Calls Tryd.prog 31 #[.int .i64 n] w' fun e w'' => e = .returned (.string (bs (Lib.itoa n))) ∧ Below w'.heap.size w' w''
theorem ItoaOk.at {w w' : World} {n : Int} (h : ItoaOk w n) (hb : Below w.heap.size w w') : Calls Tryd.prog 31 #[.int .i64 n] w' fun e w'' => e = .returned (.string (bs (Lib.itoa n))) ∧ Below w'.heap.size w' w'' := h w' hb
theorem ItoaOk.below {w w' : World} {n : Int} (h : ItoaOk w n) (hb : Below w.heap.size w w') : ItoaOk w' n := fun w'' hb' => h w'' (below_step hb hb')
def nmQ (op : Int) : List UInt8 := if nmB op = [] then [63] else nmB op
def bare (op a : Int) : Prop := a = 0 ∧ (op = 2 ∨ op = 10)
instance (op a : Int) : Decidable (bare op a) := by unfold bare; exact inferInstance
def oneB (op a : Int) : List UInt8 := nmQ op ++ if bare op a then [] else 32 :: Lib.itoa a
theorem bs_append (l m : List UInt8) : bs l ++ bs m = bs (l ++ m) := by
  unfold bs
  apply ByteArray.ext
  simp [ByteArray.data_append]
theorem bs_three (s : List UInt8) (k : List UInt8) : bs s ++ (⟨#[32]⟩ : ByteArray) ++ bs k = bs (s ++ 32 :: k) := by
  rw [show (⟨#[32]⟩ : ByteArray) = bs [32] from rfl, bs_append, bs_append, List.append_assoc]; rfl
theorem nmB_le (op : Int) : (nmB op).length ≤ 7 := by
  unfold nmB
  split
  next h =>
    have : op.toNat < 11 := by omega
    revert this
    generalize op.toNat = k
    revert k
    decide
  next => exact Nat.zero_le _
theorem bs_size (l : List UInt8) : (bs l).size = l.length := by simp [bs, ByteArray.size]
set_option maxHeartbeats 2000000 in
theorem one_calls (op a : Int) (w : World) (h : ItoaOk w a) (ha0 : -9223372036854775808 ≤ a) (ha1 : a ≤ 9223372036854775807) : Calls Tryd.prog 24 #[.agg #[.int .i64 op, .int .i64 a]] w fun e w' => e = .returned (.string (bs (oneB op a))) ∧ Below w.heap.size w w' := by
  have HN := Aside0.mk (name_calls op (w.alloc (.cells #[.int .i64 op, .int .i64 a] 43)))
  have H := Aside0.mk h
  clear h
  have hi := Lib.itoa_length_le a ha0 ha1
  have hz1 : ¬ 9223372036854775807 < 2 + (bs (Lib.itoa a)).size := by rw [bs_size]; omega
  have hl := nmB_le op
  obtain ⟨s, hs⟩ : ∃ s, nmB op = s := ⟨_, rfl⟩
  rw [hs] at HN hl
  have hz2 : ¬ 9223372036854775807 < (bs s).size + 1 := by rw [bs_size]; omega
  have hz3 : ¬ 9223372036854775807 < (bs s).size + 1 + (bs (Lib.itoa a)).size := by rw [bs_size, bs_size]; omega
  clear hi hl ha0 ha1
  have HQ := Aside0.mk (show nmQ op = if s = [] then [63] else s by unfold nmQ; rw [hs])
  clear hs
  by_cases hs : s = []
  · subst hs
    have HQ2 := Aside0.mk (show nmQ op = [63] by rw [HQ.out, if_pos rfl])
    have e1 : (bs []).toList.isEmpty = true := by rw [Lib.toList_data]; rfl
    by_cases ha : a = 0
    · have ea : (a == 0) = true := by rw [ha]; rfl
      have hx := ha
      by_cases h2 : op = 2
      · have eo : (op == 2) = true := by rw [h2]; rfl
        have HBR := Aside0.mk (show bare op a from ⟨ha, .inl h2⟩)
        clear h2 ha
        clear hx
        go_enter Tryd.func24, Tryd.ntmps24
        go_wp2_with (first
          | (go_at_call 11; (with_reducible refine HN.out.mono ?_); rintro e w1 ⟨rfl, hb⟩; have c0 := pw_cell_below hb (show World.cell? _ ⟨w.heap.size, 0, none⟩ = some (.int .i64 op) by go_simp); have c1 := pw_cell_below hb (show World.cell? _ ⟨w.heap.size, 1, none⟩ = some (.int .i64 a) by go_simp); obtain ⟨b, hbb⟩ : ∃ b, w.heap.size = b := ⟨_, rfl⟩; have HB := Aside0.mk (below_then (below_alloc (Below.refl _ _) (.cells #[.int .i64 op, .int .i64 a] 43)) (by simp) hb); rw [hbb] at c0 c1; clear hb HN)
          | (go_at_call 31; (with_reducible refine (ItoaOk.at H.out HB.out).mono ?_); rintro e w2 ⟨rfl, hb⟩; have HB2 := Aside0.mk (below_step HB.out hb); clear hb))
        go_ret
        refine ⟨?_, HB.out⟩
        rw [show oneB op a = nmQ op from by unfold oneB; rw [if_pos HBR.out]; exact List.append_nil _, HQ2.out]; rfl
      · have eo : (op == 2) = false := beq_eq_false_iff_ne.mpr h2
        by_cases h3 : op = 10
        · have ep : (op == 10) = true := by rw [h3]; rfl
          have HBR := Aside0.mk (show bare op a from ⟨ha, .inr h3⟩)
          clear h2 h3 ha
          clear hx
          go_enter Tryd.func24, Tryd.ntmps24
          go_wp2_with (first
            | (go_at_call 11; (with_reducible refine HN.out.mono ?_); rintro e w1 ⟨rfl, hb⟩; have c0 := pw_cell_below hb (show World.cell? _ ⟨w.heap.size, 0, none⟩ = some (.int .i64 op) by go_simp); have c1 := pw_cell_below hb (show World.cell? _ ⟨w.heap.size, 1, none⟩ = some (.int .i64 a) by go_simp); obtain ⟨b, hbb⟩ : ∃ b, w.heap.size = b := ⟨_, rfl⟩; have HB := Aside0.mk (below_then (below_alloc (Below.refl _ _) (.cells #[.int .i64 op, .int .i64 a] 43)) (by simp) hb); rw [hbb] at c0 c1; clear hb HN)
            | (go_at_call 31; (with_reducible refine (ItoaOk.at H.out HB.out).mono ?_); rintro e w2 ⟨rfl, hb⟩; have HB2 := Aside0.mk (below_step HB.out hb); clear hb))
          go_ret
          refine ⟨?_, HB.out⟩
          rw [show oneB op a = nmQ op from by unfold oneB; rw [if_pos HBR.out]; exact List.append_nil _, HQ2.out]; rfl
        · have ep : (op == 10) = false := beq_eq_false_iff_ne.mpr h3
          have HBR := Aside0.mk (show ¬ bare op a from fun h => h.2.elim h2 h3)
          clear h2 h3 ha
          clear hx
          go_enter Tryd.func24, Tryd.ntmps24
          go_wp2_with (first
            | (go_at_call 11; (with_reducible refine HN.out.mono ?_); rintro e w1 ⟨rfl, hb⟩; have c0 := pw_cell_below hb (show World.cell? _ ⟨w.heap.size, 0, none⟩ = some (.int .i64 op) by go_simp); have c1 := pw_cell_below hb (show World.cell? _ ⟨w.heap.size, 1, none⟩ = some (.int .i64 a) by go_simp); obtain ⟨b, hbb⟩ : ∃ b, w.heap.size = b := ⟨_, rfl⟩; have HB := Aside0.mk (below_then (below_alloc (Below.refl _ _) (.cells #[.int .i64 op, .int .i64 a] 43)) (by simp) hb); rw [hbb] at c0 c1; clear hb HN)
            | (go_at_call 31; (with_reducible refine (ItoaOk.at H.out HB.out).mono ?_); rintro e w2 ⟨rfl, hb⟩; have HB2 := Aside0.mk (below_step HB.out hb); clear hb))
          go_ret
          refine ⟨?_, HB2.out⟩
          rw [show oneB op a = nmQ op ++ 32 :: Lib.itoa a from by unfold oneB; rw [if_neg HBR.out], HQ2.out, ← bs_three]; rfl
    · have ea : (a == 0) = false := beq_eq_false_iff_ne.mpr ha
      have HBR := Aside0.mk (show ¬ bare op a from fun h => ha h.1)
      have hx := ha
      clear ha
      clear hx
      go_enter Tryd.func24, Tryd.ntmps24
      go_wp2_with (first
        | (go_at_call 11; (with_reducible refine HN.out.mono ?_); rintro e w1 ⟨rfl, hb⟩; have c0 := pw_cell_below hb (show World.cell? _ ⟨w.heap.size, 0, none⟩ = some (.int .i64 op) by go_simp); have c1 := pw_cell_below hb (show World.cell? _ ⟨w.heap.size, 1, none⟩ = some (.int .i64 a) by go_simp); obtain ⟨b, hbb⟩ : ∃ b, w.heap.size = b := ⟨_, rfl⟩; have HB := Aside0.mk (below_then (below_alloc (Below.refl _ _) (.cells #[.int .i64 op, .int .i64 a] 43)) (by simp) hb); rw [hbb] at c0 c1; clear hb HN)
        | (go_at_call 31; (with_reducible refine (ItoaOk.at H.out HB.out).mono ?_); rintro e w2 ⟨rfl, hb⟩; have HB2 := Aside0.mk (below_step HB.out hb); clear hb))
      go_ret
      refine ⟨?_, HB2.out⟩
      rw [show oneB op a = nmQ op ++ 32 :: Lib.itoa a from by unfold oneB; rw [if_neg HBR.out], HQ2.out, ← bs_three]; rfl
  · have e1 : (bs s).toList.isEmpty = false := by
      cases s with
      | nil => exact absurd rfl hs
      | cons x l => rw [Lib.toList_data]; rfl
    have HQ2 := Aside0.mk (show nmQ op = s by rw [HQ.out, if_neg hs])
    clear hs
    by_cases ha : a = 0
    · have ea : (a == 0) = true := by rw [ha]; rfl
      have hx := ha
      by_cases h2 : op = 2
      · have eo : (op == 2) = true := by rw [h2]; rfl
        have HBR := Aside0.mk (show bare op a from ⟨ha, .inl h2⟩)
        clear h2 ha
        clear hx
        go_enter Tryd.func24, Tryd.ntmps24
        go_wp2_with (first
          | (go_at_call 11; (with_reducible refine HN.out.mono ?_); rintro e w1 ⟨rfl, hb⟩; have c0 := pw_cell_below hb (show World.cell? _ ⟨w.heap.size, 0, none⟩ = some (.int .i64 op) by go_simp); have c1 := pw_cell_below hb (show World.cell? _ ⟨w.heap.size, 1, none⟩ = some (.int .i64 a) by go_simp); obtain ⟨b, hbb⟩ : ∃ b, w.heap.size = b := ⟨_, rfl⟩; have HB := Aside0.mk (below_then (below_alloc (Below.refl _ _) (.cells #[.int .i64 op, .int .i64 a] 43)) (by simp) hb); rw [hbb] at c0 c1; clear hb HN)
          | (go_at_call 31; (with_reducible refine (ItoaOk.at H.out HB.out).mono ?_); rintro e w2 ⟨rfl, hb⟩; have HB2 := Aside0.mk (below_step HB.out hb); clear hb))
        go_ret
        refine ⟨?_, HB.out⟩
        rw [show oneB op a = nmQ op from by unfold oneB; rw [if_pos HBR.out]; exact List.append_nil _, HQ2.out]; rfl
      · have eo : (op == 2) = false := beq_eq_false_iff_ne.mpr h2
        by_cases h3 : op = 10
        · have ep : (op == 10) = true := by rw [h3]; rfl
          have HBR := Aside0.mk (show bare op a from ⟨ha, .inr h3⟩)
          clear h2 h3 ha
          clear hx
          go_enter Tryd.func24, Tryd.ntmps24
          go_wp2_with (first
            | (go_at_call 11; (with_reducible refine HN.out.mono ?_); rintro e w1 ⟨rfl, hb⟩; have c0 := pw_cell_below hb (show World.cell? _ ⟨w.heap.size, 0, none⟩ = some (.int .i64 op) by go_simp); have c1 := pw_cell_below hb (show World.cell? _ ⟨w.heap.size, 1, none⟩ = some (.int .i64 a) by go_simp); obtain ⟨b, hbb⟩ : ∃ b, w.heap.size = b := ⟨_, rfl⟩; have HB := Aside0.mk (below_then (below_alloc (Below.refl _ _) (.cells #[.int .i64 op, .int .i64 a] 43)) (by simp) hb); rw [hbb] at c0 c1; clear hb HN)
            | (go_at_call 31; (with_reducible refine (ItoaOk.at H.out HB.out).mono ?_); rintro e w2 ⟨rfl, hb⟩; have HB2 := Aside0.mk (below_step HB.out hb); clear hb))
          go_ret
          refine ⟨?_, HB.out⟩
          rw [show oneB op a = nmQ op from by unfold oneB; rw [if_pos HBR.out]; exact List.append_nil _, HQ2.out]; rfl
        · have ep : (op == 10) = false := beq_eq_false_iff_ne.mpr h3
          have HBR := Aside0.mk (show ¬ bare op a from fun h => h.2.elim h2 h3)
          clear h2 h3 ha
          clear hx
          go_enter Tryd.func24, Tryd.ntmps24
          go_wp2_with (first
            | (go_at_call 11; (with_reducible refine HN.out.mono ?_); rintro e w1 ⟨rfl, hb⟩; have c0 := pw_cell_below hb (show World.cell? _ ⟨w.heap.size, 0, none⟩ = some (.int .i64 op) by go_simp); have c1 := pw_cell_below hb (show World.cell? _ ⟨w.heap.size, 1, none⟩ = some (.int .i64 a) by go_simp); obtain ⟨b, hbb⟩ : ∃ b, w.heap.size = b := ⟨_, rfl⟩; have HB := Aside0.mk (below_then (below_alloc (Below.refl _ _) (.cells #[.int .i64 op, .int .i64 a] 43)) (by simp) hb); rw [hbb] at c0 c1; clear hb HN)
            | (go_at_call 31; (with_reducible refine (ItoaOk.at H.out HB.out).mono ?_); rintro e w2 ⟨rfl, hb⟩; have HB2 := Aside0.mk (below_step HB.out hb); clear hb))
          go_ret
          refine ⟨?_, HB2.out⟩
          rw [show oneB op a = nmQ op ++ 32 :: Lib.itoa a from by unfold oneB; rw [if_neg HBR.out], HQ2.out, ← bs_three]; rfl
    · have ea : (a == 0) = false := beq_eq_false_iff_ne.mpr ha
      have HBR := Aside0.mk (show ¬ bare op a from fun h => ha h.1)
      have hx := ha
      clear ha
      clear hx
      go_enter Tryd.func24, Tryd.ntmps24
      go_wp2_with (first
        | (go_at_call 11; (with_reducible refine HN.out.mono ?_); rintro e w1 ⟨rfl, hb⟩; have c0 := pw_cell_below hb (show World.cell? _ ⟨w.heap.size, 0, none⟩ = some (.int .i64 op) by go_simp); have c1 := pw_cell_below hb (show World.cell? _ ⟨w.heap.size, 1, none⟩ = some (.int .i64 a) by go_simp); obtain ⟨b, hbb⟩ : ∃ b, w.heap.size = b := ⟨_, rfl⟩; have HB := Aside0.mk (below_then (below_alloc (Below.refl _ _) (.cells #[.int .i64 op, .int .i64 a] 43)) (by simp) hb); rw [hbb] at c0 c1; clear hb HN)
        | (go_at_call 31; (with_reducible refine (ItoaOk.at H.out HB.out).mono ?_); rintro e w2 ⟨rfl, hb⟩; have HB2 := Aside0.mk (below_step HB.out hb); clear hb))
      go_ret
      refine ⟨?_, HB2.out⟩
      rw [show oneB op a = nmQ op ++ 32 :: Lib.itoa a from by unfold oneB; rw [if_neg HBR.out], HQ2.out, ← bs_three]; rfl
end Go.Proofs.YtnfodfacilmgeaaDoor.Code
