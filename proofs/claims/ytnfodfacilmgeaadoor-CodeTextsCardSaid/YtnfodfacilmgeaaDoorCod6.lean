/- code.read, in plain words. No condition. -/
import Derived.Test.YtnfodfacilmgeaaDoorCod5
import Derived.Test.YtnfodfacilmgeaaDoorCut
import Derived.Test.YtnfodfacilmgeaaDoorAtoi
import Derived.Lib.AtoiOr
import Derived.Lib.AtoiErrMem
import Derived.Deep.RegionWith
namespace Go.Proofs.YtnfodfacilmgeaaDoor.Code
open Go Go.RowKit Go.Proofs Go.Proofs.YtnfodfacilmgeaaDoorW.PrintWords Go.Proofs.YtnfodfacilmgeaaDoorW.PrintLast Go.Proofs.YtnfodfacilmgeaaDoorW.PrintMore
set_option linter.unusedVariables false
set_option linter.unusedSimpArgs false
/-- What the library's variables hold. -/
structure Fx (W : World) : Prop where
  pow : Pows W
  ml : ∃ m, W.cell? ⟨0, 0, none⟩ = some (.int .i64 m)
  es : ∃ v, W.cell? ⟨1, 0, none⟩ = some v ∧ (v = .nilIface ∨ ∃ te pe, v = .iface te pe)
  er : ∃ v, W.cell? ⟨2, 0, none⟩ = some v ∧ (v = .nilIface ∨ ∃ te pe, v = .iface te pe)
theorem Fx.below {W W' : World} (h : Fx W) (hb : Below W.heap.size W W') : Fx W' := by
  obtain ⟨h1, ⟨m, h2⟩, ⟨v, h3, h4⟩, ⟨u, h5, h6⟩⟩ := h
  exact ⟨h1.below hb, ⟨m, pw_cell_below hb h2⟩, ⟨v, pw_cell_below hb h3, h4⟩, ⟨u, pw_cell_below hb h5, h6⟩⟩
def cutB (s : List UInt8) (c : UInt8) : List UInt8 × List UInt8 × Bool := Lib.cut s [c]
theorem cut_calls (s : List UInt8) (c : UInt8) (w : World) (h : Fx w) (hs : s.length ≤ 100000) :
    Calls Tryd.prog 26 #[.string (bs s), .string (bs [c])] w fun e w' => e = .returned (.tuple #[.string (bs (cutB s c).1), .string (bs (cutB s c).2.1), .bool (cutB s c).2.2]) ∧ Below w.heap.size w w' := by
  obtain ⟨m, hm⟩ := h.ml
  refine (Tryd.strings_Cut (bs s) (bs [c]) m w (by rw [bs_size]; omega) hm).mono ?_
  rintro e w' ⟨rfl, n, rfl⟩
  exact ⟨rfl, pw_below_drewN (Below.refl _ _) n⟩
def atoiV (l : List UInt8) : Int := match Lib.atoiAll l with | .ok v => v | .range => Lib.atoiSat l | _ => 0
theorem atoiV_bound (l : List UInt8) : -9223372036854775808 ≤ atoiV l ∧ atoiV l ≤ 9223372036854775807 := by
  unfold atoiV
  split
  next v h =>
    unfold Lib.atoiAll at h
    split at h
    · cases h
    · simp only at h
      split at h
      · cases h
      · cases h
      · split at h
        · cases h
        · split at h
          · cases h
          · injection h with h
            split at h <;> omega
  next => unfold Lib.atoiSat; split <;> omega
  next => omega
theorem atoi_calls (s : List UInt8) (w : World) (h : Fx w) (hs : s.length ≤ 100000) :
    Calls Tryd.prog 33 #[.string (bs s)] w fun e w' => ∃ ev : Value, e = .returned (.tuple #[.int .i64 (atoiV s), ev]) ∧ Below w.heap.size w w' := by
  have e0 : (bs s).data.toList = s := rfl
  rcases ha : Lib.atoiAll s with v | _ | _
  · have hv : atoiV s = v := by unfold atoiV; rw [ha]
    refine (Any.strconv_Atoi_ok Tryd.laysC172 (bs s) (by rw [bs_size]; omega) v ha w).mono ?_
    rintro e w' ⟨rfl, hw⟩
    refine ⟨_, by rw [hv], ?_⟩
    rcases hw with rfl | ⟨t, rfl⟩
    · exact Below.refl _ _
    · exact Lib.bytesWorld_below _ _ _
  · have hv : atoiV s = 0 := by unfold atoiV; rw [ha]
    obtain ⟨ev, h1, h2⟩ := h.es
    refine (Any.strconv_Atoi_syntax Tryd.laysC172 (bs s) (by rw [bs_size]; omega) ha ev w h1 h2).mono ?_
    rintro e w' ⟨N, rfl, -, -, hb⟩
    exact ⟨_, by rw [hv], hb⟩
  · have hv : atoiV s = Lib.atoiSat s := by unfold atoiV; rw [ha]
    obtain ⟨ev, h1, h2⟩ := h.er
    refine (Any.strconv_Atoi_range Tryd.laysC172 (bs s) (by rw [bs_size]; omega) ha ev w h1 h2).mono ?_
    rintro e w' ⟨N, rfl, -, -, hb⟩
    exact ⟨_, by rw [hv]; rfl, hb⟩
theorem names_calls' (w : World) : Calls Tryd.prog 22 #[] w fun e w' => ∃ g c, e = .returned (.slice (some ⟨g, 0, none⟩) 11 c) ∧ (∀ j, j < 11 → w'.cell? ⟨g, j, none⟩ = some (.string (bs (nmL.getD j [])))) ∧ Below w.heap.size w w' := by
  refine (PCo.code_names.calls (nmL.map bs) w rfl).mono ?_
  rintro e w' ⟨v, rfl, hR, hb⟩
  have hR0 := hR
  obtain ⟨-, inner, ho, hp⟩ := hR0
  obtain ⟨g, c, rfl⟩ := Joins.ownsRow_form ho (by decide)
  refine ⟨g, c, rfl, fun j hj => ?_, hb⟩
  have hC := (Kd.R_reads' hR).2.2
  obtain ⟨ad, cs, e, _, hK, hc0⟩ := Kd.C_get hC (bs []) (j : Int) (by omega) (by show (j : Int) < ((nmL.map bs).length : Int); show (j : Int) < 11; omega)
  cases e
  have hc : ∀ i u, cs[i]? = some u → w'.cell? ((⟨g, 0, none⟩ : Addr).add ((j : Int).toNat * 1 + i)) = some u := hc0
  have hcs : cs = [.string (rdOf (bs []) (nmL.map bs) (j : Int))] := hK
  have h1 := hc 0 _ (by rw [hcs]; rfl)
  rw [Go.WideShapes.add_plain, Int.toNat_natCast] at h1
  rw [show (0 : Nat) + (j * 1 + 0) = j by omega] at h1
  rw [h1]
  congr 2
  unfold rdOf
  rw [Int.toNat_natCast, List.getD_eq_getElem?_getD, List.getElem?_map, List.getD_eq_getElem?_getD]
  cases nmL[j]? <;> rfl
def opOf (s : List UInt8) : Int := Lib.idxOfS (nmL.map bs) (bs s)
theorem index_names (g c : Nat) (x : List UInt8) (w : World) (h : ∀ j, j < 11 → w.cell? ⟨g, j, none⟩ = some (.string (bs (nmL.getD j [])))) :
    Calls Tryd.prog 34 #[.slice (some ⟨g, 0, none⟩) 11 c, .string (bs x)] w fun e w' => e = .returned (.int .i64 (opOf x)) ∧ w' = w := by
  have := Tryd.slices_Index_string g 0 11 c (nmL.map bs) (bs x) w (by decide) (by decide) (by
    intro j hj
    have hj' : j < 11 := hj
    rw [Nat.zero_add, h j hj']
    congr 2
    rw [List.getD_eq_getElem?_getD, List.getD_eq_getElem?_getD, List.getElem?_map]
    cases nmL[j]? <;> rfl)
  exact this
def readF (s : List UInt8) : (Int × Int) × Bool :=
  ((opOf (cutB s 32).1, atoiV (cutB s 32).2.1), decide ((cutB s 32).1 ≠ [] ∧ 0 < opOf (cutB s 32).1 ∧ oneB (opOf (cutB s 32).1) (atoiV (cutB s 32).2.1) = s))
theorem cutB_le (s : List UInt8) (c : UInt8) : (cutB s c).1.length ≤ s.length ∧ (cutB s c).2.1.length ≤ s.length := by
  unfold cutB Lib.cut
  split
  · exact ⟨by rw [List.length_take]; omega, by rw [List.length_drop]; omega⟩
  · exact ⟨Nat.le_refl _, Nat.zero_le _⟩
set_option maxHeartbeats 4000000 in
theorem read_calls (s : List UInt8) (w : World) (h : Fx w) (hs : s.length ≤ 100000) :
    Calls Tryd.prog 27 #[.string (bs s)] w fun e w' => e = .returned (.tuple #[.agg #[.int .i64 (readF s).1.1, .int .i64 (readF s).1.2], .bool (readF s).2]) ∧ Below w.heap.size w w' := by
  have HF := Aside0.mk h
  have HS := Aside0.mk hs
  clear h hs
  obtain ⟨nm, arg, ok, hcut⟩ : ∃ a b c, cutB s 32 = (a, b, c) := ⟨_, _, _, rfl⟩
  obtain ⟨op, hop⟩ : ∃ x, opOf nm = x := ⟨_, rfl⟩
  obtain ⟨a, hat⟩ : ∃ x, atoiV arg = x := ⟨_, rfl⟩
  have HA := Aside0.mk (hat ▸ atoiV_bound arg)
  have hr : readF s = ((op, a), decide (nm ≠ [] ∧ 0 < op ∧ oneB op a = s)) := by unfold readF; rw [hcut]; simp only [hop, hat]
  have HR := Aside0.mk hr
  have HC := Aside0.mk hcut
  have HO := Aside0.mk hop
  have HT := Aside0.mk hat
  have HL := Aside0.mk (show arg.length ≤ 100000 by
    have h1 := cutB_le s 32
    rw [hcut] at h1
    exact Nat.le_trans h1.2 HS.out)
  clear hr hcut hop hat
  have HB0 := Aside0.mk (below_alloc (Below.refl w.heap.size w) (.cells #[.int .i64 0, .int .i64 0] 43))
  by_cases h1 : nm = []
  · have t1 : (bs nm).toList.isEmpty = true := by rw [bs_toList, h1]; rfl
    have HRes := Aside0.mk (show Ending.returned (.tuple #[.agg #[.int .i64 op, .int .i64 a], .bool false]) = .returned (.tuple #[.agg #[.int .i64 (readF s).1.1, .int .i64 (readF s).1.2], .bool (readF s).2]) by
      rw [HR.out, decide_eq_false (fun h => h.1 h1)])
    clear h1
    go_enter Tryd.func27, Tryd.ntmps27
    go_wp2_with (first
      | (go_at_call 26; (refine (cut_calls s 32 _ (HF.out.below (below_alloc (Below.refl _ _) _)) HS.out).mono ?_); rintro e w1 ⟨rfl, hb⟩; rw [HC.out]; have HB1 := Aside0.mk hb; clear hb)
      | (go_at_call 33; (with_reducible refine (atoi_calls arg _ (HF.out.below (below_step HB0.out HB1.out)) HL.out).mono ?_); rintro e w2 ⟨ev, rfl, hb⟩; rw [HT.out]; have HB2 := Aside0.mk (below_step HB1.out hb); clear hb HB1)
      | (go_at_call 22; (with_reducible refine (names_calls' _).mono ?_); rintro e w3 ⟨g, c, rfl, hn, hb⟩; have HN := Aside0.mk hn; have HB3 := Aside0.mk (below_step HB2.out hb); clear hb hn HB2)
      | (go_at_call 34; (with_reducible refine (index_names g c nm _ HN.out).mono ?_); rintro e w4 ⟨rfl, rfl⟩; rw [HO.out]))
    have hb4 := below_step HB3.out (below_alloc (Below.refl _ _) (.cells #[.int .i64 op, .int .i64 a] 43))
    have r0 := pw_cell_below hb4 (show (w.alloc (.cells #[.int .i64 0, .int .i64 0] 43)).cell? ⟨w.heap.size, 0, none⟩ = some (.int .i64 0) by go_simp)
    have r1 := pw_cell_below hb4 (show (w.alloc (.cells #[.int .i64 0, .int .i64 0] 43)).cell? ⟨w.heap.size, 1, none⟩ = some (.int .i64 0) by go_simp)
    have r2 := (hb4.frozen (p := ⟨w.heap.size, 0, none⟩) (by simp)).trans (World.frozen?_alloc_new _ _ _ _)
    have r3 := (hb4.frozen (p := ⟨w.heap.size, 1, none⟩) (by simp)).trans (World.frozen?_alloc_new _ _ _ _)
    have HB4 := Aside0.mk hb4
    clear hb4
    have c0 : (w4.alloc (.cells #[.int .i64 op, .int .i64 a] 43)).cell? ⟨w4.heap.size, 0, none⟩ = some (.int .i64 op) := by go_simp
    have c1 : (w4.alloc (.cells #[.int .i64 op, .int .i64 a] 43)).cell? ⟨w4.heap.size, 1, none⟩ = some (.int .i64 a) := by go_simp
    generalize w4.heap.size = b4 at c0 c1 ⊢
    generalize w4.alloc (.cells #[.int .i64 op, .int .i64 a] 43) = W4 at *
    obtain ⟨b, hb⟩ : ∃ b, w.heap.size = b := ⟨_, rfl⟩
    rw [hb] at r0 r1 r2 r3
    rw [hb]
    go_region
    all_goals (try go_wp2)
    all_goals refine bodyPost_ret (v := .tuple #[.agg #[.int .i64 op, .int .i64 a], .bool false]) ?_ rfl ⟨?_, ?_⟩
    all_goals first
      | (rw [results_cell_tmp rfl]; go_simp; done)
      | (exact HRes.out)
      | exact ((below_drew1 (below_step HB0.out HB4.out)).setCell (p := ⟨b, 0, none⟩) (hb ▸ Nat.le_refl _) _).setCell (p := ⟨b, 1, none⟩) (hb ▸ Nat.le_refl _) _
  · have t1 : (bs nm).toList.isEmpty = false := by
      rw [bs_toList]; cases nm with
      | nil => exact absurd rfl h1
      | cons x l => rfl
    by_cases h2 : 0 < op
    · have t2 := decide_eq_true h2
      have H12 := Aside0.mk (show nm ≠ [] ∧ 0 < op from ⟨h1, h2⟩)
      clear h1 h2
      go_enter Tryd.func27, Tryd.ntmps27
      go_wp2_with (first
        | (go_at_call 26; (refine (cut_calls s 32 _ (HF.out.below (below_alloc (Below.refl _ _) _)) HS.out).mono ?_); rintro e w1 ⟨rfl, hb⟩; rw [HC.out]; have HB1 := Aside0.mk hb; clear hb)
        | (go_at_call 33; (with_reducible refine (atoi_calls arg _ (HF.out.below (below_step HB0.out HB1.out)) HL.out).mono ?_); rintro e w2 ⟨ev, rfl, hb⟩; rw [HT.out]; have HB2 := Aside0.mk (below_step HB1.out hb); clear hb HB1)
        | (go_at_call 22; (with_reducible refine (names_calls' _).mono ?_); rintro e w3 ⟨g, c, rfl, hn, hb⟩; have HN := Aside0.mk hn; have HB3 := Aside0.mk (below_step HB2.out hb); clear hb hn HB2)
        | (go_at_call 34; (with_reducible refine (index_names g c nm _ HN.out).mono ?_); rintro e w4 ⟨rfl, rfl⟩; rw [HO.out]))
      have hb4 := below_step HB3.out (below_alloc (Below.refl _ _) (.cells #[.int .i64 op, .int .i64 a] 43))
      have r0 := pw_cell_below hb4 (show (w.alloc (.cells #[.int .i64 0, .int .i64 0] 43)).cell? ⟨w.heap.size, 0, none⟩ = some (.int .i64 0) by go_simp)
      have r1 := pw_cell_below hb4 (show (w.alloc (.cells #[.int .i64 0, .int .i64 0] 43)).cell? ⟨w.heap.size, 1, none⟩ = some (.int .i64 0) by go_simp)
      have r2 := (hb4.frozen (p := ⟨w.heap.size, 0, none⟩) (by simp)).trans (World.frozen?_alloc_new _ _ _ _)
      have r3 := (hb4.frozen (p := ⟨w.heap.size, 1, none⟩) (by simp)).trans (World.frozen?_alloc_new _ _ _ _)
      have HB4 := Aside0.mk hb4
      clear hb4
      have HOne := Aside0.mk (one_calls op a (w4.alloc (.cells #[.int .i64 op, .int .i64 a] 43)).drew (itoa_ok (HF.out.pow.below (below_drew1 (below_step HB0.out HB4.out))) a HA.out.1 HA.out.2) HA.out.1 HA.out.2)
      have HRes := Aside0.mk (show Ending.returned (.tuple #[.agg #[.int .i64 op, .int .i64 a], .bool ((bs (oneB op a)).toList == (bs s).toList)]) = .returned (.tuple #[.agg #[.int .i64 (readF s).1.1, .int .i64 (readF s).1.2], .bool (readF s).2]) by
        rw [HR.out, bs_toList, bs_toList, show (oneB op a == s) = decide (nm ≠ [] ∧ 0 < op ∧ oneB op a = s) by
          by_cases h : oneB op a = s
          · rw [decide_eq_true (show nm ≠ [] ∧ 0 < op ∧ oneB op a = s from ⟨H12.out.1, H12.out.2, h⟩)]; exact beq_iff_eq.mpr h
          · rw [decide_eq_false (fun k => h k.2.2)]; exact beq_eq_false_iff_ne.mpr h])
      have c0 : (w4.alloc (.cells #[.int .i64 op, .int .i64 a] 43)).cell? ⟨w4.heap.size, 0, none⟩ = some (.int .i64 op) := by go_simp
      have c1 : (w4.alloc (.cells #[.int .i64 op, .int .i64 a] 43)).cell? ⟨w4.heap.size, 1, none⟩ = some (.int .i64 a) := by go_simp
      generalize w4.heap.size = b4 at c0 c1 ⊢
      generalize w4.alloc (.cells #[.int .i64 op, .int .i64 a] 43) = W4 at *
      obtain ⟨b, hb⟩ : ∃ b, w.heap.size = b := ⟨_, rfl⟩
      rw [hb] at r0 r1 r2 r3
      rw [hb]
      go_region_with (go_at_call 24; refine HOne.out.mono ?_; rintro e w5 ⟨rfl, hb⟩; have d0 := pw_cell_below hb (show W4.drew.cell? _ = _ from c0); have d1 := pw_cell_below hb (show W4.drew.cell? _ = _ from c1); have d2 := pw_cell_below hb (show W4.drew.cell? _ = _ from r0); have d3 := pw_cell_below hb (show W4.drew.cell? _ = _ from r1); have d4 := (hb.frozen (World.block_lt_of_cell? W4 _ r0)).trans (show W4.drew.frozen? _ = _ from r2); have d5 := (hb.frozen (World.block_lt_of_cell? W4 _ r1)).trans (show W4.drew.frozen? _ = _ from r3); have HB5 := Aside0.mk (below_step HB4.out (show Below W4.heap.size W4 w5 from below_step (w := W4) (W := W4.drew) (below_drew1 (Below.refl _ _)) hb)); clear hb)
      all_goals (try go_wp2)
      all_goals refine bodyPost_ret (v := .tuple #[.agg #[.int .i64 op, .int .i64 a], .bool ((bs (oneB op a)).toList == (bs s).toList)]) ?_ rfl ⟨?_, ?_⟩
      all_goals first
        | (rw [results_cell_tmp rfl]; go_simp; done)
        | (exact HRes.out)
        | exact ((below_step HB0.out HB5.out).setCell (p := ⟨b, 0, none⟩) (hb ▸ Nat.le_refl _) _).setCell (p := ⟨b, 1, none⟩) (hb ▸ Nat.le_refl _) _
    · have t2 := decide_eq_false h2
      have HRes := Aside0.mk (show Ending.returned (.tuple #[.agg #[.int .i64 op, .int .i64 a], .bool false]) = .returned (.tuple #[.agg #[.int .i64 (readF s).1.1, .int .i64 (readF s).1.2], .bool (readF s).2]) by
        rw [HR.out, decide_eq_false (fun h => h2 h.2.1)])
      clear h1 h2
      go_enter Tryd.func27, Tryd.ntmps27
      go_wp2_with (first
        | (go_at_call 26; (refine (cut_calls s 32 _ (HF.out.below (below_alloc (Below.refl _ _) _)) HS.out).mono ?_); rintro e w1 ⟨rfl, hb⟩; rw [HC.out]; have HB1 := Aside0.mk hb; clear hb)
        | (go_at_call 33; (with_reducible refine (atoi_calls arg _ (HF.out.below (below_step HB0.out HB1.out)) HL.out).mono ?_); rintro e w2 ⟨ev, rfl, hb⟩; rw [HT.out]; have HB2 := Aside0.mk (below_step HB1.out hb); clear hb HB1)
        | (go_at_call 22; (with_reducible refine (names_calls' _).mono ?_); rintro e w3 ⟨g, c, rfl, hn, hb⟩; have HN := Aside0.mk hn; have HB3 := Aside0.mk (below_step HB2.out hb); clear hb hn HB2)
        | (go_at_call 34; (with_reducible refine (index_names g c nm _ HN.out).mono ?_); rintro e w4 ⟨rfl, rfl⟩; rw [HO.out]))
      have hb4 := below_step HB3.out (below_alloc (Below.refl _ _) (.cells #[.int .i64 op, .int .i64 a] 43))
      have r0 := pw_cell_below hb4 (show (w.alloc (.cells #[.int .i64 0, .int .i64 0] 43)).cell? ⟨w.heap.size, 0, none⟩ = some (.int .i64 0) by go_simp)
      have r1 := pw_cell_below hb4 (show (w.alloc (.cells #[.int .i64 0, .int .i64 0] 43)).cell? ⟨w.heap.size, 1, none⟩ = some (.int .i64 0) by go_simp)
      have r2 := (hb4.frozen (p := ⟨w.heap.size, 0, none⟩) (by simp)).trans (World.frozen?_alloc_new _ _ _ _)
      have r3 := (hb4.frozen (p := ⟨w.heap.size, 1, none⟩) (by simp)).trans (World.frozen?_alloc_new _ _ _ _)
      have HB4 := Aside0.mk hb4
      clear hb4
      have c0 : (w4.alloc (.cells #[.int .i64 op, .int .i64 a] 43)).cell? ⟨w4.heap.size, 0, none⟩ = some (.int .i64 op) := by go_simp
      have c1 : (w4.alloc (.cells #[.int .i64 op, .int .i64 a] 43)).cell? ⟨w4.heap.size, 1, none⟩ = some (.int .i64 a) := by go_simp
      generalize w4.heap.size = b4 at c0 c1 ⊢
      generalize w4.alloc (.cells #[.int .i64 op, .int .i64 a] 43) = W4 at *
      obtain ⟨b, hb⟩ : ∃ b, w.heap.size = b := ⟨_, rfl⟩
      rw [hb] at r0 r1 r2 r3
      rw [hb]
      go_region
      all_goals (try go_wp2)
      all_goals refine bodyPost_ret (v := .tuple #[.agg #[.int .i64 op, .int .i64 a], .bool false]) ?_ rfl ⟨?_, ?_⟩
      all_goals first
        | (rw [results_cell_tmp rfl]; go_simp; done)
        | (exact HRes.out)
        | exact ((below_drew1 (below_step HB0.out HB4.out)).setCell (p := ⟨b, 0, none⟩) (hb ▸ Nat.le_refl _) _).setCell (p := ⟨b, 1, none⟩) (hb ▸ Nat.le_refl _) _
end Go.Proofs.YtnfodfacilmgeaaDoor.Code
