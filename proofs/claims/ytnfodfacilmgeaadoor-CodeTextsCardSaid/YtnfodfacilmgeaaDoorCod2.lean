/- code.Text, in plain words. No condition. -/
import Derived.Test.YtnfodfacilmgeaaDoorCod1
import Derived.Lib.AppendIntMem
import Derived.Lib.SmallJoins
namespace Go.Proofs.YtnfodfacilmgeaaDoor.Code
open Go Go.RowKit Go.Proofs Go.Proofs.YtnfodfacilmgeaaDoorW.PrintWords Go.Proofs.YtnfodfacilmgeaaDoorW.PrintLast Go.Proofs.YtnfodfacilmgeaaDoorW.PrintMore
set_option linter.unusedVariables false
set_option linter.unusedSimpArgs false
def Pows (w : World) : Prop := Lib.TabIs Tryd.prog w "internal/strconv.uint64pow10" .u64 Lib.pow10Tab
theorem gPows : (Tryd.prog.globalNamed "internal/strconv.uint64pow10").isSome = true := by kernel_rfl
theorem Pows.below {w w' : World} (h : Pows w) (hb : Below w.heap.size w w') : Pows w' := by
  obtain ⟨g, hg⟩ := Option.isSome_iff_exists.1 gPows
  exact Joins.tab_stays hg h hb (Nat.le_refl _)
theorem itoa_ok {w : World} (h : Pows w) (n : Int) (h0 : -9223372036854775808 ≤ n) (h1 : n ≤ 9223372036854775807) : ItoaOk w n := by
  intro w' hb
  refine (Tryd.strconv_Itoa n h0 h1 w' (h.below hb)).mono ?_
  rintro e w'' ⟨rfl, k, os, rfl⟩
  exact ⟨rfl, Lib.below_grow _ w' (Nat.le_refl _) k os⟩
theorem ownsRow_bel {w w' : World} {B : Nat} {e : TypeId} {size : Nat} {v : Value} {n : Nat} {xs : List Value} (h : w.ownsRow B e size v n xs) (hb : Below w.heap.size w w') : w'.ownsRow B e size v n xs := by
  obtain ⟨hl, h0 | ⟨g, cap, cur, hv, hB, hh, r⟩⟩ := h
  · exact ⟨hl, .inl h0⟩
  · have hg : g < w.heap.size := by
      rcases Nat.lt_or_ge g w.heap.size with h1 | h1
      · exact h1
      · rw [Array.getElem?_eq_none h1] at hh
        cases hh
    exact ⟨hl, .inr ⟨g, cap, cur, hv, hB, by rw [hb.block g hg]; exact hh, r⟩⟩
theorem builderAt_bel {T e : TypeId} {B b : Nat} {p : Value} {l : List Value} {w w' : World} (h : Lib.BuilderAt T e B b p l w) (hb : Below w.heap.size w w') : Lib.BuilderAt T e B b p l w' := by
  have hlt := h.lt
  obtain ⟨h0, v, h1, h2, h3⟩ := h
  exact ⟨h0, v, (hb.block b hlt).trans h1, ownsRow_bel h2 hb, h3⟩
theorem isBuilder_bel {T e : TypeId} {B b : Nat} {l : List Value} {w w' : World} (h : Lib.IsBuilder T e B b l w) (hb : Below w.heap.size w w') : Lib.IsBuilder T e B b l w' := by
  rcases h with h | h
  · exact .inl (builderAt_bel h hb)
  · exact .inr (builderAt_bel h hb)
/-- instructions in a row of memory -/
def InsAt (W : World) (A : Option Addr) (l : List (Int × Int)) : Prop := ∀ i : Int, 0 ≤ i → i < l.length → ∃ ad, A = some ad ∧ W.cell? (ad.add (i.toNat * 2)) = some (.int .i64 (l.getD i.toNat (0, 0)).1) ∧ W.cell? ⟨(ad.add (i.toNat * 2)).block, (ad.add (i.toNat * 2)).off + 1, none⟩ = some (.int .i64 (l.getD i.toNat (0, 0)).2)
theorem InsAt.below {W W' : World} {A : Option Addr} {l : List (Int × Int)} (h : InsAt W A l) (hb : Below W.heap.size W W') : InsAt W' A l := by
  intro i h0 h1
  obtain ⟨ad, e, c0, c1⟩ := h i h0 h1
  exact ⟨ad, e, (hb.cell (World.block_lt_of_cell? W _ c0)).trans c0, (hb.cell (World.block_lt_of_cell? W _ c1)).trans c1⟩
def lineB (x : Int × Int) : List UInt8 := oneB x.1 x.2 ++ [10]
def textB (l : List (Int × Int)) : List UInt8 := l.flatMap lineB
def Wf (l : List (Int × Int)) : Prop := ∀ x ∈ l, -9223372036854775808 ≤ x.2 ∧ x.2 ≤ 9223372036854775807
theorem oneB_le (op a : Int) (h0 : -9223372036854775808 ≤ a) (h1 : a ≤ 9223372036854775807) : (oneB op a).length ≤ 29 := by
  have h2 := Lib.itoa_length_le a h0 h1
  have h3 := nmB_le op
  unfold oneB nmQ
  rw [List.length_append]
  have : (if nmB op = [] then [63] else nmB op).length ≤ 7 := by
    split
    · simp
    · exact h3
  have : (if bare op a then ([] : List UInt8) else 32 :: Lib.itoa a).length ≤ 22 := by split <;> simp; omega
  omega
theorem textB_le : ∀ (l : List (Int × Int)), Wf l → (textB l).length ≤ l.length * 30
  | [], _ => by simp [textB]
  | x :: l, h => by
    have h1 := textB_le l (fun y hy => h y (List.mem_cons_of_mem _ hy))
    have h2 := oneB_le x.1 x.2 (h x List.mem_cons_self).1 (h x List.mem_cons_self).2
    unfold textB at h1 ⊢
    rw [List.flatMap_cons, List.length_append, List.length_cons]
    unfold lineB at h1 ⊢
    rw [List.length_append]
    simp only [List.length_cons, List.length_nil]
    omega
theorem textB_take (l : List (Int × Int)) (k : Nat) (h : k < l.length) : textB (l.take (k + 1)) = textB (l.take k) ++ lineB (l.getD k (0, 0)) := by
  unfold textB
  rw [List.take_succ_eq_append_getElem h, List.flatMap_append, List.getD_eq_getElem?_getD, List.getElem?_eq_getElem h]
  simp
theorem strCells_bs (l : List UInt8) : Lib.strCells (bs l) = Lib.byteCells l := rfl
set_option maxHeartbeats 2000000 in
theorem text_calls (A : Option Addr) (c : Nat) (l : List (Int × Int)) (w : World) (hr : InsAt w A l) (hc : l.length ≤ c) (hl : l.length ≤ 100000) (hw : Wf l) (ht : Pows w) :
    Calls Tryd.prog 12 #[.slice A l.length c] w fun e w' => e = .returned (.string (bs (textB l))) ∧ Below w.heap.size w w' := by
  have HR := Aside0.mk hr
  have HT := Aside0.mk ht
  have HW := Aside0.mk hw
  clear hr ht hw
  have hBB : Below w.heap.size w (w.alloc (.cells #[.pointer none, .slice none 0 0] 55)) := below_alloc (Below.refl _ _) _
  have hI0 := Lib.fresh_isBuilder 55 5 w
  have HI0 := Aside0.mk hI0
  have HB0 := Aside0.mk hBB
  clear hI0 hBB
  obtain ⟨B, hBn⟩ : ∃ B, w.heap.size = B := ⟨_, rfl⟩
  rw [hBn] at HI0 HB0
  rw [hBn]
  have HN := Aside0.mk hBn
  go_enter Tryd.func12, Tryd.ntmps12
  go_wp2
  go_loopg [5, 8] (l.length + 1) (fun kq v5 v8 w' => ∃ (k : Nat), v8 = .int .i64 (k : Int) ∧ Aside0 (k + kq = l.length + 1 ∧ k ≤ l.length) ∧ Aside0 (Lib.IsBuilder 55 5 B B (Lib.byteCells (textB (l.take k))) w' ∧ Below B w w'))
  case atStart => exact ⟨0, rfl, ⟨by omega⟩, ⟨HI0.out, HB0.out⟩⟩
  case round =>
    clear HI0 HB0
    obtain ⟨k, rfl, HK, HS⟩ := hrel
    by_cases hk : k < l.length
    · have hlt : decide ((k : Int) < (l.length : Int)) = true := decide_eq_true (by omega)
      obtain ⟨ad, e, c0, c1⟩ := HR.out.below (show Below w.heap.size w wr from HN.out ▸ HS.out.2) (k : Int) (by omega) (by omega)
      cases e
      have hx : l.getD ((k : Int).toNat) (0, 0) ∈ l := by
        rw [Int.toNat_natCast, List.getD_eq_getElem?_getD, List.getElem?_eq_getElem hk]
        exact List.getElem_mem hk
      have hxx := HW.out _ hx
      have HX := Aside0.mk (show l.getD k (0, 0) = l.getD ((k : Int).toNat) (0, 0) by rw [Int.toNat_natCast])
      obtain ⟨x, hxe⟩ : ∃ x, l.getD ((k : Int).toNat) (0, 0) = x := ⟨_, rfl⟩
      rw [hxe] at c0 c1 hxx
      rw [Int.toNat_natCast] at c0 c1
      have HX := Aside0.mk (HX.out.trans hxe)
      clear hx hxe
      obtain ⟨op, a⟩ := x
      have hA := Aside0.mk (one_calls op a (wr.alloc (.cells #[.int .i64 op, .int .i64 a] 43)) (itoa_ok (HT.out.below (below_step (show Below w.heap.size w wr from HN.out ▸ HS.out.2) (below_alloc (Below.refl _ _) _))) a hxx.1 hxx.2) hxx.1 hxx.2)
      have hz : ¬ 9223372036854775807 < (bs (oneB op a)).size + 1 := by
        have := oneB_le op a hxx.1 hxx.2
        rw [bs_size]; omega
      have HZ := Aside0.mk (show (bs (textB (l.take k))).size ≤ 3000000 by
        have h1 := textB_le (l.take k) (fun y hy => HW.out y (List.mem_of_mem_take hy))
        rw [bs_size]
        rw [List.length_take] at h1
        omega)
      have HY := Aside0.mk (oneB_le op a hxx.1 hxx.2)
      clear hxx
      have HG := Aside0.mk (show (Lib.byteCells (textB (l.take k))).length + (bs (oneB op a) ++ (⟨#[10]⟩ : ByteArray)).size ≤ 140737488355328 by
        have h1 := HZ.out
        have h2 := HY.out
        rw [bs_size] at h1
        rw [ByteArray.size_append, bs_size]
        simp only [Lib.byteCells, List.length_map]
        show _ + (_ + 1) ≤ _
        omega)
      have p0 : (0 ≤ (k : Int)) = True := eq_true (by omega)
      go_wp2_with (first
        | (go_at_call 24; (with_reducible refine hA.out.mono ?_); rintro e w1 ⟨rfl, hb⟩; have HB1 := Aside0.mk (below_then (below_alloc (Below.refl _ _) (.cells #[.int .i64 op, .int .i64 a] 43)) (by simp) hb); clear hb)
        | (go_at_call 23; (with_reducible refine (write_calls B B (Lib.byteCells (textB (l.take k))) (bs (oneB op a) ++ ⟨#[10]⟩) _ (isBuilder_bel HS.out.1 HB1.out) HG.out (by have := HB1.out.size; have := HS.out.2.size; have := HN.out; omega)).mono ?_); rintro e w2 ⟨rfl, hb1, hb2⟩; have HV := Aside0.mk (And.intro hb1 hb2); clear hb1 hb2))
      go_roundg (l.length - k)
      case measure => have := HK.out; omega
      case rel =>
        refine ⟨k + 1, by simp, ⟨by have := HK.out; omega⟩, ⟨?_, ?_⟩⟩
        · have h1 := HV.out.1
          rw [textB_take l k hk, HX.out]
          have h2 : Lib.byteCells (textB (l.take k)) ++ Lib.strCells (bs (oneB op a) ++ ⟨#[10]⟩) = Lib.byteCells (textB (l.take k) ++ lineB (op, a)) := by
            rw [show (⟨#[10]⟩ : ByteArray) = bs [10] from rfl, bs_append, strCells_bs]
            unfold lineB Lib.byteCells
            simp only [List.map_append]
          rw [h2] at h1
          exact .inr h1
        · exact (below_then HS.out.2 (by have := HS.out.2.size; have := HN.out; omega) HB1.out).trans HV.out.2
    · have hlt : decide ((k : Int) < (l.length : Int)) = false := decide_eq_false (by omega)
      have hke : k = l.length := by have := HK.out; omega
      have HS2 := Aside0.mk (show Lib.IsBuilder 55 5 B B (Lib.byteCells (textB l)) wr ∧ Below B w wr by
        have := HS.out
        rwa [hke, List.take_length] at this)
      clear HS
      go_wp2_with (go_at_call 25; (with_reducible refine (Tryd.Builder_String_any B B (textB l) _ HS2.out.1 (by have := HS2.out.2.size; have := HN.out; omega)).mono ?_); rintro e w2 ⟨rfl, hb⟩; have HB1 := Aside0.mk hb; clear hb)
      go_ret
      exact ⟨rfl, HS2.out.2.trans HB1.out⟩
end Go.Proofs.YtnfodfacilmgeaaDoor.Code
