/- HeapFirst: the first one is ahead of none of the others; popped it is gone, once, and nothing else is. No condition. -/
import Derived.Test.YtkbjihnkbfjhmaaIter4
import Derived.Test.YtkbjihnkbfjhmaaHHeapSorts
namespace Go.Proofs.Ytkbjihnkbfjhmaa.Heap
open Go Go.RowKit Go.Shelf Go.Proofs.Ytkbjihnkbfjhmaa.Own Go.Proofs.YtkbjihnkbfjhmaaW.PrintWords Go.Proofs.YtkbjihnkbfjhmaaW.PrintLast Go.Proofs.YtkbjihnkbfjhmaaW.PrintMore
set_option linter.unusedVariables false
set_option linter.unusedSimpArgs false
def Srt (l : List Tm) : Prop := l.Pairwise le
theorem sortL_perm (l : List Tm) : (sortL l).Perm l := List.mergeSort_perm l _
theorem sortL_srt (l : List Tm) : Srt (sortL l) := by
  have h := List.pairwise_mergeSort (le := leB) (fun a b c h1 h2 => (leB_iff a c).mpr (le_trans ((leB_iff a b).mp h1) ((leB_iff b c).mp h2))) (fun a b => by
    by_cases h : le a b
    · rw [(leB_iff a b).mpr h]; rfl
    · rw [(leB_iff b a).mpr (le_of_not h)]; simp) l
  exact h.imp (fun {a b} hab => (leB_iff a b).mp hab)
theorem le_anti {x y : Tm} (h1 : le x y) (h2 : le y x) : x = y := by
  unfold le at h1 h2
  have hn := cmp_neg x y
  exact (cmp_zero x y).mp (by omega)
theorem srt_unique : ∀ {l m : List Tm}, Srt l → Srt m → l.Perm m → l = m := fun h1 h2 hp => List.Perm.eq_of_pairwise (le := le) (fun a b _ _ h1 h2 => le_anti h1 h2) h1 h2 hp
theorem sortL_eq {l m : List Tm} (hs : Srt m) (hp : m.Perm l) : sortL l = m := srt_unique (sortL_srt l) hs ((sortL_perm l).trans hp.symm)
theorem sortL_congr {l m : List Tm} (h : l.Perm m) : sortL l = sortL m := sortL_eq (sortL_srt m) ((sortL_perm m).trans h.symm)
theorem sortL_cons {x : Tm} {l : List Tm} (h : ∀ y ∈ l, le x y) : sortL (x :: l) = x :: sortL l :=
  sortL_eq (List.pairwise_cons.mpr ⟨fun y hy => h y ((sortL_perm l).mem_iff.mp hy), sortL_srt l⟩) ((sortL_perm l).cons x)
theorem sortL_pop {x : Tm} {l : List Tm} (h : isHeap (x :: l)) : sortL (x :: l) = x :: sortL (popL (x :: l)) := by
  rw [sortL_cons (fun y hy => head_least h y (List.mem_cons_of_mem _ hy)), sortL_congr (pop_perm x l)]
theorem cmp_b (x y : Tm) (d : Int) (h : cmpT x y = d) (w : World) : Calls Try.prog 10 #[.agg #[.int .i64 x.t, .int .i64 x.s, .int .i64 x.g], .agg #[.int .i64 y.t, .int .i64 y.s, .int .i64 y.g]] w fun e w' => e = .returned (.int .i64 d) ∧ Below w.heap.size w w' := by
  subst h; exact cmp_calls x y w
theorem wrap_id {x : Int} (h1 : -9223372036854775808 ≤ x) (h2 : x ≤ 9223372036854775807) : IntKind.i64.wrap x = x := Go.IntWalk.i64_in x ⟨h1, h2⟩
theorem keep9 {a0 a1 a2 a3 a4 a5 a6 a7 a8 : Addr} {v0 v1 v2 v3 v4 v5 v6 v7 v8 : Value} {W w w' : World} (h : w.cell? a0 = some v0 ∧ w.cell? a1 = some v1 ∧ w.cell? a2 = some v2 ∧ w.cell? a3 = some v3 ∧ w.cell? a4 = some v4 ∧ w.cell? a5 = some v5 ∧ w.cell? a6 = some v6 ∧ w.cell? a7 = some v7 ∧ w.cell? a8 = some v8 ∧ Aside0 (Below W.heap.size W w)) (hb : Below w.heap.size w w') :
    w'.cell? a0 = some v0 ∧ w'.cell? a1 = some v1 ∧ w'.cell? a2 = some v2 ∧ w'.cell? a3 = some v3 ∧ w'.cell? a4 = some v4 ∧ w'.cell? a5 = some v5 ∧ w'.cell? a6 = some v6 ∧ w'.cell? a7 = some v7 ∧ w'.cell? a8 = some v8 ∧ Aside0 (Below W.heap.size W w') := by
  obtain ⟨h0, h1, h2, h3, h4, h5, h6, h7, h8, h9⟩ := h
  exact ⟨cell_below h0 hb, cell_below h1 hb, cell_below h2 hb, cell_below h3 hb, cell_below h4 hb, cell_below h5 hb, cell_below h6 hb, cell_below h7 hb, cell_below h8 hb, ⟨h9.out.trans (hb.mono h9.out.size)⟩⟩
/-- What is read behind the heap's last change. -/
structure Seen (W : World) (b7 b9 : Nat) (x : Tm) (A1 A2 : Option Addr) (R : List Tm) (w : World) : Prop where
  bel : Below W.heap.size W w
  all : kTm.C w A1 (x :: R).length (x :: R)
  rest : kTm.C w A2 R.length R
  c0 : w.cell? ⟨b7, 0, none⟩ = some (.int .i64 x.t)
  c1 : w.cell? ⟨b7, 1, none⟩ = some (.int .i64 x.s)
  c2 : w.cell? ⟨b7, 2, none⟩ = some (.int .i64 x.g)
  d0 : w.cell? ⟨b9, 0, none⟩ = some (.int .i64 x.t)
  d1 : w.cell? ⟨b9, 1, none⟩ = some (.int .i64 x.s)
  d2 : w.cell? ⟨b9, 2, none⟩ = some (.int .i64 x.g)
theorem Seen.below {W w w' : World} {b7 b9 : Nat} {x : Tm} {A1 A2 : Option Addr} {R : List Tm} (h : Seen W b7 b9 x A1 A2 R w) (hb : Below w.heap.size w w') : Seen W b7 b9 x A1 A2 R w' :=
  ⟨h.bel.trans (hb.mono h.bel.size), Kd.C_below h.all hb, Kd.C_below h.rest hb, cell_below h.c0 hb, cell_below h.c1 hb, cell_below h.c2 hb, cell_below h.d0 hb, cell_below h.d1 hb, cell_below h.d2 hb⟩
section
variable {w0 w w' : World} {F0 P0 : Nat → Prop} {p : Nat} {l : List Tm} {ts : List Thing}
theorem Hp.read {A : Option Addr} {k : List Tm} {ts1 : List Thing} (h : Hp w0 F0 P0 p l (valT (fun W => kTm.C W A k.length k) :: ts1) w) : kTm.C w A k.length k := by
  obtain ⟨v, h⟩ := h
  exact h.drop.drop.now
theorem Hp.tbox (h : Hp w0 F0 P0 p l ts w) (cells : Array Value) (e : Nat) : Hp w0 F0 P0 p l (boxT w.heap.size e cells :: ts) (w.alloc (.cells cells e)) := by
  obtain ⟨v, h⟩ := h
  exact ⟨v, (h.box cells e).rot⟩
theorem Seen.mk' {b7 b9 : Nat} {x : Tm} {A1 A2 : Option Addr} {R : List Tm} (h : Hp w0 F0 P0 p l (valT (fun W => kTm.C W A2 R.length R) :: boxT b9 23 #[.int .i64 x.t, .int .i64 x.s, .int .i64 x.g] :: boxT b7 23 #[.int .i64 x.t, .int .i64 x.s, .int .i64 x.g] :: valT (fun W => kTm.C W A1 (x :: R).length (x :: R)) :: ts) w) : Seen w b7 b9 x A1 A2 R w := by
  obtain ⟨v, h⟩ := h
  obtain ⟨⟨d0, d1, d2⟩, -, -⟩ := box_cells3 h.drop.drop.drop
  obtain ⟨⟨f0, f1, f2⟩, -, -⟩ := box_cells3 h.drop.drop.drop.drop
  exact ⟨Below.refl _ _, h.drop.drop.drop.drop.drop.now, h.drop.drop.now, f0, f1, f2, d0, d1, d2⟩
end
set_option maxRecDepth 100000 in
set_option maxHeartbeats 4000000 in
theorem first_calls (w : World) (A : Option Addr) (c : Nat) (l : List Tm) (hr : kTm.C w A l.length l) (hc : l.length ≤ c) (wf : (∀ x ∈ l, (Lit.int .i64 x.t).wf = true ∧ (Lit.int .i64 x.s).wf = true ∧ (Lit.int .i64 x.g).wf = true) ∧ l.length * 24 ≤ 140737488351232 ∧ l.length ≤ maxLen) :
    Calls Try.prog 5 #[.slice A l.length c] w fun e w' => e = .returned (.bool true) ∧ Below w.heap.size w w' := by
  have HR := Aside0.mk hr
  clear hr wf
  by_cases hbig : 200 < l.length
  · have b1 : decide (200 < l.length) = true := decide_eq_true hbig
    have b2 : decide ((200 : Int) < (l.length : Int)) = true := decide_eq_true (by omega)
    go_enter Try.func5, Try.ntmps5
    go_wp2_with (go_at_call 9; (with_reducible refine (shown_calls _).mono ?_); rintro e w1 ⟨rfl, hb⟩; have HB := Aside0.mk hb; clear hb)
    go_ret
    exact ⟨rfl, HB.out⟩
  · have b1 : decide (200 < l.length) = false := decide_eq_false hbig
    have b2 : decide ((200 : Int) < (l.length : Int)) = false := decide_eq_false (by omega)
    cases l with
    | nil =>
      go_enter Try.func5, Try.ntmps5
      go_wp2_with (go_at_call 9; (with_reducible refine (shown_calls _).mono ?_); rintro e w1 ⟨rfl, hb⟩; have HB := Aside0.mk hb; clear hb)
      go_ret
      exact ⟨rfl, HB.out⟩
    | cons l0 l1 =>
    obtain ⟨l, hl⟩ : ∃ l, l = l0 :: l1 := ⟨_, rfl⟩
    rw [← hl] at b1 b2 hbig hc HR ⊢
    have hpos : 0 < l.length := by rw [hl]; simp
    clear hl
    have b3 : ((l.length : Int) == 0) = false := by rw [beq_eq_false_iff_ne]; omega
    have b4 : decide ((l.length : Int) = 0) = false := decide_eq_false (by omega)
    have b5 : decide (l.length = 0) = false := decide_eq_false (by omega)
    have b6 : ((l.length : Nat) == 0) = false := by rw [beq_eq_false_iff_ne]; omega
    go_enter Try.func5, Try.ntmps5
    go_wp2_with (go_at_call 9; (with_reducible refine (shown_calls _).mono ?_); rintro e w1 ⟨rfl, hb⟩; have HS := Aside0.mk (Hp.new ((St.start w (fun _ => True)).below hb)); clear hb)
    clear b1 b2 b3 b4 b5 b6
    go_loopg [5] (l.length + 1) (fun kq v5 w' => ∃ i : Nat, v5 = .int .i64 (i : Int) ∧ Aside0 (i + kq = l.length + 1 ∧ i ≤ l.length) ∧ Aside0 (Hp w (fun _ => False) (fun _ => True) w1.heap.size (pushes l i) [] w'))
    case atStart => exact ⟨0, rfl, ⟨by omega, Nat.zero_le _⟩, HS⟩
    case round =>
      clear HS
      obtain ⟨i, rfl, HK, HS⟩ := hrel
      cases gk with
      | zero => exact absurd HK.out (by omega)
      | succ k1 =>
        by_cases hin : i < l.length
        · have c1 : decide ((i : Int) < (l.length : Int)) = true := decide_eq_true (by omega)
          have c1n : decide (i < l.length) = true := decide_eq_true (by omega)
          have hwr := Kd.C_below HR.out HS.out.bel
          obtain ⟨ad, rfl, a0, a1, a2⟩ := arg_elem hwr hin
          have p0 : (i : Int) ≤ 300 := by omega
          have p1 : (0 : Int) ≤ (i : Int) := by omega
          have p2 : (i : Int) < (l.length : Int) := by omega
          have HX := Aside0.mk (show pushL (pushes l i) l[i] = pushes l (i + 1) by simp only [pushes]; rw [show l.getD i zeroTm = l[i] by simp [List.getD_eq_getElem?_getD, List.getElem?_eq_getElem hin]])
          have HL := Aside0.mk (show (pushes l i).length ≤ 100000 by rw [pushes_len]; omega)
          have HIN := Aside0.mk hin
          generalize l[i] = x at a0 a1 a2 HX
          clear hwr hin
          go_wp2_with (go_at_call 11; (with_reducible refine (HS.out.push HL.out x HX.out).mono ?_); rintro e w2 ⟨rfl, hS⟩; have HS2 := Aside0.mk hS; clear hS HS)
          go_roundg k1
          case measure => have := HK.out; omega
          case rel => exact ⟨i + 1, by first | rfl | go_num, ⟨by have := HK.out; omega, by have := HIN.out; omega⟩, HS2⟩
        · have c1 : decide ((i : Int) < (l.length : Int)) = false := decide_eq_false (by omega)
          have c1n : decide (i < l.length) = false := decide_eq_false (by omega)
          obtain rfl : i = l.length := by have := HK.out; omega
          clear c1 c1n HK hin
          have hln := pushes_len l l.length
          have hhp := pushes_heap l l.length
          obtain ⟨x, H, hH⟩ : ∃ x H, pushes l l.length = x :: H := by
            cases h : pushes l l.length with
            | nil => rw [h] at hln; simp at hln; omega
            | cons x H => exact ⟨x, H, rfl⟩
          rw [hH] at hln hhp HS
          have hso := sortL_pop hhp
          obtain ⟨R, hRdef⟩ : ∃ R, sortL (popL (x :: H)) = R := ⟨_, rfl⟩
          rw [hRdef] at hso
          have hle : ∀ y ∈ R, le x y := fun y hy => by
            rw [← hRdef] at hy
            exact head_least hhp y (List.mem_cons_of_mem _ ((pop_perm x H).mem_iff.mp ((sortL_perm _).mem_iff.mp hy)))
          have hRl : R.length + 1 = l.length := by
            have h3 : (x :: R).length = (x :: H).length := by rw [← hso, sortL_len]
            rw [List.length_cons] at h3
            omega
          have HL := Aside0.mk (show H.length ≤ 100000 by rw [List.length_cons] at hln; omega)
          have HLx := Aside0.mk (show (x :: H).length ≤ 1000000 by omega)
          have HPL := Aside0.mk (show (popL (x :: H)).length ≤ 1000000 by rw [(pop_perm x H).length_eq]; rw [List.length_cons] at hln; omega)
          have HAL := Aside0.mk hln
          have HRD := Aside0.mk hRdef
          have HSO := Aside0.mk hso
          have HRL := Aside0.mk (And.intro hRl (Nat.le_of_not_lt hbig))
          have HLE := Aside0.mk hle
          clear hln hhp hH hso hRdef hle hRl hpos hbig
          go_wp2_with (first
            | (go_at_call 14; (with_reducible refine (Hp.all HS.out HLx.out).mono ?_); rintro e w2 ⟨A1, c1, rfl, h1, hS⟩; rw [HSO.out] at hS; rw [HAL.out] at h1 ⊢; have HS2 := Aside0.mk hS; clear hS HS)
            | (go_at_call 15; (with_reducible refine (Hp.first_cons HS2.out HL.out).mono ?_); rintro e w3 ⟨rfl, hS⟩; unfold Tm.agg; have HS3 := Aside0.mk (hS.tbox #[.int .i64 x.t, .int .i64 x.s, .int .i64 x.g] 23); clear hS HS2)
            | (go_at_call 12; (with_reducible refine (Hp.pop_cons HS3.out HL.out).mono ?_); rintro e w4 ⟨rfl, hS⟩; unfold Tm.agg; have HS4 := Aside0.mk (hS.tbox #[.int .i64 x.t, .int .i64 x.s, .int .i64 x.g] 23); clear hS HS3)
            | (go_at_call 14; (with_reducible refine (Hp.all HS4.out HPL.out).mono ?_); rintro e w5 ⟨A2, c2, rfl, h2, hS⟩; rw [HRD.out] at hS; obtain ⟨HRB, hS5⟩ : Aside0 (Below w.heap.size w w5) ∧ Aside0 (Seen w5 w3.heap.size w4.heap.size x A1 A2 R w5) := ⟨⟨Hp.bel hS⟩, ⟨Seen.mk' hS⟩⟩; clear hS HS4))
          obtain ⟨hb5, hall, hrest, f0, f1, f2, d0, d1, d2⟩ := hS5.out
          obtain ⟨ad1, rfl, a0, a1, a2⟩ := at_elem hall (i := 0) (by simp)
          have e0 : ad1.add (0 * 3) = ad1 := by simp [Addr.add]
          rw [e0] at a0 a1 a2
          simp only [List.getElem_cons_zero] at a0 a1 a2
          clear e0
          have n1 : ((popL (x :: H)).length : Int) = (l.length : Int) - 1 := by rw [← sortL_len, HRD.out]; have := HRL.out; omega
          have n2 : (popL (x :: H)).length = R.length := by rw [← sortL_len, HRD.out]
          have n3 : R.length ≤ 200 := by have := HRL.out; omega
          rw [n2] at n1 ⊢
          rw [← HRL.out.1] at n1 ⊢
          clear hb5 hall hrest n1
          have wr0 : IntKind.i64.wrap (R.length : Int) = (R.length : Int) := wrap_id (by omega) (by omega)
          go_quiet (fail)
          have HS6 := Aside0.mk (hS5.out.below (pw_below_drewN (Below.refl _ _) nq))
          clear wr0 a0 a1 a2 d0 d1 d2 f0 f1 f2 hS5 n2 n3
          go_wp2
          go_loopg [12] (R.length + 1) (fun kq v12 w' => ∃ j : Nat, v12 = .int .i64 (j : Int) ∧ Aside0 (j + kq = R.length + 1 ∧ j ≤ R.length) ∧ Aside0 (Seen w5 w3.heap.size w4.heap.size x (some ad1) A2 R w'))
          case atStart => exact ⟨0, rfl, ⟨by omega, Nat.zero_le _⟩, HS6⟩
          case round =>
            clear HS6
            obtain ⟨j, rfl, HK, HS⟩ := hrel
            cases gk with
            | zero => exact absurd HK.out (by omega)
            | succ k2 =>
              by_cases hin : j < R.length
              · have c1 : decide ((j : Int) < (R.length : Int)) = true := decide_eq_true (by omega)
                have c1n : decide (j < R.length) = true := decide_eq_true (by omega)
                obtain ⟨hb5, hall, hrest, f0, f1, f2, -, -, -⟩ := HS.out
                obtain ⟨ad2, rfl, b0, b1, b2⟩ := at_elem hrest hin
                obtain ⟨ad1', e1, a0, a1, a2⟩ := at_elem hall (i := j + 1) (by simp; omega)
                injection e1 with e1
                subst e1
                simp only [List.getElem_cons_succ] at a0 a1 a2
                obtain ⟨d, hd⟩ : ∃ d, cmpT x R[j] = d := ⟨_, rfl⟩
                have hd0 : ¬ 0 < d := by have h3 := HLE.out R[j] (List.getElem_mem _); unfold le at h3; omega
                have c2 : decide (0 < d) = false := decide_eq_false hd0
                have HD := Aside0.mk hd
                have p0 : (j : Int) ≤ 300 := by have := HRL.out; omega
                have p1 : (0 : Int) ≤ (j : Int) := by omega
                have p2 : (j : Int) < (R.length : Int) := by omega
                have p3 : (j : Int) + 1 < (R.length : Int) + 1 := by omega
                have p4 : (0 : Int) ≤ (j : Int) + 1 := by omega
                have HIN := Aside0.mk hin
                generalize R[j] = y at a0 a1 a2 b0 b1 b2 HD
                have wr1 : IntKind.i64.wrap ((j : Int) + 1) = (j : Int) + 1 := wrap_id (by omega) (by omega)
                have tn1 : ((j : Int) + 1).toNat = j + 1 := by omega
                clear hd hd0 hb5 hall hrest hin
                go_wp2
                go_region_held3 (fun w' => w'.cell? ⟨w3.heap.size, 0, none⟩ = some (.int .i64 x.t) ∧ w'.cell? ⟨w3.heap.size, 1, none⟩ = some (.int .i64 x.s) ∧ w'.cell? ⟨w3.heap.size, 2, none⟩ = some (.int .i64 x.g) ∧ w'.cell? (ad2.add (j * 3)) = some (.int .i64 y.t) ∧ w'.cell? ⟨(ad2.add (j * 3)).block, (ad2.add (j * 3)).off + 1, none⟩ = some (.int .i64 y.s) ∧ w'.cell? ⟨(ad2.add (j * 3)).block, (ad2.add (j * 3)).off + 2, none⟩ = some (.int .i64 y.g) ∧ w'.cell? (ad1.add ((j + 1) * 3)) = some (.int .i64 y.t) ∧ w'.cell? ⟨(ad1.add ((j + 1) * 3)).block, (ad1.add ((j + 1) * 3)).off + 1, none⟩ = some (.int .i64 y.s) ∧ w'.cell? ⟨(ad1.add ((j + 1) * 3)).block, (ad1.add ((j + 1) * 3)).off + 2, none⟩ = some (.int .i64 y.g) ∧ Aside0 (Below wr.heap.size wr w'))
                  (first | exact hS' | exact keep9 (by assumption) (below_alloc (Below.refl _ _) _) | exact ⟨f0, f1, f2, b0, b1, b2, a0, a1, a2, ⟨below_drew1 (Below.refl _ _)⟩⟩ | assumption)
                  ((go_at_call 10; (with_reducible refine (cmp_b _ _ _ HD.out _).mono ?_); rintro e w' ⟨rfl, hb⟩; have hS' := keep9 (by assumption) hb; clear hb))
                clear wr1 tn1
                have HS7 := Aside0.mk (HS.out.below hS'.2.2.2.2.2.2.2.2.2.out)
                clear HS
                go_wp2
                go_roundg k2
                case measure => have := HK.out; omega
                case rel => exact ⟨j + 1, by first | rfl | go_num, ⟨by have := HK.out; omega, by have := HIN.out; omega⟩, HS7⟩
              · have c1 : decide ((j : Int) < (R.length : Int)) = false := decide_eq_false (by omega)
                have c1n : decide (j < R.length) = false := decide_eq_false (by omega)
                clear hin
                go_wp2
                go_ret
                exact ⟨rfl, HRB.out.trans (HS.out.bel.mono HRB.out.size)⟩
end Go.Proofs.Ytkbjihnkbfjhmaa.Heap
