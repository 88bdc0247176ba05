/- HeapSorts: popped until there is none, timers come in order, all that were pushed. No condition. -/
import Derived.Test.YtkbjihnkbfjhmaaHeapP
import Derived.Deep.QuietTactic
import Derived.BigQuiet
namespace Go.Proofs.Ytkbjihnkbfjhmaa.Heap
open Go Go.RowKit Go.Proofs.Ytkbjihnkbfjhmaa.Own Go.Proofs.YtkbjihnkbfjhmaaW.PrintWords Go.Proofs.YtkbjihnkbfjhmaaW.PrintLast Go.Proofs.YtkbjihnkbfjhmaaW.PrintMore
set_option linter.unusedVariables false
set_option linter.unusedSimpArgs false
def val (x : Tm) : Int := x.t + 3 * x.s + 7 * x.g
def tot (l : List Tm) : Int := (l.map val).sum
theorem tot_cons (x : Tm) (l : List Tm) : tot (x :: l) = val x + tot l := by simp [tot]
theorem tot_perm {l l' : List Tm} (h : l.Perm l') : tot l = tot l' := by
  induction h with
  | nil => rfl
  | cons x _ ih => rw [tot_cons, tot_cons, ih]
  | swap x y l => rw [tot_cons, tot_cons, tot_cons, tot_cons]; omega
  | trans _ _ ih1 ih2 => rw [ih1, ih2]
theorem tot_take {l : List Tm} {i : Nat} (h : i < l.length) : tot (l.take (i + 1)) = tot (l.take i) + val l[i] := by
  unfold tot
  rw [List.take_succ_eq_append_getElem h, List.map_append, List.sum_append]
  simp
theorem w_add (a b : Int) : wrap64 (wrap64 a + b) = wrap64 (a + b) := by unfold wrap64; omega
theorem w_add' (a b : Int) : wrap64 (a + wrap64 b) = wrap64 (a + b) := by unfold wrap64; omega
theorem w_sub (a b : Int) : wrap64 (wrap64 a - b) = wrap64 (a - b) := by unfold wrap64; omega
theorem w_sub' (a b : Int) : wrap64 (a - wrap64 b) = wrap64 (a - b) := by unfold wrap64; omega
theorem w_sum (S : Int) (x : Tm) : wrap64 (wrap64 (wrap64 (wrap64 S + x.t) + wrap64 (3 * x.s)) + wrap64 (7 * x.g)) = wrap64 (S + val x) := by
  rw [w_add S x.t, w_add (S + x.t), w_add' (S + x.t), w_add (S + x.t + 3 * x.s), w_add' (S + x.t + 3 * x.s)]
  congr 1
  unfold val
  omega
theorem w_dif (S : Int) (x : Tm) : wrap64 (wrap64 (wrap64 (wrap64 S - x.t) - wrap64 (3 * x.s)) - wrap64 (7 * x.g)) = wrap64 (S - val x) := by
  rw [w_sub S x.t, w_sub (S - x.t), w_sub' (S - x.t), w_sub (S - x.t - 3 * x.s), w_sub' (S - x.t - 3 * x.s)]
  congr 1
  unfold val
  omega
/-- The cells of an element that came in. -/
theorem arg_elem {w : World} {A : Option Addr} {l : List Tm} (h : kTm.C w A l.length l) {i : Nat} (hi : i < l.length) : ∃ ad, A = some ad ∧ w.cell? (ad.add (i * 3)) = some (.int .i64 l[i].t) ∧ w.cell? ⟨(ad.add (i * 3)).block, (ad.add (i * 3)).off + 1, none⟩ = some (.int .i64 l[i].s) ∧ w.cell? ⟨(ad.add (i * 3)).block, (ad.add (i * 3)).off + 2, none⟩ = some (.int .i64 l[i].g) := by
  obtain ⟨ad, cs, e1, hl, hK, hc⟩ := Kd.C_get h ⟨0, 0, 0⟩ (i : Int) (by omega) (by omega)
  have hx : l.getD (i : Int).toNat ⟨0, 0, 0⟩ = l[i] := by simp [List.getD_eq_getElem?_getD, List.getElem?_eq_getElem hi]
  rw [hx] at hK
  obtain rfl := kTm_open hK
  have h0 := hc 0 _ rfl
  have h1 := hc 1 _ rfl
  have h2 := hc 2 _ rfl
  rw [Int.toNat_natCast] at h0 h1 h2
  refine ⟨ad, e1, h0, ?_, ?_⟩
  · rw [← add_field _ _ 1 (by omega)]; exact h1
  · rw [← add_field _ _ 2 (by omega)]; exact h2
def pushes (l : List Tm) : Nat → List Tm
  | 0 => []
  | i + 1 => pushL (pushes l i) (l.getD i zeroTm)
theorem pushes_len (l : List Tm) : ∀ i, (pushes l i).length = i
  | 0 => rfl
  | i + 1 => by simp only [pushes]; rw [pushL_len, pushes_len]
theorem pushes_heap (l : List Tm) : ∀ i, isHeap (pushes l i)
  | 0 => heap_nil
  | i + 1 => push_heap (pushes_heap l i) _
theorem pushes_perm (l : List Tm) : ∀ i, i ≤ l.length → (pushes l i).Perm (l.take i)
  | 0, _ => by simp [pushes]
  | i + 1, h => by
    simp only [pushes]
    refine (push_perm _ _).trans ?_
    rw [List.take_succ_eq_append_getElem (by omega), show l.getD i zeroTm = l[i] by simp [List.getD_eq_getElem?_getD, List.getElem?_eq_getElem (show i < l.length by omega)]]
    exact ((pushes_perm l i (by omega)).cons _).trans (List.perm_append_singleton _ _).symm
section
variable {w0 w w' : World} {F0 P0 : Nat → Prop} {p b : Nat} {l : List Tm} {z x : Tm}
/-- The heap, the box of the one taken, and that of the last one. -/
def Pair (w0 : World) (p : Nat) (l : List Tm) (b : Nat) (z : Tm) (b2 : Nat) (x : Tm) (w : World) : Prop := Hp w0 (fun _ => False) (fun _ => True) p l [boxT b2 23 #[.int .i64 x.t, .int .i64 x.s, .int .i64 x.g], boxT b 23 #[.int .i64 z.t, .int .i64 z.s, .int .i64 z.g]] w
def One (w0 : World) (p : Nat) (l : List Tm) (b : Nat) (z : Tm) (w : World) : Prop := Hp w0 (fun _ => False) (fun _ => True) p l [boxT b 23 #[.int .i64 z.t, .int .i64 z.s, .int .i64 z.g]] w
theorem One.tbox (h : One w0 p l b z w) (x : Tm) : Pair w0 p l b z w.heap.size x (w.alloc (.cells #[.int .i64 x.t, .int .i64 x.s, .int .i64 x.g] 23)) ∧ b < w.heap.size := by
  obtain ⟨v, h⟩ := h
  exact ⟨⟨v, (h.box #[.int .i64 x.t, .int .i64 x.s, .int .i64 x.g] 23).rot⟩, h.drop.drop.boxed.2⟩
theorem Pair.below {b2 : Nat} (h : Pair w0 p l b z b2 x w) (hb : Below w.heap.size w w') : Pair w0 p l b z b2 x w' := Hp.below h hb
theorem One.cells (h : One w0 p l b z w) : (w.cell? ⟨b, 0, none⟩ = some (.int .i64 z.t) ∧ w.cell? ⟨b, 1, none⟩ = some (.int .i64 z.s) ∧ w.cell? ⟨b, 2, none⟩ = some (.int .i64 z.g)) ∧ (w.frozen? ⟨b, 0, none⟩ = false ∧ w.frozen? ⟨b, 1, none⟩ = false ∧ w.frozen? ⟨b, 2, none⟩ = false) ∧ b < w.heap.size := by
  obtain ⟨v, h⟩ := h
  exact box_cells3 h.drop.drop
theorem Pair.cells {b2 : Nat} (h : Pair w0 p l b z b2 x w) : ((w.cell? ⟨b, 0, none⟩ = some (.int .i64 z.t) ∧ w.cell? ⟨b, 1, none⟩ = some (.int .i64 z.s) ∧ w.cell? ⟨b, 2, none⟩ = some (.int .i64 z.g)) ∧ (w.frozen? ⟨b, 0, none⟩ = false ∧ w.frozen? ⟨b, 1, none⟩ = false ∧ w.frozen? ⟨b, 2, none⟩ = false) ∧ b < w.heap.size) ∧ (w.cell? ⟨b2, 0, none⟩ = some (.int .i64 x.t) ∧ w.cell? ⟨b2, 1, none⟩ = some (.int .i64 x.s) ∧ w.cell? ⟨b2, 2, none⟩ = some (.int .i64 x.g)) := by
  obtain ⟨v, h⟩ := h
  exact ⟨box_cells3 h.drop.drop.drop, (box_cells3 h.drop.drop).1⟩
theorem One.pop (h : One w0 p (x :: l) b z w) (hlen : l.length ≤ 100000) : Calls Try.prog 12 #[.pointer (some ⟨p, 0, none⟩)] w fun e w' => e = .returned (.tuple #[x.agg, .bool true]) ∧ One w0 p (popL (x :: l)) b z w' := Hp.pop_cons h hlen
theorem One.pop_nil (h : One w0 p [] b z w) : Calls Try.prog 12 #[.pointer (some ⟨p, 0, none⟩)] w fun e w' => e = .returned (.tuple #[zeroTm.agg, .bool false]) ∧ One w0 p [] b z w' := Hp.pop_nil h
theorem One.len (h : One w0 p [] b z w) : Calls Try.prog 13 #[.pointer (some ⟨p, 0, none⟩)] w fun e w' => e = .returned (.int .i64 0) ∧ w' = w := Hp.len h (n := 0) rfl
theorem One.below (h : One w0 p l b z w) (hb : Below w.heap.size w w') : One w0 p l b z w' := Hp.below h hb
theorem One.put (h : One w0 p l b z w) (x : Tm) : One w0 p l b x (((w.setCell ⟨b, 0, none⟩ (.int .i64 x.t)).setCell ⟨b, 1, none⟩ (.int .i64 x.s)).setCell ⟨b, 2, none⟩ (.int .i64 x.g)) := by
  obtain ⟨v, h⟩ := h
  exact ⟨v, (St_set3 h.nth2).rot⟩
theorem Pair.put {b2 : Nat} (h : Pair w0 p l b z b2 x w) (y : Tm) : One w0 p l b y (((w.setCell ⟨b, 0, none⟩ (.int .i64 y.t)).setCell ⟨b, 1, none⟩ (.int .i64 y.s)).setCell ⟨b, 2, none⟩ (.int .i64 y.g)) := by
  obtain ⟨v, h⟩ := h
  exact One.put ⟨v, h.nth2.drop⟩ y
end
set_option maxRecDepth 100000 in
set_option maxHeartbeats 4000000 in
theorem sorts_calls (w : World) (A : Option Addr) (c : Nat) (l : List Tm) (hr : kTm.C w A l.length l) (hc : l.length ≤ c) (wf : (∀ x ∈ l, (Lit.int .i64 x.t).wf = true ∧ (Lit.int .i64 x.s).wf = true ∧ (Lit.int .i64 x.g).wf = true) ∧ l.length * 24 ≤ 140737488351232 ∧ l.length ≤ maxLen) :
    Calls Try.prog 4 #[.slice A l.length c] w fun e w' => e = .returned (.bool true) ∧ Below w.heap.size w w' := by
  have HR := Aside0.mk hr
  clear hr wf
  by_cases hbig : 300 < l.length
  · have b1 : decide (300 < l.length) = true := decide_eq_true hbig
    have b2 : decide ((300 : Int) < (l.length : Int)) = true := decide_eq_true (by omega)
    go_enter Try.func4, Try.ntmps4
    go_wp2_with (go_at_call 9; (with_reducible refine (shown_calls _).mono ?_); rintro e w1 ⟨rfl, hb⟩; have HB := Aside0.mk hb; clear hb)
    go_ret
    exact ⟨rfl, HB.out⟩
  · have b1 : decide (300 < l.length) = false := decide_eq_false hbig
    have b2 : decide ((300 : Int) < (l.length : Int)) = false := decide_eq_false (by omega)
    go_enter Try.func4, Try.ntmps4
    go_wp2_with (go_at_call 9; (with_reducible refine (shown_calls _).mono ?_); rintro e w1 ⟨rfl, hb⟩; have HS := Aside0.mk (Hp.new ((St.start w (fun _ => True)).below hb)); clear hb)
    clear b1 b2
    go_loopg [5] (l.length + 1) (fun kq v5 w' => ∃ i : Nat, v5 = .int .i64 (i : Int) ∧ Aside0 (i + kq = l.length + 1 ∧ i ≤ l.length) ∧ Aside0 (Hp w (fun _ => False) (fun _ => True) w1.heap.size (pushes l i) [] w'))
    case atStart => exact ⟨0, rfl, ⟨by omega, Nat.zero_le _⟩, HS⟩
    case round =>
      clear HS
      obtain ⟨i, rfl, HK, HS⟩ := hrel
      cases gk with
      | zero => exact absurd HK.out (by omega)
      | succ k1 =>
        by_cases hin : i < l.length
        · have c1 : decide ((i : Int) < (l.length : Int)) = true := decide_eq_true (by omega)
          have c1n : decide (i < l.length) = true := decide_eq_true (by omega)
          have hwr := Kd.C_below HR.out HS.out.bel
          obtain ⟨ad, rfl, a0, a1, a2⟩ := arg_elem hwr hin
          have p0 : (i : Int) ≤ 300 := by omega
          have p1 : (0 : Int) ≤ (i : Int) := by omega
          have p2 : (i : Int) < (l.length : Int) := by omega
          have HX := Aside0.mk (show pushL (pushes l i) l[i] = pushes l (i + 1) by simp only [pushes]; rw [show l.getD i zeroTm = l[i] by simp [List.getD_eq_getElem?_getD, List.getElem?_eq_getElem hin]])
          have HL := Aside0.mk (show (pushes l i).length ≤ 100000 by rw [pushes_len]; omega)
          have HIN := Aside0.mk hin
          generalize l[i] = x at a0 a1 a2 HX
          clear hwr hin
          go_wp2_with (go_at_call 11; (with_reducible refine (HS.out.push HL.out x HX.out).mono ?_); rintro e w2 ⟨rfl, hS⟩; have HS2 := Aside0.mk hS; clear hS HS)
          go_roundg k1
          case measure => have := HK.out; omega
          case rel => exact ⟨i + 1, by first | rfl | go_num, ⟨by have := HK.out; omega, by have := HIN.out; omega⟩, HS2⟩
        · have c1 : decide ((i : Int) < (l.length : Int)) = false := decide_eq_false (by omega)
          have c1n : decide (i < l.length) = false := decide_eq_false (by omega)
          obtain ⟨n, hn⟩ : ∃ n, n = l.length := ⟨_, rfl⟩
          obtain rfl : i = n := by have := HK.out; omega
          have H0 := Aside0.mk (show (pushes l i).length = i ∧ isHeap (pushes l i) ∧ tot (pushes l i) = tot l by
            refine ⟨pushes_len l i, pushes_heap l i, ?_⟩
            rw [tot_perm (pushes_perm l i (by omega)), hn, List.take_length])
          have hi300 : i ≤ 300 := by omega
          have HN := Aside0.mk hn
          obtain ⟨wo, rfl⟩ : ∃ wo : World, wo = wr := ⟨_, rfl⟩
          have HS0 : ∃ v, St w (fun _ => False) (fun _ => True) (boxT w1.heap.size 30 #[v] :: rowT kTm 23 v (pushes l i) :: [boxT wo.heap.size 23 #[.int .i64 0, .int .i64 0, .int .i64 0]]) (wo.alloc (.cells #[.int .i64 0, .int .i64 0, .int .i64 0] 23)) := by
            obtain ⟨v, hS⟩ := HS.out
            exact ⟨v, (hS.box _ _).rot⟩
          replace HS0 := Aside0.mk HS0
          clear HK hin HS hn hbig
          go_wp2
          go_loopg [7, 8, 9, 10] (i + 1) (fun kq v7 v8 v9 v10 w' => ∃ (k : Nat) (hs : List Tm) (z : Tm), v7 = .int .i64 (wrap64 (tot l - tot hs)) ∧ v8 = .int .i64 (k : Int) ∧ Aside0 (k + kq = i + 1 ∧ k ≤ i ∧ hs.length = i - k ∧ isHeap hs ∧ (0 < k → ∀ y ∈ hs, le z y)) ∧ Aside0 (One w w1.heap.size hs wo.heap.size z w'))
          case atStart => exact ⟨0, pushes l i, zeroTm, by rw [H0.out.2.2, Int.sub_self, show wrap64 0 = 0 by decide +kernel], rfl, ⟨by omega, Nat.zero_le _, by rw [H0.out.1]; rfl, H0.out.2.1, fun h => by omega⟩, HS0⟩
          case round =>
            clear HS0 H0
            obtain ⟨k, hs, z, rfl, rfl, HK, HS⟩ := hrel
            cases gk with
            | zero => exact absurd HK.out.1 (by have := HK.out.2.1; omega)
            | succ k1 =>
              obtain ⟨q1, q2, q3, q4, q5⟩ := HK.out
              by_cases hin : k < i
              · cases hs with
                | nil => rw [List.length_nil] at q3; omega
                | cons x hs =>
                  have c1 : decide ((k : Int) < (l.length : Int)) = true := decide_eq_true (by have := HN.out; omega)
                  have c1n : decide (k < l.length) = true := decide_eq_true (by have := HN.out; omega)
                  have hk0 : (k : Int) ≤ 300 := by omega
                  have HP := Aside0.mk (show (popL (x :: hs)).length = i - (k + 1) ∧ isHeap (popL (x :: hs)) ∧ (∀ y ∈ popL (x :: hs), le x y) ∧ tot l - tot (popL (x :: hs)) = tot l - tot (x :: hs) + val x by
                    refine ⟨by rw [popL_len, q3]; omega, pop_heap q4, fun y hy => head_least q4 y (List.mem_cons_of_mem _ ((pop_perm x hs).mem_iff.mp hy)), ?_⟩
                    rw [tot_perm (pop_perm x hs), tot_cons]
                    omega)
                  have HL := Aside0.mk (show hs.length ≤ 100000 by simp at q3; omega)
                  obtain ⟨S, hS0⟩ : ∃ S, tot l - tot (x :: hs) = S := ⟨_, rfl⟩
                  rw [hS0] at HP ⊢
                  have HKK := Aside0.mk hin
                  by_cases hk1 : 0 < k
                  · have d1 : decide (0 < k) = true := decide_eq_true hk1
                    have hcz := q5 hk1 x (by simp)
                    obtain ⟨d, hd⟩ : ∃ d, cmpT z x = d := ⟨_, rfl⟩
                    have d2 : decide (0 < d) = false := decide_eq_false (by unfold le at hcz; omega)
                    have HD := Aside0.mk hd
                    clear hcz hd q1 q2 q3 q4 q5 hin hk1 hS0
                    go_wp2_with (first | (go_at_call 12; (with_reducible refine (One.pop HS.out HL.out).mono ?_); rintro e w4 ⟨rfl, hS⟩; unfold Tm.agg; obtain ⟨hP, hlt⟩ := hS.tbox x; have HS4 := Aside0.mk hP; obtain ⟨⟨⟨f0, f1, f2⟩, ⟨f3, f4, f5⟩, f6⟩, ⟨g0, g1, g2⟩⟩ := hP.cells; clear hS HS hP) | (go_at_call 10; (with_reducible refine (cmp_v _ _ _ HD.out).mono ?_); rintro e w5 ⟨rfl, hb⟩; have hS := HS4.out.below hb; clear f0 f1 f2 f3 f4 f5 f6 g0 g1 g2; obtain ⟨⟨⟨f0, f1, f2⟩, ⟨f3, f4, f5⟩, f6⟩, ⟨g0, g1, g2⟩⟩ := hS.cells; have HS5 := Aside0.mk (hS.put x); clear hS HS4 hb))
                    go_roundg k1
                    case measure => have := HK.out; omega
                    case rel => exact ⟨k + 1, popL (x :: hs), x, by rw [HP.out.2.2.2]; first | (exact congrArg _ (w_sum S x)) | (rw [← w_sum]), by first | rfl | go_num, ⟨by have := HK.out; omega, by have := HKK.out; omega, HP.out.1, HP.out.2.1, fun _ => HP.out.2.2.1⟩, HS5⟩
                  · obtain rfl : k = 0 := by omega
                    clear q1 q2 q3 q4 q5 hin hk1 hS0
                    go_wp2_with (first | (go_at_call 12; (with_reducible refine (One.pop HS.out HL.out).mono ?_); rintro e w4 ⟨rfl, hS⟩; unfold Tm.agg; obtain ⟨⟨f0, f1, f2⟩, ⟨f3, f4, f5⟩, f6⟩ := hS.cells; have HS5 := Aside0.mk ((hS.put x).below (below_alloc (Below.refl _ _) (.cells #[.int .i64 x.t, .int .i64 x.s, .int .i64 x.g] 23))); clear hS HS))
                    go_roundg k1
                    case measure => have := HK.out; omega
                    case rel => exact ⟨1, popL (x :: hs), x, by rw [HP.out.2.2.2]; first | (exact congrArg _ (w_sum S x)) | (rw [← w_sum]), by first | rfl | go_num, ⟨by have := HK.out; omega, by have := HKK.out; omega, HP.out.1, HP.out.2.1, fun _ => HP.out.2.2.1⟩, HS5⟩
              · obtain rfl : k = i := by omega
                have c1 : decide ((k : Int) < (l.length : Int)) = false := decide_eq_false (by have := HN.out; omega)
                have c1n : decide (k < l.length) = false := decide_eq_false (by have := HN.out; omega)
                obtain rfl : hs = [] := List.length_eq_zero_iff.mp (by omega)
                rw [show tot l - tot [] = tot l by simp [tot]]
                clear q1 q2 q3 q4 q5 hin HK
                go_wp2
                go_loopg [7, 11] (k + 1) (fun kq v7 v11 w' => ∃ j : Nat, v7 = .int .i64 (wrap64 (tot l - tot (l.take j))) ∧ v11 = .int .i64 (j : Int) ∧ Aside0 (j + kq = k + 1 ∧ j ≤ k) ∧ Aside0 (One w w1.heap.size [] wo.heap.size z w'))
                case atStart => exact ⟨0, by rw [List.take_zero, show tot l - tot [] = tot l by simp [tot]], rfl, ⟨by omega, Nat.zero_le _⟩, HS⟩
                case round =>
                  clear HS
                  obtain ⟨j, rfl, rfl, HK, HS⟩ := hrel
                  cases gk with
                  | zero => exact absurd HK.out (by omega)
                  | succ k2 =>
                    by_cases hin : j < l.length
                    · have c2 : decide ((j : Int) < (l.length : Int)) = true := decide_eq_true (by omega)
                      have c2n : decide (j < l.length) = true := decide_eq_true (by omega)
                      have hwr := Kd.C_below HR.out (Hp.bel HS.out)
                      obtain ⟨ad, rfl, a0, a1, a2⟩ := arg_elem hwr hin
                      have p0 : (j : Int) ≤ 300 := by have := HK.out; omega
                      have p1 : (0 : Int) ≤ (j : Int) := by omega
                      have p2 : (j : Int) < (l.length : Int) := by omega
                      have HT := Aside0.mk (tot_take hin)
                      obtain ⟨S, hS0⟩ : ∃ S, tot l - tot (l.take j) = S := ⟨_, rfl⟩
                      have HS0 := Aside0.mk hS0
                      rw [hS0]
                      have HJ := Aside0.mk (show j < k by have := HN.out; omega)
                      generalize l[j] = x at a0 a1 a2 HT
                      clear hwr hin hS0
                      go_wp2
                      go_quiet (fail)
                      go_wp2
                      go_roundg k2
                      case measure => have := HK.out; omega
                      case rel => exact ⟨j + 1, by rw [HT.out, show tot l - (tot (l.take j) + val x) = S - val x by have := HS0.out; omega]; first | (exact congrArg _ (w_dif S x)) | (rw [← w_dif]), by first | rfl | go_num, ⟨by have := HK.out; omega, by have := HJ.out; omega⟩, ⟨Hp.drewN HS.out _⟩⟩
                    · have c2 : decide ((j : Int) < (l.length : Int)) = false := decide_eq_false (by omega)
                      have c2n : decide (j < l.length) = false := decide_eq_false (by omega)
                      obtain rfl : j = k := by have := HK.out; have := HN.out; omega
                      have e0 : wrap64 (tot l - tot (l.take j)) = 0 := by
                        rw [HN.out, List.take_length, Int.sub_self]; decide +kernel
                      rw [e0]
                      clear hin e0 HK
                      go_wp2_with (first | (go_at_call 12; (with_reducible refine (One.pop_nil HS.out).mono ?_); rintro e w6 ⟨rfl, hS⟩; unfold Tm.agg zeroTm; have HS6 := Aside0.mk (hS.below (below_alloc (Below.refl _ _) (.cells #[.int .i64 0, .int .i64 0, .int .i64 0] 23))); clear hS HS) | (go_at_call 13; (with_reducible refine (One.len HS6.out).mono ?_); rintro e w7 ⟨rfl, rfl⟩))
                      go_ret
                      exact ⟨rfl, Hp.bel HS6.out⟩
end Go.Proofs.Ytkbjihnkbfjhmaa.Heap
