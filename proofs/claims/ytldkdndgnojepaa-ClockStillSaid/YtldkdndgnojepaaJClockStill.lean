/- ClockStill: a tick of 0 wakes nobody who was asleep behind a tick; who is woken by hand doesn't wake by itself. No condition. -/
import Derived.Test.YtldkdndgnojepaaMLib2
namespace Go.Proofs.Ytldkdndgnojepaa.Heap
open Go Go.RowKit Go.Shelf Go.Proofs.Ytldkdndgnojepaa.Own Go.Proofs.YtldkdndgnojepaaW.PrintWords Go.Proofs.YtldkdndgnojepaaW.PrintLast Go.Proofs.YtldkdndgnojepaaW.PrintMore
set_option linter.unusedVariables false
set_option linter.unusedSimpArgs false
theorem due_none {m : Int} {S : List Tm} (h : ∀ x ∈ S, m < x.t) (hr : Ris S) : due m S = [] ∧ rest m S = S := by
  obtain ⟨h1, h2⟩ := due_filter m hr
  rw [h1, h2]
  exact ⟨List.filter_eq_nil_iff.mpr (fun x hx => by have := h x hx; simp; omega), List.filter_eq_self.mpr (fun x hx => by have := h x hx; simp; omega)⟩
theorem due_all' {m : Int} : ∀ {S : List Tm}, (∀ x ∈ S, x.t ≤ m) → due m S = S ∧ rest m S = []
  | [], _ => ⟨rfl, rfl⟩
  | x :: S, h => by
    have ih := due_all' (m := m) (S := S) (fun y hy => h y (List.mem_cons_of_mem _ hy))
    have hx := h x List.mem_cons_self
    simp only [due, rest] at ih ⊢
    simp only [List.takeWhile_cons, List.dropWhile_cons, decide_eq_true hx, if_true, ih.1, ih.2]
    exact ⟨trivial, trivial⟩
theorem slept_t (l : List Int) (hb : ∀ x ∈ l, 0 ≤ x ∧ x ≤ 255) (k : Nat) (hk : k ≤ l.length) : ∀ x ∈ sleptN l k, 1 ≤ x.t ∧ x.t ≤ 256 := by
  intro x hx
  obtain ⟨j, hj, rfl⟩ := (sleptN_mem l).mp hx
  have h1 := hb l[j] (List.getElem_mem _)
  have h2 : (oneT l j).t = 1 + l[j] := by
    show 1 + l.getD j 0 = _
    rw [List.getD_eq_getElem?_getD, List.getElem?_eq_getElem (by omega)]; rfl
  omega
set_option maxRecDepth 100000 in
set_option maxHeartbeats 8000000 in
theorem still_calls (w : World) (A : Option Addr) (c : Nat) (l : List Int) (hr : Kd.C (Kd.int .u8) w A l.length l) (hc : l.length ≤ c) (wf : (∀ x ∈ l, (Lit.int .u8 x).wf = true) ∧ l.length * 1 ≤ 140737488351232 ∧ l.length ≤ maxLen) (n : Int) (wn : (Lit.int .u8 n).wf = true) (g : Int) (wg : (Lit.int .u8 g).wf = true) :
    Calls Try.prog 8 #[.slice A l.length c, .int .u8 n, .int .u8 g] w fun e w' => e = .returned (.bool true) ∧ Below w.heap.size w w' := by
  obtain ⟨n0, n1⟩ := u8_bound wn
  obtain ⟨g0, g1⟩ := u8_bound wg
  have HB := Aside0.mk (fun x hx => u8_bound (wf.1 x hx))
  have HM := Aside0.mk wf.2.2
  have HC := Aside0.mk hc
  have HS0 := Aside0.mk (law_start w hr)
  have hsl := slept_t l HB.out (many l) (many_le l).1
  have hri := srt_ris (sleptN_srt l (many l))
  obtain ⟨S0, hS0⟩ : ∃ S, sleptN l (many l) = S := ⟨_, rfl⟩
  rw [hS0] at hsl hri
  have hlen0 : S0.length ≤ 64 := by rw [← hS0, sleptN_len]; exact (many_le l).2
  obtain ⟨who, hwho⟩ : ∃ x, 1 + g % 64 = x := ⟨_, rfl⟩
  have hw1 : 1 ≤ who ∧ who ≤ 64 := by omega
  obtain ⟨t1, t2, t3, t4⟩ := tick_ok0 (now := 0) n0 (by omega) S0
  rw [Int.zero_add] at t2 t3 t4
  have hd1 := due_len n S0
  have hr1 := ris_rest n hri
  have hs1 : ∀ x ∈ rest n S0, n < x.t ∧ x.t ≤ 256 := fun x hx => by
    rw [(due_filter n hri).2] at hx
    obtain ⟨h1, h2⟩ := List.mem_filter.mp hx
    exact ⟨by simpa using h2, (hsl x h1).2⟩
  generalize due n S0 = D1 at t2 hd1
  generalize rest n S0 = S1 at t3 hd1 hr1 hs1
  obtain ⟨t5, t6, t7, t8⟩ := tick_ok0 (now := n) (n := 0) (by decide) (by omega) S1
  rw [Int.add_zero] at t6 t7 t8
  obtain ⟨d1, d2⟩ := due_none (m := n) (fun x hx => (hs1 x hx).1) hr1
  rw [d1, show gs [] = [] from rfl] at t6
  rw [d2] at t7
  obtain ⟨t9, t10, t11, t12⟩ := tick_ok0 (now := n) (n := 1000) (by decide) (by omega) (dropG who S1)
  obtain ⟨d3, d4⟩ := due_all' (m := n + 1000) (S := dropG who S1) (fun x hx => by have := (hs1 x (List.mem_filter.mp hx).1).2; omega)
  rw [d3, gs_dropG] at t10
  rw [d4] at t11
  have hdl := dropG_len who S1
  obtain ⟨L, hL⟩ : ∃ L, gs S1 = L := ⟨_, rfl⟩
  rw [hL] at t10
  have hLl : L.length = S1.length := by rw [← hL, gs_len]
  obtain ⟨bw, hbw⟩ : ∃ b, decide (who ∈ L) = b := ⟨_, rfl⟩
  obtain ⟨k1, hk1⟩ : ∃ k, L.length = k := ⟨_, rfl⟩
  obtain ⟨k2, hk2⟩ : ∃ k, (fl who L).length = k := ⟨_, rfl⟩
  obtain ⟨W1, hW1⟩ : ∃ W, gs D1 = W := ⟨_, rfl⟩
  rw [hW1] at t2
  have HT1 := Aside0.mk (And.intro t1 (And.intro t2 (And.intro t3 t4)))
  have HT2 := Aside0.mk (And.intro t5 (And.intro t6 (And.intro t7 t8)))
  have HT3 := Aside0.mk (And.intro t9 (And.intro t10 (And.intro hk2 (And.intro t11 t12))))
  have HLN := Aside0.mk (show S0.length ≤ 100000 ∧ S1.length ≤ 100000 ∧ (dropG who S1).length ≤ 100000 by omega)
  have HK := Aside0.mk (show S1.length = k1 by omega)
  have HK1 := Aside0.mk hk1
  have HLG := Aside0.mk hL
  have HBW := Aside0.mk (show decide (who ∈ gs S1) = bw by rw [hL, hbw])
  have HBI := Aside0.mk hbw
  have HSL := Aside0.mk hS0
  have hk64 : (k1 : Int) ≤ 64 := by omega
  have hw0 : 1 ≤ who := hw1.1
  have hw2 : who ≤ 64 := hw1.2
  clear t1 t2 t3 t4 t5 t6 t7 t8 t9 t10 t11 t12 d1 d2 d3 d4 hsl hri hlen0 hS0 hd1 hr1 hs1 hdl hL hLl hbw hk1 hk2 hW1 hw1 wf wn wg hr hc
  go_enter Try.func8, Try.ntmps8
  go_wp2_with (first
    | (go_at_call 9; (with_reducible refine (shown_calls _).mono ?_); rintro e w1 ⟨rfl, hb⟩; have HS1 := Aside0.mk (HS0.out.below hb); clear hb HS0)
    | (go_at_call 10; (with_reducible refine (slept_calls HS1.out HC.out HM.out HB.out).mono ?_); rintro e w2 ⟨p1, rfl, hS⟩; rw [HSL.out] at hS; have HS2 := Aside0.mk hS; clear hS HS1)
    | (go_at_call 11; (with_reducible refine (ck_tick_to HS2.out HLN.out.1 n (by decide) 0 W1 _ S1 n HT1.out.1 HT1.out.2.1 rfl HT1.out.2.2.1 HT1.out.2.2.2).mono ?_); rintro e w3 ⟨A3, c3, rfl, hc3, hS⟩; have HS3 := Aside0.mk hS; clear hS HS2 hc3)
    | (go_at_call 13; (with_reducible refine (ck_asleep_n HS3.out HLN.out.2.1 k1 HK.out).mono ?_); rintro e w4 ⟨A4, c4, rfl, hc4, hS⟩; rw [HLG.out] at hS; have HS4 := Aside0.mk hS; have HC4 := Aside0.mk hc4; clear hS HS3 hc4)
    | (go_at_call 11; (with_reducible refine (ck_tick_to HS4.out HLN.out.2.1 0 (by omega) 0 [] 0 S1 n HT2.out.1 HT2.out.2.1 rfl HT2.out.2.2.1 HT2.out.2.2.2).mono ?_); rintro e w5 ⟨A5, c5, rfl, hc5, hS⟩; have HS5 := Aside0.mk hS; clear hS HS4 hc5)
    | (go_at_call 19; (with_reducible refine (ck_wake HS5.out HLN.out.2.1 who).mono ?_); rintro e w6 ⟨rfl, hS⟩; rw [HBW.out]; have HS6 := Aside0.mk hS; clear hS HS5)
    | (go_at_call 11; (with_reducible refine (ck_tick_to HS6.out HLN.out.2.2 1000 (by omega) 0 (fl who L) k2 [] (n + 1000) HT3.out.1 HT3.out.2.1 HT3.out.2.2.1 HT3.out.2.2.2.1 HT3.out.2.2.2.2).mono ?_); rintro e w7 ⟨A7, c7, rfl, hc7, hS⟩; have HS7 := Aside0.mk (hS.nil (Kd.int .i64) 3); have HC7 := Aside0.mk hc7; clear hS HS6 hc7))
  have HC4c := HC4.out
  go_loopg [16, 17] (k1 + 1) (fun kq v16 v17 w' => ∃ (k : Nat) (v : Value), v16 = v ∧ v17 = .int .i64 (k : Int) ∧ Aside0 (k + kq = k1 + 1 ∧ k ≤ k1) ∧ Aside0 (St w (fun _ => False) (fun _ => True) (rowT (Kd.int .i64) 3 v (fl who (L.take k)) :: ckT p1 [] (n + 1000) ((many l : Nat) : Int) :: Nums A7 (fl who L) :: Nums A5 [] :: Nums A4 L :: Nums A3 W1 :: Bytes A l :: []) w'))
  case atStart => exact ⟨0, _, rfl, rfl, ⟨by omega, Nat.zero_le _⟩, HS7⟩
  case round =>
    clear HS7
    obtain ⟨k, v, rfl, rfl, HK2, HS⟩ := hrel
    have hvs := HS.out.slice
    obtain ⟨Av, cv, hvs⟩ := hvs
    obtain ⟨nk, hnk⟩ : ∃ nk, (fl who (L.take k)).length = nk := ⟨_, rfl⟩
    rw [hnk] at hvs
    subst hvs
    have HNK := Aside0.mk hnk
    clear hnk
    cases gk with
    | zero => exact absurd HK2.out (by omega)
    | succ k2' =>
      have hkk : (k : Int) ≤ 64 := by have := HK2.out; omega
      have hkz : (0 : Int) ≤ (k : Int) := by omega
      by_cases hin : k < k1
      · have hkl : k < L.length := by have := HK1.out; omega
        have d1 : decide ((k : Int) < (k1 : Int)) = true := decide_eq_true (by omega)
        have d1n : decide (k < k1) = true := decide_eq_true hin
        have hlt : (k : Int) < (k1 : Int) := by omega
        obtain ⟨ad, rfl, a0⟩ := at_num (nums_now (St.pick (ts1 := [_, _, _, _]) HS.out) k1 HK1.out) hkl
        have HX := Aside0.mk (fl_take who L hkl)
        have HFL := Aside0.mk (show (fl who (L.take k)).length ≤ 64 by have h1 := fl_len who (L.take k); rw [List.length_take] at h1; omega)
        generalize L[k] = x at a0 HX
        have HIN := Aside0.mk hin
        clear hin hkl
        by_cases hx : x = who
        · have e1 : (x != who) = false := by rw [hx]; simp
          have e2 : (x == who) = true := by rw [hx]; simp
          have HX2 := Aside0.mk (show fl who (L.take (k + 1)) = fl who (L.take k) by rw [HX.out, if_pos hx, List.append_nil])
          clear hx
          go_wp2
          go_roundg k2'
          case measure => have := HK2.out; omega
          case rel => exact ⟨k + 1, _, rfl, by first | rfl | go_num, ⟨by have := HK2.out; omega, by have := HIN.out; omega⟩, ⟨by rw [HX2.out]; exact HS.out⟩⟩
        · have e1 : (x != who) = true := by simpa using hx
          have e2 : (x == who) = false := by simpa using hx
          have HX2 := Aside0.mk (show fl who (L.take (k + 1)) = fl who (L.take k) ++ [x] by rw [HX.out, if_neg hx])
          clear hx
          go_wp2_with (at_builtin; (refine St.append (Kd.int .i64) rfl (.tmp 56) (.tmp 61) 26 3 (.int .i64 0) 8 rfl Try.underlying26 infoI rfl (by decide) (by decide) (.slice Av nk cv) (fl who (L.take k)) x [.int .i64 x] rfl (by simp [Act.eval]) (HS.out.pure (fun W => rfl)) (by have := HFL.out; omega) ?_; intro v1 w8 hS; rw [← HX2.out] at hS; have HS8 := Aside0.mk hS; clear hS HS))
          go_roundg k2'
          case measure => have := HK2.out; omega
          case rel => exact ⟨k + 1, _, rfl, by first | rfl | go_num, ⟨by have := HK2.out; omega, by have := HIN.out; omega⟩, HS8⟩
      · have d1 : decide ((k : Int) < (k1 : Int)) = false := decide_eq_false (by omega)
        have d1n : decide (k < k1) = false := decide_eq_false hin
        have hke : L.take k = L := List.take_of_length_le (by have := HK1.out; omega)
        have h1 := HS.out
        rw [hke] at h1
        obtain ⟨A9, c9, hv9, hc9, h2⟩ := row_nums h1 HT3.out.2.2.1
        injection hv9 with q1 q2 q3
        replace q1 := q1.symm
        replace q2 := q2.symm
        replace q3 := q3.symm
        subst q1
        subst q2
        subst q3
        have HS9 := Aside0.mk h2
        have HC9 := Aside0.mk hc9
        clear hin h1 h2 hc9 hke HS
        go_wp2_with (first
          | (go_at_call 15; (with_reducible refine (in_n _ (nums_now (St.pick (ts1 := [_, _, _, _]) HS9.out) k1 HK1.out) HC4.out who (by omega) bw HBI.out).mono ?_); rintro e w10 ⟨rfl, hd⟩; have HS10 := Aside0.mk (HS9.out.drawn hd); clear hd HS9)
          | (go_at_call 12; (with_reducible refine (ints_n _ (nums_now HS10.out.drop.drop k2 HT3.out.2.2.1) HC7.out (nums_now HS10.out k2 HT3.out.2.2.1) HC9.out (by have := fl_len who L; have := HT3.out.2.2.1; have := HK1.out; omega) true (decide_eq_true rfl)).mono ?_); rintro e w11 ⟨rfl, hd⟩; have HS11 := Aside0.mk (HS10.out.drawn hd); clear hd HS10)
          | (go_at_call 13; (with_reducible refine (ck_asleep_n HS11.out.swap (by decide) 0 rfl).mono ?_); rintro e w12 ⟨A12, c12, rfl, hc12, hS⟩; have HS12 := Aside0.mk hS.bel; clear hS HS11 hc12))
        go_ret
        exact ⟨rfl, HS12.out⟩
end Go.Proofs.Ytldkdndgnojepaa.Heap
