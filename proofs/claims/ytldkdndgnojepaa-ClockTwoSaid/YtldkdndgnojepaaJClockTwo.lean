/- ClockTwo: two ticks wake whom one of both together wakes, in the same turn. No condition. -/
import Derived.Test.YtldkdndgnojepaaMLib2
import Derived.Test.YtldkdndgnojepaaWGuard
namespace Go.Proofs.Ytldkdndgnojepaa.Heap
open Go Go.RowKit Go.Shelf Go.Proofs.Ytldkdndgnojepaa.Own Go.Proofs.YtldkdndgnojepaaW.PrintWords Go.Proofs.YtldkdndgnojepaaW.PrintLast Go.Proofs.YtldkdndgnojepaaW.PrintMore
set_option linter.unusedVariables false
set_option linter.unusedSimpArgs false
set_option maxRecDepth 100000 in
set_option maxHeartbeats 8000000 in
theorem two_calls (w : World) (A : Option Addr) (c : Nat) (l : List Int) (hr : Kd.C (Kd.int .u8) w A l.length l) (hc : l.length ≤ c) (wf : (∀ x ∈ l, (Lit.int .u8 x).wf = true) ∧ l.length * 1 ≤ 140737488351232 ∧ l.length ≤ maxLen) (a : Int) (wa : (Lit.int .u8 a).wf = true) (b : Int) (wb : (Lit.int .u8 b).wf = true) :
    Calls Try.prog 3 #[.slice A l.length c, .int .u8 a, .int .u8 b] w fun e w' => e = .returned (.bool true) ∧ Below w.heap.size w w' := by
  obtain ⟨a0, a1⟩ := u8_bound wa
  obtain ⟨b0, b1⟩ := u8_bound wb
  have HB := Aside0.mk (fun x hx => u8_bound (wf.1 x hx))
  have HM := Aside0.mk wf.2.2
  have HC := Aside0.mk hc
  have HS0 := Aside0.mk (law_start w hr)
  obtain ⟨S0, hS0⟩ : ∃ S, sleptN l (many l) = S := ⟨_, rfl⟩
  have hlen0 : S0.length ≤ 64 := by rw [← hS0, sleptN_len]; exact (many_le l).2
  obtain ⟨t1, t2, t3, t4⟩ := tick_ok0 (now := 0) a0 (by omega) S0
  rw [Int.zero_add] at t2 t3 t4
  have hd1 := due_len a S0
  obtain ⟨t5, t6, t7, t8⟩ := tick_ok0 (now := a) b0 (by omega) (rest a S0)
  have hd2 := due_len (a + b) (rest a S0)
  obtain ⟨t9, t10, t11, t12⟩ := tick_ok0 (now := 0) (n := a + b) (by omega) (by omega) S0
  rw [Int.zero_add] at t10 t11 t12
  obtain ⟨d1, d2⟩ := due_rest (show a ≤ a + b by omega) S0
  have d3 : gs (due a S0) ++ gs (due (a + b) (rest a S0)) = gs (due (a + b) S0) := by rw [d1]; simp [gs]
  have hd3 := due_len (a + b) S0
  have g1 := gs_len (due a S0)
  have g2 := gs_len (due (a + b) (rest a S0))
  have g3 := gs_len (due (a + b) S0)
  rw [d2] at t11 hd3
  generalize gs (due a S0) = W1 at t2 d3 g1
  generalize gs (due (a + b) (rest a S0)) = W2 at t6 d3 g2
  generalize gs (due (a + b) S0) = W3 at t10 d3 g3
  generalize due a S0 = D1 at hd1 g1
  generalize due (a + b) (rest a S0) = D2 at hd2 g2
  generalize due (a + b) S0 = D3 at hd3 g3
  generalize rest (a + b) (rest a S0) = S2 at t7 t11 hd2 hd3
  generalize rest a S0 = S1 at t3 t6 t7 hd1 hd2
  obtain ⟨n1, hn1⟩ : ∃ n, W1.length = n := ⟨_, rfl⟩
  obtain ⟨n2, hn2⟩ : ∃ n, W2.length = n := ⟨_, rfl⟩
  obtain ⟨n3, hn3⟩ : ∃ n, W3.length = n := ⟨_, rfl⟩
  obtain ⟨k2, hk2⟩ : ∃ n, S2.length = n := ⟨_, rfl⟩
  have HT1 := Aside0.mk (And.intro t1 (And.intro t2 (And.intro hn1 (And.intro t3 t4))))
  have HT2 := Aside0.mk (And.intro t5 (And.intro t6 (And.intro hn2 (And.intro t7 t8))))
  have HT3 := Aside0.mk (And.intro t9 (And.intro t10 (And.intro hn3 (And.intro t11 t12))))
  have HL := Aside0.mk (show S0.length ≤ 100000 ∧ S1.length ≤ 100000 ∧ S2.length ≤ 100000 ∧ n1 ≤ 64 ∧ n2 ≤ 64 by omega)
  have HD := Aside0.mk d3
  have HK := Aside0.mk hk2
  have h40 : a ≤ 1099511627776 := by omega
  have HSL := Aside0.mk hS0
  have HN := Aside0.mk (show (([] ++ W1) ++ W2).length = n3 by rw [List.nil_append, d3, hn3])
  have HN3 := Aside0.mk (show n3 ≤ 1000000 by rw [← hn3, ← d3]; simp; omega)
  clear t1 t2 t3 t4 t5 t6 t7 t8 t9 t10 t11 t12 hd1 hd2 hd3 d1 d2 d3 g1 g2 g3 hn1 hn2 hn3 hk2 hlen0 hS0 wf wa wb hr hc
  go_enter Try.func3, Try.ntmps3
  go_wp2_with (first
    | (go_at_call 9; (with_reducible refine (shown_calls _).mono ?_); rintro e w1 ⟨rfl, hb⟩; have HS1 := Aside0.mk (HS0.out.below hb); clear hb HS0)
    | (go_at_call 10; (with_reducible refine (slept_calls HS1.out HC.out HM.out HB.out).mono ?_); rintro e w2 ⟨p1, rfl, hS⟩; rw [HSL.out] at hS; have HS2 := Aside0.mk hS; clear hS HS1)
    | (go_at_call 10; (with_reducible refine (slept_calls HS2.out.swap HC.out HM.out HB.out).mono ?_); rintro e w3 ⟨p2, rfl, hS⟩; rw [HSL.out] at hS; have HS3 := Aside0.mk hS; clear hS HS2)
    | (go_at_call 11; (with_reducible refine (ck_tick_to HS3.out.nth2 HL.out.1 a (by decide) 0 W1 n1 S1 a HT1.out.1 HT1.out.2.1 HT1.out.2.2.1 HT1.out.2.2.2.1 HT1.out.2.2.2.2).mono ?_); rintro e w4 ⟨A4, c4, rfl, hc4, hS⟩; have HS4 := Aside0.mk hS; have HC4 := Aside0.mk hc4; clear hS HS3 hc4)
    | (go_at_call 11; (with_reducible refine (ck_tick_to HS4.out HL.out.2.1 b (by omega) 0 W2 n2 S2 (a + b) HT2.out.1 HT2.out.2.1 HT2.out.2.2.1 HT2.out.2.2.2.1 HT2.out.2.2.2.2).mono ?_); rintro e w5 ⟨A5, c5, rfl, hc5, hS⟩; have HS5 := Aside0.mk hS; have HC5 := Aside0.mk hc5; clear hS HS4 hc5)
    | (go_at_call 11; (with_reducible refine (ck_tick_to (St.pick (ts1 := [_, _, _]) HS5.out) HL.out.1 (a + b) (by decide) 0 W3 n3 S2 (a + b) HT3.out.1 HT3.out.2.1 HT3.out.2.2.1 HT3.out.2.2.2.1 HT3.out.2.2.2.2).mono ?_); rintro e w6 ⟨A6, c6, rfl, hc6, hS⟩; have HS6 := Aside0.mk (lit_row hS [] (by decide)); have HC6 := Aside0.mk hc6; clear hS HS5 hc6)
    | (at_builtin; (refine gate_guard (by rfl) ?_; refine St.append_rows (Kd.int .i64) rfl (.tmp 59) (.tmp 60) 26 3 (.int .i64 0) 8 rfl Try.underlying26 infoI rfl (by decide) (by decide) (.slice (some ⟨w6.heap.size, 0, none⟩) 0 0) [] W1 A4 n1 c4 rfl rfl (nums_n (St.pick (ts1 := [_, _, _, _, _]) HS6.out) HT1.out.2.2.1) (by have := HL.out; simp; omega) ?_; intro v7 w7 hS; have HS7 := Aside0.mk hS; clear hS HS6))
    | (at_builtin; (refine gate_guard (by rfl) ?_; refine St.append_rows (Kd.int .i64) rfl (.tmp 61) (.tmp 62) 26 3 (.int .i64 0) 8 rfl Try.underlying26 infoI rfl (by decide) (by decide) v7 ([] ++ W1) W2 A5 n2 c5 rfl rfl (nums_n (St.pick (ts1 := [_, _, _, _]) HS7.out) HT2.out.2.2.1) (by have := HL.out; have := HT1.out.2.2.1; simp; omega) ?_; intro v8 w8 hS; have hv := row_nums hS HN.out; obtain ⟨A8, c8, rfl, hc8, hS8⟩ := hv; have HS8 := Aside0.mk hS8; have HC8 := Aside0.mk hc8; clear hS hS8 hc8 HS7))
    | (go_at_call 12; (with_reducible refine (ints_n _ (nums_now HS8.out _ HN.out) HC8.out (nums_now HS8.out.drop.drop _ HT3.out.2.2.1) HC6.out HN3.out true (decide_eq_true (by rw [List.nil_append]; exact HD.out))).mono ?_); rintro e w9 ⟨rfl, hd⟩; have HS9 := Aside0.mk (HS8.out.drawn hd); clear hd HS8)
    | (go_at_call 13; (with_reducible refine (ck_asleep_n (St.pick (ts1 := [_, _, _]) HS9.out) HL.out.2.2.1 k2 HK.out).mono ?_); rintro e w10 ⟨A10, c10, rfl, hc10, hS⟩; have HS10 := Aside0.mk hS; have HC10 := Aside0.mk hc10; clear hS HS9 hc10)
    | (go_at_call 13; (with_reducible refine (ck_asleep_n (St.pick (ts1 := [_, _, _]) HS10.out) HL.out.2.2.1 k2 HK.out).mono ?_); rintro e w11 ⟨A11, c11, rfl, hc11, hS⟩; have HS11 := Aside0.mk hS; have HC11 := Aside0.mk hc11; clear hS HS10 hc11)
    | (go_at_call 12; (with_reducible refine (ints_n _ (nums_now (St.pick (ts1 := [_, _, _]) HS11.out) _ (by rw [gs_len]; exact HK.out)) HC10.out (nums_now HS11.out.drop _ (by rw [gs_len]; exact HK.out)) HC11.out (by have := HL.out; have := HK.out; omega) true (decide_eq_true rfl)).mono ?_); rintro e w12 ⟨rfl, hd⟩; have HS12 := Aside0.mk (HS11.out.drawn hd); clear hd HS11)
    | (go_at_call 14; (with_reducible refine (ck_now HS12.out).mono ?_); rintro e w13 ⟨rfl, rfl⟩)
    | (go_at_call 14; (with_reducible refine (ck_now (St.pick (ts1 := [_, _]) HS12.out)).mono ?_); rintro e w13 ⟨rfl, rfl⟩))
  go_ret
  exact ⟨rfl, HS12.out.bel⟩
end Go.Proofs.Ytldkdndgnojepaa.Heap
