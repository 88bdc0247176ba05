/- ClockOver: a tick that would be too much changes nothing; nobody sleeps twice. No condition. -/
import Derived.Test.YtldkdndgnojepaaMLib2
namespace Go.Proofs.Ytldkdndgnojepaa.Heap
open Go Go.RowKit Go.Shelf Go.Proofs.Ytldkdndgnojepaa.Own Go.Proofs.YtldkdndgnojepaaW.PrintWords Go.Proofs.YtldkdndgnojepaaW.PrintLast Go.Proofs.YtldkdndgnojepaaW.PrintMore
set_option linter.unusedVariables false
set_option linter.unusedSimpArgs false
attribute [local go_sem] max2_int min2_int max_two min_two
theorem asleep_none (w : World) :
    Calls Try.prog 13 #[.pointer none] w fun e w' => e = .returned (.slice none 0 0) ∧ w' = w := by
  go_enter Try.func13, Try.ntmps13
  go_wp2
  go_ret
  exact ⟨rfl, rfl⟩
theorem tick_ovr {now n : Int} (h1 : 1099511627776 - now < n) (h0 : 0 ≤ n) (S : List Tm) : tickC now n = 7 ∧ tickW S now n = [] ∧ tickS S now n = S ∧ tickN now n = now := by
  have e : tickC now n = 7 := by unfold tickC; rw [if_neg (by omega), if_pos h1]
  unfold tickW tickS tickN
  rw [e, if_neg (by decide), if_neg (by decide), if_neg (by decide)]
  exact ⟨rfl, rfl, rfl, rfl⟩
theorem tick_neg {now n : Int} (h0 : n < 0) (S : List Tm) : tickC now n = 1 ∧ tickW S now n = [] ∧ tickS S now n = S ∧ tickN now n = now := by
  have e : tickC now n = 1 := by unfold tickC; rw [if_pos h0]
  unfold tickW tickS tickN
  rw [e, if_neg (by decide), if_neg (by decide), if_neg (by decide)]
  exact ⟨rfl, rfl, rfl, rfl⟩
theorem due_all {m : Int} : ∀ {S : List Tm}, (∀ x ∈ S, x.t ≤ m) → due m S = S ∧ rest m S = []
  | [], _ => ⟨rfl, rfl⟩
  | x :: S, h => by
    have ih := due_all (m := m) (S := S) (fun y hy => h y (List.mem_cons_of_mem _ hy))
    have hx := h x List.mem_cons_self
    simp only [due, rest] at ih ⊢
    simp only [List.takeWhile_cons, List.dropWhile_cons, decide_eq_true hx, if_true, ih.1, ih.2]
    exact ⟨trivial, trivial⟩
theorem sleptN_t (l : List Int) (hb : ∀ x ∈ l, 0 ≤ x ∧ x ≤ 255) (k : Nat) (hk : k ≤ l.length) : ∀ x ∈ sleptN l k, 1 ≤ x.t ∧ x.t ≤ 256 := by
  intro x hx
  obtain ⟨j, hj, rfl⟩ := (sleptN_mem l).mp hx
  have h1 := hb l[j] (List.getElem_mem _)
  have h2 : (oneT l j).t = 1 + l[j] := by
    show 1 + l.getD j 0 = _
    rw [List.getD_eq_getElem?_getD, List.getElem?_eq_getElem (by omega)]; rfl
  omega
set_option maxRecDepth 100000 in
set_option maxHeartbeats 8000000 in
theorem over_calls (w : World) (A : Option Addr) (c : Nat) (l : List Int) (hr : Kd.C (Kd.int .u8) w A l.length l) (hc : l.length ≤ c) (wf : (∀ x ∈ l, (Lit.int .u8 x).wf = true) ∧ l.length * 1 ≤ 140737488351232 ∧ l.length ≤ maxLen) (n : Int) (wn : (Lit.int .i64 n).wf = true) :
    Calls Try.prog 7 #[.slice A l.length c, .int .i64 n] w fun e w' => e = .returned (.bool true) ∧ Below w.heap.size w w' := by
  have HB := Aside0.mk (fun x hx => u8_bound (wf.1 x hx))
  have HM := Aside0.mk wf.2.2
  have HC := Aside0.mk hc
  have HS0 := Aside0.mk (law_start w hr)
  obtain ⟨m, hm⟩ : ∃ m, (if (-1 : Int) < n then (-1 : Int) else n) = m := ⟨_, rfl⟩
  have hm0 : m < 0 := by rw [← hm]; split <;> omega
  have hsl := sleptN_t l HB.out (many l) (many_le l).1
  have hin1 : 0 < l.length → (1 : Int) ∈ gs (sleptN l (many l)) := fun h => List.mem_map.mpr ⟨oneT l 0, (sleptN_mem l).mpr ⟨0, by unfold many; omega, rfl⟩, rfl⟩
  obtain ⟨S0, hS0⟩ : ∃ S, sleptN l (many l) = S := ⟨_, rfl⟩
  rw [hS0] at hsl hin1
  have hlen0 : S0.length ≤ 64 := by rw [← hS0, sleptN_len]; exact (many_le l).2
  obtain ⟨q, hq⟩ : ∃ q, ((many l : Nat) : Int) = q := ⟨_, rfl⟩
  have hq1 : 0 ≤ q ∧ q ≤ 1000000000 := by have := (many_le l).2; omega
  obtain ⟨k0, hk0⟩ : ∃ k, S0.length = k := ⟨_, rfl⟩
  obtain ⟨t1, t2, t3, t4⟩ := tick_ok0 (now := 0) (n := 1099511627776) (by decide) (by decide) S0
  rw [Int.zero_add] at t2 t3 t4
  obtain ⟨d1, d2⟩ := due_all (m := 1099511627776) (S := S0) (fun x hx => by have := hsl x hx; omega)
  rw [d1] at t2
  rw [d2] at t3
  have HT1 := Aside0.mk (And.intro t1 (And.intro t2 (And.intro (show (gs S0).length = k0 by rw [gs_len, hk0]) (And.intro t3 t4))))
  have HT2 := Aside0.mk (tick_ovr (now := 1099511627776) (n := 1) (by decide) (by decide) [])
  have HT3 := Aside0.mk (tick_ovr (now := 0) (n := 1099511627777) (by decide) (by decide) S0)
  have HT4 := Aside0.mk (tick_neg (now := 0) hm0 S0)
  have HL := Aside0.mk (show S0.length ≤ 100000 by omega)
  have HK := Aside0.mk hk0
  have HQ := Aside0.mk hq
  have HQ1 := Aside0.mk hq1
  have HSL := Aside0.mk hS0
  have HI := Aside0.mk hin1
  have hk64 : (k0 : Int) ≤ 64 := by omega
  clear t1 t2 t3 t4 d1 d2 hsl hlen0 hS0 hq hq1 hk0 hin1 hm0 wf wn hr hc
  by_cases hl : l.length = 0
  · have z1 : ((l.length : Int) == 0) = true := by rw [hl]; rfl
    have z2 : (l.length == 0) = true := by rw [hl]; rfl
    have z3 : decide ((l.length : Int) = 0) = true := by rw [hl]; rfl
    clear hl
    go_enter Try.func7, Try.ntmps7
    go_wp2_with (first
      | (go_at_call 9; (with_reducible refine (shown_calls _).mono ?_); rintro e w1 ⟨rfl, hb⟩; have HS1 := Aside0.mk (HS0.out.below hb); clear hb HS0)
      | (go_at_call 10; (with_reducible refine (slept_calls HS1.out HC.out HM.out HB.out).mono ?_); rintro e w2 ⟨p1, rfl, hS⟩; rw [HSL.out, HQ.out] at hS; have HS2 := Aside0.mk hS; clear hS HS1)
      | (go_at_call 13; (with_reducible refine (ck_asleep_n HS2.out HL.out k0 HK.out).mono ?_); rintro e w3 ⟨A3, c3, rfl, hc3, hS⟩; have HS3 := Aside0.mk hS; have HC3 := Aside0.mk hc3; clear hS HS2 hc3)
      | (go_at_call 11; (with_reducible refine (ck_tick_to HS3.out HL.out 1099511627776 (by decide) 0 (gs S0) k0 [] 1099511627776 HT1.out.1 HT1.out.2.1 HT1.out.2.2.1 HT1.out.2.2.2.1 HT1.out.2.2.2.2).mono ?_); rintro e w4 ⟨A4, c4, rfl, hc4, hS⟩; have HS4 := Aside0.mk hS; clear hS HS3 hc4)
      | (go_at_call 11; (with_reducible refine (ck_tick_to HS4.out (by decide) 1 (by decide) 7 [] 0 [] 1099511627776 HT2.out.1 HT2.out.2.1 rfl HT2.out.2.2.1 HT2.out.2.2.2).mono ?_); rintro e w5 ⟨A5, c5, rfl, hc5, hS⟩; have HS5 := Aside0.mk hS; clear hS HS4 hc5)
      | (go_at_call 10; (with_reducible refine (slept_calls (St.pick (ts1 := [_, _, _, _]) HS5.out) HC.out HM.out HB.out).mono ?_); rintro e w6 ⟨p2, rfl, hS⟩; rw [HSL.out, HQ.out] at hS; have HS6 := Aside0.mk hS; clear hS HS5)
      | (go_at_call 11; (with_reducible refine (ck_tick_to HS6.out HL.out 1099511627777 (by decide) 7 [] 0 S0 0 HT3.out.1 HT3.out.2.1 rfl HT3.out.2.2.1 HT3.out.2.2.2).mono ?_); rintro e w7 ⟨A7, c7, rfl, hc7, hS⟩; have HS7 := Aside0.mk hS; clear hS HS6 hc7)
      | (go_at_call 11; (with_reducible refine (ck_tick_to HS7.out HL.out m (by decide) 1 [] 0 S0 0 HT4.out.1 HT4.out.2.1 rfl HT4.out.2.2.1 HT4.out.2.2.2).mono ?_); rintro e w8 ⟨A8, c8, rfl, hc8, hS⟩; have HS8 := Aside0.mk hS; clear hS HS7 hc8)
      | (go_at_call 11; (with_reducible refine (tick_none 1 _).mono ?_); rintro e w9 ⟨rfl, rfl⟩)
      | (go_at_call 14; (with_reducible refine (ck_now HS8.out).mono ?_); rintro e w9 ⟨rfl, rfl⟩)
      | (go_at_call 14; (with_reducible refine (ck_now (St.pick (ts1 := [_, _, _, _]) HS8.out)).mono ?_); rintro e w9 ⟨rfl, rfl⟩)
      | (go_at_call 13; (with_reducible refine (ck_asleep_n HS8.out HL.out k0 HK.out).mono ?_); rintro e w10 ⟨A10, c10, rfl, hc10, hS⟩; have HS10 := Aside0.mk hS; have HC10 := Aside0.mk hc10; clear hS HS8 hc10)
      | (go_at_call 12; (with_reducible refine (ints_n _ (nums_now HS10.out.swap _ (by rw [gs_len]; exact HK.out)) HC10.out (nums_now (St.pick (ts1 := [_, _, _, _, _, _, _, _]) HS10.out) _ (by rw [gs_len]; exact HK.out)) HC3.out (by have := HL.out; have := HK.out; omega) true (decide_eq_true rfl)).mono ?_); rintro e w11 ⟨rfl, hd⟩; have HS11 := Aside0.mk (HS10.out.drawn hd); clear hd HS10)
      | (go_at_call 16; (with_reducible refine (ck_sleep_to HS11.out HL.out 1 5 (by decide) HQ1.out 5 _ _ HP.out rfl rfl).mono ?_); rintro e w12 ⟨rfl, hS⟩; have HS12 := Aside0.mk hS.bel; clear hS HS11)
      | (go_at_call 16; (with_reducible refine (sleep_none 1 1 _).mono ?_); rintro e w13 ⟨rfl, rfl⟩)
      | (go_at_call 19; (with_reducible refine (wake_none 1 _).mono ?_); rintro e w13 ⟨rfl, rfl⟩)
      | (go_at_call 14; (with_reducible refine (now_none _).mono ?_); rintro e w13 ⟨rfl, rfl⟩)
      | (go_at_call 13; (with_reducible refine (asleep_none _).mono ?_); rintro e w13 ⟨rfl, rfl⟩))
    go_ret
    exact ⟨rfl, HS11.out.bel⟩
  · have z1 : ((l.length : Int) == 0) = false := beq_eq_false_iff_ne.mpr (by omega)
    have z2 : (l.length == 0) = false := beq_eq_false_iff_ne.mpr hl
    have HP := Aside0.mk (show sleepC S0 1 5 = 5 by unfold sleepC; rw [if_neg (by decide), if_pos (HI.out (by omega))])
    clear hl
    go_enter Try.func7, Try.ntmps7
    go_wp2_with (first
      | (go_at_call 9; (with_reducible refine (shown_calls _).mono ?_); rintro e w1 ⟨rfl, hb⟩; have HS1 := Aside0.mk (HS0.out.below hb); clear hb HS0)
      | (go_at_call 10; (with_reducible refine (slept_calls HS1.out HC.out HM.out HB.out).mono ?_); rintro e w2 ⟨p1, rfl, hS⟩; rw [HSL.out, HQ.out] at hS; have HS2 := Aside0.mk hS; clear hS HS1)
      | (go_at_call 13; (with_reducible refine (ck_asleep_n HS2.out HL.out k0 HK.out).mono ?_); rintro e w3 ⟨A3, c3, rfl, hc3, hS⟩; have HS3 := Aside0.mk hS; have HC3 := Aside0.mk hc3; clear hS HS2 hc3)
      | (go_at_call 11; (with_reducible refine (ck_tick_to HS3.out HL.out 1099511627776 (by decide) 0 (gs S0) k0 [] 1099511627776 HT1.out.1 HT1.out.2.1 HT1.out.2.2.1 HT1.out.2.2.2.1 HT1.out.2.2.2.2).mono ?_); rintro e w4 ⟨A4, c4, rfl, hc4, hS⟩; have HS4 := Aside0.mk hS; clear hS HS3 hc4)
      | (go_at_call 11; (with_reducible refine (ck_tick_to HS4.out (by decide) 1 (by decide) 7 [] 0 [] 1099511627776 HT2.out.1 HT2.out.2.1 rfl HT2.out.2.2.1 HT2.out.2.2.2).mono ?_); rintro e w5 ⟨A5, c5, rfl, hc5, hS⟩; have HS5 := Aside0.mk hS; clear hS HS4 hc5)
      | (go_at_call 10; (with_reducible refine (slept_calls (St.pick (ts1 := [_, _, _, _]) HS5.out) HC.out HM.out HB.out).mono ?_); rintro e w6 ⟨p2, rfl, hS⟩; rw [HSL.out, HQ.out] at hS; have HS6 := Aside0.mk hS; clear hS HS5)
      | (go_at_call 11; (with_reducible refine (ck_tick_to HS6.out HL.out 1099511627777 (by decide) 7 [] 0 S0 0 HT3.out.1 HT3.out.2.1 rfl HT3.out.2.2.1 HT3.out.2.2.2).mono ?_); rintro e w7 ⟨A7, c7, rfl, hc7, hS⟩; have HS7 := Aside0.mk hS; clear hS HS6 hc7)
      | (go_at_call 11; (with_reducible refine (ck_tick_to HS7.out HL.out m (by decide) 1 [] 0 S0 0 HT4.out.1 HT4.out.2.1 rfl HT4.out.2.2.1 HT4.out.2.2.2).mono ?_); rintro e w8 ⟨A8, c8, rfl, hc8, hS⟩; have HS8 := Aside0.mk hS; clear hS HS7 hc8)
      | (go_at_call 11; (with_reducible refine (tick_none 1 _).mono ?_); rintro e w9 ⟨rfl, rfl⟩)
      | (go_at_call 14; (with_reducible refine (ck_now HS8.out).mono ?_); rintro e w9 ⟨rfl, rfl⟩)
      | (go_at_call 14; (with_reducible refine (ck_now (St.pick (ts1 := [_, _, _, _]) HS8.out)).mono ?_); rintro e w9 ⟨rfl, rfl⟩)
      | (go_at_call 13; (with_reducible refine (ck_asleep_n HS8.out HL.out k0 HK.out).mono ?_); rintro e w10 ⟨A10, c10, rfl, hc10, hS⟩; have HS10 := Aside0.mk hS; have HC10 := Aside0.mk hc10; clear hS HS8 hc10)
      | (go_at_call 12; (with_reducible refine (ints_n _ (nums_now HS10.out.swap _ (by rw [gs_len]; exact HK.out)) HC10.out (nums_now (St.pick (ts1 := [_, _, _, _, _, _, _, _]) HS10.out) _ (by rw [gs_len]; exact HK.out)) HC3.out (by have := HL.out; have := HK.out; omega) true (decide_eq_true rfl)).mono ?_); rintro e w11 ⟨rfl, hd⟩; have HS11 := Aside0.mk (HS10.out.drawn hd); clear hd HS10)
      | (go_at_call 16; (with_reducible refine (ck_sleep_to HS11.out HL.out 1 5 (by decide) HQ1.out 5 _ _ HP.out rfl rfl).mono ?_); rintro e w12 ⟨rfl, hS⟩; have HS12 := Aside0.mk hS.bel; clear hS HS11)
      | (go_at_call 16; (with_reducible refine (sleep_none 1 1 _).mono ?_); rintro e w13 ⟨rfl, rfl⟩)
      | (go_at_call 19; (with_reducible refine (wake_none 1 _).mono ?_); rintro e w13 ⟨rfl, rfl⟩)
      | (go_at_call 14; (with_reducible refine (now_none _).mono ?_); rintro e w13 ⟨rfl, rfl⟩)
      | (go_at_call 13; (with_reducible refine (asleep_none _).mono ?_); rintro e w13 ⟨rfl, rfl⟩))
    go_ret
    exact ⟨rfl, HS12.out⟩
end Go.Proofs.Ytldkdndgnojepaa.Heap
