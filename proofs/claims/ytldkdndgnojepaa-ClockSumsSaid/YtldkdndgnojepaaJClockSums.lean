/- ClockSums: what time it is is all ticks together that weren't refused; a refused one wakes nobody. No condition. -/
import Derived.Test.YtldkdndgnojepaaMLib2
namespace Go.Proofs.Ytldkdndgnojepaa.Heap
open Go Go.RowKit Go.Shelf Go.Proofs.Ytldkdndgnojepaa.Own Go.Proofs.YtldkdndgnojepaaW.PrintWords Go.Proofs.YtldkdndgnojepaaW.PrintLast Go.Proofs.YtldkdndgnojepaaW.PrintMore
set_option linter.unusedVariables false
set_option linter.unusedSimpArgs false
theorem tick_ovr' {now n : Int} (h1 : 1099511627776 - now < n) (h0 : 0 ≤ n) (S : List Tm) : tickC now n = 7 ∧ tickW S now n = [] ∧ tickS S now n = S ∧ tickN now n = now := by
  have e : tickC now n = 7 := by unfold tickC; rw [if_neg (by omega), if_pos h1]
  unfold tickW tickS tickN
  rw [e, if_neg (by decide), if_neg (by decide), if_neg (by decide)]
  exact ⟨rfl, rfl, rfl, rfl⟩
theorem tick_neg' {now n : Int} (h0 : n < 0) (S : List Tm) : tickC now n = 1 ∧ tickW S now n = [] ∧ tickS S now n = S ∧ tickN now n = now := by
  have e : tickC now n = 1 := by unfold tickC; rw [if_pos h0]
  unfold tickW tickS tickN
  rw [e, if_neg (by decide), if_neg (by decide), if_neg (by decide)]
  exact ⟨rfl, rfl, rfl, rfl⟩
set_option maxRecDepth 100000 in
set_option maxHeartbeats 8000000 in
theorem sums_calls (w : World) (A : Option Addr) (c : Nat) (l : List Int) (hr : Kd.C (Kd.int .u8) w A l.length l) (hc : l.length ≤ c) (wf : (∀ x ∈ l, (Lit.int .u8 x).wf = true) ∧ l.length * 1 ≤ 140737488351232 ∧ l.length ≤ maxLen) (A2 : Option Addr) (c2 : Nat) (tk : List Int) (hr2 : Kd.C (Kd.int .i64) w A2 tk.length tk) (hc2 : tk.length ≤ c2) (wf2 : (∀ x ∈ tk, (Lit.int .i64 x).wf = true) ∧ tk.length * 8 ≤ 140737488351232 ∧ tk.length ≤ maxLen) :
    Calls Try.prog 5 #[.slice A l.length c, .slice A2 tk.length c2] w fun e w' => e = .returned (.bool true) ∧ Below w.heap.size w w' := by
  have HB := Aside0.mk (fun x hx => u8_bound (wf.1 x hx))
  have HM := Aside0.mk wf.2.2
  have HC := Aside0.mk hc
  have HTB := Aside0.mk (fun x hx => i64_bound (wf2.1 x hx))
  have HS0 := Aside0.mk (show St w (fun _ => False) (fun _ => True) [Bytes A l, Nums A2 tk] w from St.swap (St.arg (law_start w hr) (fun _ => id) (fun _ _ => trivial) (Kd.C_F (Kd.heap_int _) hr2)))
  obtain ⟨S0, hS0⟩ : ∃ S, sleptN l (many l) = S := ⟨_, rfl⟩
  have hlen0 : S0.length ≤ 64 := by rw [← hS0, sleptN_len]; exact (many_le l).2
  have HSL := Aside0.mk hS0
  have HL0 := Aside0.mk hlen0
  have hc2i : (tk.length : Int) ≤ (c2 : Int) := by omega
  clear hS0 hlen0 wf wf2 hr hc hr2
  go_enter Try.func5, Try.ntmps5
  go_wp2_with (first
    | (go_at_call 9; (with_reducible refine (shown_calls _).mono ?_); rintro e w1 ⟨rfl, hb⟩; have HS1 := Aside0.mk (HS0.out.below hb); clear hb HS0)
    | (go_at_call 10; (with_reducible refine (slept_calls HS1.out HC.out HM.out HB.out).mono ?_); rintro e w2 ⟨p1, rfl, hS⟩; rw [HSL.out] at hS; have HS2 := Aside0.mk hS; clear hS HS1))
  go_loopg [7, 8] (tk.length + 1) (fun kq v7 v8 w' => ∃ (k : Nat) (m : Int) (S : List Tm), v7 = .int .i64 m ∧ v8 = .int .i64 (k : Int) ∧ Aside0 (k + kq = tk.length + 1 ∧ k ≤ 100 ∧ k ≤ tk.length) ∧ Aside0 (S.length ≤ 64 ∧ 0 ≤ m ∧ m ≤ 1099511627776) ∧ Aside0 (St w (fun _ => False) (fun _ => True) (ckT p1 S m ((many l : Nat) : Int) :: Bytes A l :: Nums A2 tk :: []) w'))
  case atStart => exact ⟨0, 0, S0, rfl, rfl, ⟨by omega, by omega, Nat.zero_le _⟩, ⟨HL0.out, by decide, by decide⟩, HS2⟩
  case round =>
    clear HS2
    obtain ⟨k, m, S, rfl, rfl, HK, HI, HS⟩ := hrel
    cases gk with
    | zero => exact absurd HK.out (by omega)
    | succ k1 =>
      have hk0 : (0 : Int) ≤ (k : Int) := by omega
      have hk1 : (k : Int) ≤ 100 := by have := HK.out; omega
      by_cases hin : k < tk.length
      · have d1 : decide ((k : Int) < (tk.length : Int)) = true := decide_eq_true (by omega)
        have d1n : decide (k < tk.length) = true := decide_eq_true hin
        by_cases hin2 : k < 100
        · have d2 : decide ((k : Int) < 100) = true := decide_eq_true (by omega)
          have d2n : decide (k < 100) = true := decide_eq_true hin2
          have hlt : (k : Int) < (tk.length : Int) := by omega
          obtain ⟨ad, rfl, a0⟩ := at_num HS.out.drop.drop.now hin
          have hg : ∀ W : World, (Kd.int .i64).C W (some ad) tk.length tk → W.cell? (ad.add k) = some (.int .i64 tk[k]) := fun W h => by
            obtain ⟨ad', e, h1⟩ := at_num h hin
            injection e with e
            rw [e]; exact h1
          have HG := Aside0.mk hg
          clear hg a0
          have ht := HTB.out tk[k] (List.getElem_mem _)
          generalize tk[k] = t at HG ht
          obtain ⟨ht0, ht1⟩ := ht
          have hm0 := HI.out.2.1
          have hm1 := HI.out.2.2
          obtain ⟨ks, hks⟩ : ∃ ks, S.length = ks := ⟨_, rfl⟩
          have HKS := Aside0.mk hks
          have hks64 : (ks : Int) ≤ 64 := by have := HI.out.1; omega
          have HIN := Aside0.mk (And.intro hin hin2)
          clear hks hin hin2
          by_cases h1 : t < 0
          · have b1 : decide (0 ≤ t) = false := decide_eq_false (by omega)
            have HT := Aside0.mk (tick_neg' (now := m) h1 S)
            clear h1
            go_wp2_with (first
              | (go_at_call 13; (with_reducible refine (ck_asleep_n HS.out (by have := HI.out.1; omega) ks HKS.out).mono ?_); rintro e w3 ⟨A3, c3, rfl, hc3, hS⟩; have HS3 := Aside0.mk hS; have HC3 := Aside0.mk hc3; have a3 := HG.out _ hS.drop.drop.drop.now; clear hS HS hc3)
              | (go_at_call 11; (with_reducible refine (ck_tick_to HS3.out (by have := HI.out.1; omega) t HI.out.2 1 [] 0 S m HT.out.1 HT.out.2.1 rfl HT.out.2.2.1 HT.out.2.2.2).mono ?_); rintro e w4 ⟨A4, c4, rfl, hc4, hS⟩; have HS4 := Aside0.mk hS; have a4 := HG.out _ hS.drop.drop.drop.drop.now; clear hS HS3 hc4 a3)
              | (go_at_call 13; (with_reducible refine (ck_asleep_n HS4.out (by have := HI.out.1; omega) ks HKS.out).mono ?_); rintro e w5 ⟨A5, c5, rfl, hc5, hS⟩; have HS5 := Aside0.mk hS; have HC5 := Aside0.mk hc5; clear hS HS4 hc5)
              | (go_at_call 12; (with_reducible refine (ints_n _ (nums_now HS5.out.swap _ (by rw [gs_len]; exact HKS.out)) HC5.out (nums_now (St.pick (ts1 := [_, _, _]) HS5.out) _ (by rw [gs_len]; exact HKS.out)) HC3.out (by have := HI.out.1; have := HKS.out; omega) true (decide_eq_true rfl)).mono ?_); rintro e w6 ⟨rfl, hd⟩; have HS6 := Aside0.mk (HS5.out.drawn hd); clear hd HS5)
              | (go_at_call 14; (with_reducible refine (ck_now HS6.out).mono ?_); rintro e w7 ⟨rfl, rfl⟩)
              | (go_at_call 13; (with_reducible refine (ck_asleep_n HS6.out (by have := HI.out.1; omega) ks HKS.out).mono ?_); rintro e w8 ⟨A8, c8, rfl, hc8, hS⟩; have HS8 := Aside0.mk (St.pick (ts1 := []) (hS.swap.drop.swap.drop.swap.drop.swap.drop)); clear hS HS6 hc8))
            go_roundg k1
            case measure => have := HK.out; omega
            case rel => exact ⟨k + 1, m, S, by first | rfl | go_num, by first | rfl | go_num, ⟨by have := HK.out; omega, by have := HIN.out; omega, by have := HIN.out; omega⟩, ⟨HI.out⟩, HS8⟩
          · have b1 : decide (0 ≤ t) = true := decide_eq_true (by omega)
            by_cases h2 : 1099511627776 - m < t
            · have b2 : decide (t ≤ 1099511627776 - m) = false := decide_eq_false (by omega)
              have HT := Aside0.mk (tick_ovr' (now := m) h2 (by omega) S)
              clear h1 h2
              go_wp2_with (first
                | (go_at_call 13; (with_reducible refine (ck_asleep_n HS.out (by have := HI.out.1; omega) ks HKS.out).mono ?_); rintro e w3 ⟨A3, c3, rfl, hc3, hS⟩; have HS3 := Aside0.mk hS; have HC3 := Aside0.mk hc3; have a3 := HG.out _ hS.drop.drop.drop.now; clear hS HS hc3)
                | (go_at_call 11; (with_reducible refine (ck_tick_to HS3.out (by have := HI.out.1; omega) t HI.out.2 7 [] 0 S m HT.out.1 HT.out.2.1 rfl HT.out.2.2.1 HT.out.2.2.2).mono ?_); rintro e w4 ⟨A4, c4, rfl, hc4, hS⟩; have HS4 := Aside0.mk hS; have a4 := HG.out _ hS.drop.drop.drop.drop.now; clear hS HS3 hc4 a3)
                | (go_at_call 13; (with_reducible refine (ck_asleep_n HS4.out (by have := HI.out.1; omega) ks HKS.out).mono ?_); rintro e w5 ⟨A5, c5, rfl, hc5, hS⟩; have HS5 := Aside0.mk hS; have HC5 := Aside0.mk hc5; clear hS HS4 hc5)
                | (go_at_call 12; (with_reducible refine (ints_n _ (nums_now HS5.out.swap _ (by rw [gs_len]; exact HKS.out)) HC5.out (nums_now (St.pick (ts1 := [_, _, _]) HS5.out) _ (by rw [gs_len]; exact HKS.out)) HC3.out (by have := HI.out.1; have := HKS.out; omega) true (decide_eq_true rfl)).mono ?_); rintro e w6 ⟨rfl, hd⟩; have HS6 := Aside0.mk (HS5.out.drawn hd); clear hd HS5)
                | (go_at_call 14; (with_reducible refine (ck_now HS6.out).mono ?_); rintro e w7 ⟨rfl, rfl⟩)
                | (go_at_call 13; (with_reducible refine (ck_asleep_n HS6.out (by have := HI.out.1; omega) ks HKS.out).mono ?_); rintro e w8 ⟨A8, c8, rfl, hc8, hS⟩; have HS8 := Aside0.mk (St.pick (ts1 := []) (hS.swap.drop.swap.drop.swap.drop.swap.drop)); clear hS HS6 hc8))
              go_roundg k1
              case measure => have := HK.out; omega
              case rel => exact ⟨k + 1, m, S, by first | rfl | go_num, by first | rfl | go_num, ⟨by have := HK.out; omega, by have := HIN.out; omega, by have := HIN.out; omega⟩, ⟨HI.out⟩, HS8⟩
            · have b2 : decide (t ≤ 1099511627776 - m) = true := decide_eq_true (by omega)
              have ht2 : 0 ≤ t := by omega
              have ht3 : t ≤ 1099511627776 := by omega
              obtain ⟨t1, t2, t3, t4⟩ := tick_ok0 (now := m) (n := t) ht2 (by omega) S
              have hdl := due_len (m + t) S
              have hgl := gs_len (due (m + t) S)
              generalize gs (due (m + t) S) = W1 at t2 hgl
              generalize due (m + t) S = D1 at hdl hgl
              generalize rest (m + t) S = S1 at t3 hdl
              obtain ⟨kw, hkw⟩ : ∃ kw, W1.length = kw := ⟨_, rfl⟩
              obtain ⟨k2, hk2⟩ : ∃ k2, S1.length = k2 := ⟨_, rfl⟩
              have hsum : kw + k2 = ks := by have := HKS.out; omega
              have e1 : ((kw : Int) + (k2 : Int) != (ks : Int)) = false := by rw [show (ks : Int) = (kw : Int) + (k2 : Int) by omega]; simp
              have e3 : (kw + k2 != ks) = false := by rw [hsum]; simp
              have hkw64 : (kw : Int) ≤ 64 := by omega
              have hk264 : (k2 : Int) ≤ 64 := by omega
              have hmt : m + t ≤ 1099511627776 := by omega
              have HT := Aside0.mk (And.intro t1 (And.intro t2 (And.intro hkw (And.intro t3 t4))))
              have HK2 := Aside0.mk hk2
              have HSM := Aside0.mk hsum
              clear h1 h2 t1 t2 t3 t4 hdl hgl hkw hk2 hsum
              go_wp2_with (first
                | (go_at_call 13; (with_reducible refine (ck_asleep_n HS.out (by have := HI.out.1; omega) ks HKS.out).mono ?_); rintro e w3 ⟨A3, c3, rfl, hc3, hS⟩; have HS3 := Aside0.mk hS; have HC3 := Aside0.mk hc3; have a3 := HG.out _ hS.drop.drop.drop.now; clear hS HS hc3)
                | (go_at_call 11; (with_reducible refine (ck_tick_to HS3.out (by have := HI.out.1; omega) t HI.out.2 0 W1 kw S1 (m + t) HT.out.1 HT.out.2.1 HT.out.2.2.1 HT.out.2.2.2.1 HT.out.2.2.2.2).mono ?_); rintro e w4 ⟨A4, c4, rfl, hc4, hS⟩; have HS4 := Aside0.mk hS; have a4 := HG.out _ hS.drop.drop.drop.drop.now; clear hS HS3 hc4 a3)
                | (go_at_call 14; (with_reducible refine (ck_now HS4.out).mono ?_); rintro e w7 ⟨rfl, rfl⟩)
                | (go_at_call 13; (with_reducible refine (ck_asleep_n HS4.out (by have := HK2.out; omega) k2 HK2.out).mono ?_); rintro e w8 ⟨A8, c8, rfl, hc8, hS⟩; have HS8 := Aside0.mk (hS.swap.drop.swap.drop.swap.drop); clear hS HS4 hc8))
              go_roundg k1
              case measure => have := HK.out; omega
              case rel => exact ⟨k + 1, m + t, S1, by first | rfl | go_num, by first | rfl | go_num, ⟨by have := HK.out; omega, by have := HIN.out; omega, by have := HIN.out; omega⟩, ⟨by have := HI.out; have := HSM.out; have := HKS.out; have := HK2.out; omega⟩, HS8⟩
        · have d2 : decide ((k : Int) < 100) = false := decide_eq_false (by omega)
          have d2n : decide (k < 100) = false := decide_eq_false hin2
          clear hin hin2
          go_wp2
          go_ret
          exact ⟨rfl, HS.out.bel⟩
      · have d1 : decide ((k : Int) < (tk.length : Int)) = false := decide_eq_false (by omega)
        have d1n : decide (k < tk.length) = false := decide_eq_false hin
        clear hin
        go_wp2
        go_ret
        exact ⟨rfl, HS.out.bel⟩
end Go.Proofs.Ytldkdndgnojepaa.Heap
