/- Heap: one goes down. No condition. -/
import Derived.Test.YtkbjihnkbfjhmaaHeap4
namespace Go.Proofs.Ytkbjihnkbfjhmaa.Heap
open Go Go.RowKit Go.Proofs.Ytkbjihnkbfjhmaa.Own Go.Proofs.YtkbjihnkbfjhmaaW.PrintWords Go.Proofs.YtkbjihnkbfjhmaaW.PrintLast Go.Proofs.YtkbjihnkbfjhmaaW.PrintMore
set_option linter.unusedVariables false
set_option linter.unusedSimpArgs false
def pick1 (l : List Tm) (a k : Nat) : Nat := if k < l.length ∧ ahd l k a = true then k else a
def leastOf (l : List Tm) (i : Nat) : Nat := pick1 l (pick1 l i (2 * i + 1)) (2 * i + 2)
theorem pick1_cases (l : List Tm) (a k : Nat) : pick1 l a k = a ∨ pick1 l a k = k ∧ k < l.length := by
  unfold pick1
  split
  · rename_i h; exact .inr ⟨rfl, h.1⟩
  · exact .inl rfl
theorem leastOf_cases (l : List Tm) (i : Nat) : leastOf l i = i ∨ i < leastOf l i ∧ leastOf l i < l.length := by
  unfold leastOf
  rcases pick1_cases l (pick1 l i (2 * i + 1)) (2 * i + 2) with h | ⟨h, h1⟩
  · rw [h]
    rcases pick1_cases l i (2 * i + 1) with h | ⟨h, h1⟩
    · exact .inl h
    · exact .inr ⟨by omega, by omega⟩
  · exact .inr ⟨by omega, by omega⟩
def downL : Nat → List Tm → Nat → List Tm
  | 0, l, _ => l
  | f + 1, l, i => if leastOf l i = i then l else downL f (swp l i (leastOf l i)) (leastOf l i)
theorem downL_len : ∀ (f : Nat) (l : List Tm) (i : Nat), (downL f l i).length = l.length
  | 0, _, _ => rfl
  | f + 1, l, i => by
    simp only [downL]
    split
    · rfl
    · rw [downL_len, swp_len]
section
variable {w0 w w' : World} {F0 P0 : Nat → Prop} {ts : List Thing} {p eB : Nat} {cells : Array Value} {v : Value} {l : List Tm}
theorem ahead_two (h : St w0 F0 P0 (boxT p eB cells :: rowT kTm 23 v l :: ts) w) (hv : cells[0]? = some v) {i k : Nat} (hi : i < l.length) (hk : k < l.length) (hlen : l.length ≤ 1000000) {b : Bool} (hb : ahd l i k = b) {x : Int} (hx : (i : Int) = x) :
    Calls Try.prog 33 #[.pointer (some ⟨p, 0, none⟩), .int .i64 x, .int .i64 (k : Int)] w fun e w' => e = .returned (.bool b) ∧ St w0 F0 P0 (boxT p eB cells :: rowT kTm 23 v l :: ts) w' ∧ Below w.heap.size w w' := by
  subst hb hx
  unfold ahd
  rw [dif_pos ⟨hi, hk⟩]
  refine (ahead_st h hv hi hk hlen).mono ?_
  rintro e w' ⟨rfl, hb⟩
  exact ⟨rfl, h.below hb, hb⟩
/-- The two below a place, as they lie in memory. -/
def Two (b : Nat) (j : Int) (w : World) : Prop := True ∧ w.cell? ⟨b, 0, none⟩ = some (.int .i64 (2 * j + 1)) ∧ w.cell? ⟨b, 1, none⟩ = some (.int .i64 (2 * j + 2))
theorem two_below {b : Nat} {j : Int} (h : Two b j w) (hb : Below w.heap.size w w') : Two b j w' := ⟨trivial, cell_below h.2.1 hb, cell_below h.2.2 hb⟩
set_option maxHeartbeats 4000000 in
theorem down_st (h : St w0 F0 P0 (boxT p eB cells :: rowT kTm 23 v l :: ts) w) (hv : cells[0]? = some v) {i : Nat} (hi : i ≤ l.length) (hlen : l.length ≤ 1000000) :
    Calls Try.prog 25 #[.pointer (some ⟨p, 0, none⟩), .int .i64 (i : Int)] w fun e w' => e = .returned (.tuple #[]) ∧ St w0 F0 P0 (boxT p eB cells :: rowT kTm 23 v (downL (l.length + 1) l i) :: ts) w' := by
  have HS := Aside0.mk h
  have HV := Aside0.mk hv
  clear h hv
  obtain ⟨N, hN⟩ : ∃ N, N = l.length := ⟨_, rfl⟩
  have HI := Aside0.mk (⟨l.length + 1, by omega, rfl⟩ : ∃ f, N - i < f ∧ downL f l i = downL (l.length + 1) l i)
  generalize hR : downL (l.length + 1) l i = R at HI ⊢
  clear hR
  have HN := Aside0.mk hN
  obtain ⟨A, c, hvs⟩ := HS.out.drop.slice
  rw [← hN] at hvs
  subst hvs
  go_enter Try.func25, Try.ntmps25
  go_wp2
  go_loopg [1, 4, 6] (N + 2) (fun kq v1 v4 v6 w' => ∃ (j : Nat) (l' : List Tm), v1 = .int .i64 (j : Int) ∧ Aside0 (N - j + 1 ≤ kq ∧ l'.length = N ∧ j ≤ N ∧ N ≤ 1000000 ∧ ∃ f, N - j < f ∧ downL f l' j = R) ∧ Aside0 (St w0 F0 P0 (boxT p eB cells :: rowT kTm 23 (.slice A N c) l' :: ts) w'))
  case atStart => exact ⟨i, l, rfl, ⟨by omega, HN.out.symm, by omega, by omega, HI.out⟩, HS⟩
  case round =>
    clear HS HI HN hN hlen hi
    obtain ⟨j, l', rfl, HK, HS⟩ := hrel
    cases gk with
    | zero => exact absurd HK.out.1 (by omega)
    | succ k1 =>
      obtain ⟨q1, q2, q3, q3b, f, q4, q5⟩ := HK.out
      have hlen' : l'.length ≤ 1000000 := by omega
      have HR := Aside0.mk (⟨q4, q5⟩ : N - j < f ∧ downL f l' j = R)
      have j0 : (j : Int) ≤ 1000000 := by omega
      clear q1 q2 q3 q3b q4 q5
      obtain ⟨wo, rfl⟩ : ∃ wo : World, wo = wr := ⟨_, rfl⟩
      have HS0 := Aside0.mk (HS.out.below (below_alloc (Below.refl _ _) (.cells #[.int .i64 (2 * (j : Int) + 1), .int .i64 (2 * (j : Int) + 2)] 3)))
      have HC0 : Two wo.heap.size j (wo.alloc (.cells #[.int .i64 (2 * (j : Int) + 1), .int .i64 (2 * (j : Int) + 2)] 3)) := ⟨trivial, by go_simp, by go_simp⟩
      have HC0 := Aside0.mk HC0
      clear HS
      go_wp2
      go_loopg [4, 6, 16] 3 (fun kq v4 v6 v16 w' => ∃ m : Int, v16 = .int .i64 m ∧ Aside0 (m = 0 ∨ m = 1 ∨ m = 2) ∧ Aside0 (m + kq = 3) ∧ Aside0 (Two wo.heap.size j w' ∧ ∃ a : Nat, a = (if m = 0 then j else if m = 1 then pick1 l' j (2 * j + 1) else leastOf l' j) ∧ v4 = .int .i64 (a : Int) ∧ Aside0 (a ≤ 2 * j + 2 ∧ (a = j ∨ a < l'.length))) ∧ Aside0 (St w0 F0 P0 (boxT p eB cells :: rowT kTm 23 (.slice A N c) l' :: ts) w'))
      case atStart => exact ⟨0, rfl, ⟨.inl rfl⟩, ⟨rfl⟩, ⟨HC0.out, j, rfl, rfl, ⟨⟨by omega, .inl rfl⟩⟩⟩, HS0⟩
      case round =>
        clear HS0 HC0
        obtain ⟨m, rfl, hm, HQ, hacc, HS⟩ := hrel
        cases gk with
        | zero => exact absurd HQ.out (by have := hm.out; omega)
        | succ k2 =>
          obtain ⟨hcc, hacc⟩ := hacc.out
          obtain hm | hm | hm := hm.out
          · subst hm
            rw [if_pos rfl] at hacc
            obtain ⟨a, ha, rfl, HA⟩ := hacc
            have HC := Aside0.mk hcc
            have cell0 := hcc.2.1
            have ch := (HS.out.box_cell 0 _ HV.out).1
            clear hcc
            have HAE := Aside0.mk ha
            clear ha
            by_cases hk : 2 * j + 1 < l'.length
            · have c1 : decide (2 * (j : Int) + 1 < (N : Int)) = true := decide_eq_true (by have := HK.out.2.1; omega)
              have ha2 : a < l'.length := by have := HA.out; omega
              have HKL := Aside0.mk hk
              have HAL := Aside0.mk ha2
              have HKC := Aside0.mk (show ((2 * j + 1 : Nat) : Int) = 2 * (j : Int) + 1 by omega)
              cases hb : ahd l' (2 * j + 1) a with
              | true =>
                have HB := Aside0.mk hb
                have HX := Aside0.mk (show pick1 l' j (2 * j + 1) = 2 * j + 1 by have h1 := HAE.out; rw [show pick1 l' j (2 * j + 1) = pick1 l' a (2 * j + 1) by rw [h1]]; unfold pick1; exact if_pos ⟨hk, hb⟩)
                clear hb hk ha2
                go_wp2_with (go_at_call 33; (with_reducible refine (ahead_two HS.out HV.out HKL.out HAL.out hlen' HB.out HKC.out).mono ?_); rintro e w1 ⟨rfl, hS, hbl⟩; have HS1 := Aside0.mk hS; have HC1 := Aside0.mk (two_below HC.out hbl); clear hS hbl HS HC)
                go_roundg k2
                case measure => have := HQ.out; omega
                case rel => exact ⟨1, rfl, ⟨by decide⟩, ⟨by have := HQ.out; omega⟩, ⟨HC1.out, ⟨2 * j + 1, by rw [if_neg (by decide), if_pos rfl]; exact HX.out.symm, by rw [HKC.out], ⟨by have := HKL.out; omega, by have := HKL.out; omega⟩⟩⟩, HS1⟩
              | false =>
                have HB := Aside0.mk hb
                have HX := Aside0.mk (show pick1 l' j (2 * j + 1) = a by have h1 := HAE.out; rw [show pick1 l' j (2 * j + 1) = pick1 l' a (2 * j + 1) by rw [h1]]; unfold pick1; exact if_neg (fun h => by rw [hb] at h; cases h.2))
                clear hb hk ha2
                go_wp2_with (go_at_call 33; (with_reducible refine (ahead_two HS.out HV.out HKL.out HAL.out hlen' HB.out HKC.out).mono ?_); rintro e w1 ⟨rfl, hS, hbl⟩; have HS1 := Aside0.mk hS; have HC1 := Aside0.mk (two_below HC.out hbl); clear hS hbl HS HC)
                go_roundg k2
                case measure => have := HQ.out; omega
                case rel => exact ⟨1, rfl, ⟨by decide⟩, ⟨by have := HQ.out; omega⟩, ⟨HC1.out, ⟨a, by rw [if_neg (by decide), if_pos rfl]; exact HX.out.symm, rfl, HA⟩⟩, HS1⟩
            · have c1 : decide (2 * (j : Int) + 1 < (N : Int)) = false := decide_eq_false (by have := HK.out.2.1; omega)
              have HX := Aside0.mk (show pick1 l' j (2 * j + 1) = a by have h1 := HAE.out; rw [show pick1 l' j (2 * j + 1) = pick1 l' a (2 * j + 1) by rw [h1]]; unfold pick1; exact if_neg (fun h => hk h.1))
              clear hk
              go_wp2
              go_roundg k2
              case measure => have := HQ.out; omega
              case rel => exact ⟨1, rfl, ⟨by decide⟩, ⟨by have := HQ.out; omega⟩, ⟨HC.out, ⟨a, by rw [if_neg (by decide), if_pos rfl]; exact HX.out.symm, rfl, HA⟩⟩, HS⟩
          · subst hm
            rw [if_neg (by decide), if_pos rfl] at hacc
            obtain ⟨a, ha, rfl, HA⟩ := hacc
            have HC := Aside0.mk hcc
            have cell1 := hcc.2.2
            have ch := (HS.out.box_cell 0 _ HV.out).1
            clear hcc
            have HAE := Aside0.mk ha
            clear ha
            by_cases hk : 2 * j + 2 < l'.length
            · have c1 : decide (2 * (j : Int) + 2 < (N : Int)) = true := decide_eq_true (by have := HK.out.2.1; omega)
              have ha2 : a < l'.length := by have := HA.out; omega
              have HKL := Aside0.mk hk
              have HAL := Aside0.mk ha2
              have HKC := Aside0.mk (show ((2 * j + 2 : Nat) : Int) = 2 * (j : Int) + 2 by omega)
              cases hb : ahd l' (2 * j + 2) a with
              | true =>
                have HB := Aside0.mk hb
                have HX := Aside0.mk (show leastOf l' j = 2 * j + 2 by have h1 := HAE.out; rw [show leastOf l' j = pick1 l' a (2 * j + 2) by unfold leastOf; rw [h1]]; unfold pick1; exact if_pos ⟨hk, hb⟩)
                clear hb hk ha2
                go_wp2_with (go_at_call 33; (with_reducible refine (ahead_two HS.out HV.out HKL.out HAL.out hlen' HB.out HKC.out).mono ?_); rintro e w1 ⟨rfl, hS, hbl⟩; have HS1 := Aside0.mk hS; have HC1 := Aside0.mk (two_below HC.out hbl); clear hS hbl HS HC)
                go_roundg k2
                case measure => have := HQ.out; omega
                case rel => exact ⟨2, rfl, ⟨by decide⟩, ⟨by have := HQ.out; omega⟩, ⟨HC1.out, ⟨2 * j + 2, by rw [if_neg (by decide), if_neg (by decide)]; exact HX.out.symm, by rw [HKC.out], ⟨by have := HKL.out; omega, by have := HKL.out; omega⟩⟩⟩, HS1⟩
              | false =>
                have HB := Aside0.mk hb
                have HX := Aside0.mk (show leastOf l' j = a by have h1 := HAE.out; rw [show leastOf l' j = pick1 l' a (2 * j + 2) by unfold leastOf; rw [h1]]; unfold pick1; exact if_neg (fun h => by rw [hb] at h; cases h.2))
                clear hb hk ha2
                go_wp2_with (go_at_call 33; (with_reducible refine (ahead_two HS.out HV.out HKL.out HAL.out hlen' HB.out HKC.out).mono ?_); rintro e w1 ⟨rfl, hS, hbl⟩; have HS1 := Aside0.mk hS; have HC1 := Aside0.mk (two_below HC.out hbl); clear hS hbl HS HC)
                go_roundg k2
                case measure => have := HQ.out; omega
                case rel => exact ⟨2, rfl, ⟨by decide⟩, ⟨by have := HQ.out; omega⟩, ⟨HC1.out, ⟨a, by rw [if_neg (by decide), if_neg (by decide)]; exact HX.out.symm, rfl, HA⟩⟩, HS1⟩
            · have c1 : decide (2 * (j : Int) + 2 < (N : Int)) = false := decide_eq_false (by have := HK.out.2.1; omega)
              have HX := Aside0.mk (show leastOf l' j = a by have h1 := HAE.out; rw [show leastOf l' j = pick1 l' a (2 * j + 2) by unfold leastOf; rw [h1]]; unfold pick1; exact if_neg (fun h => hk h.1))
              clear hk
              go_wp2
              go_roundg k2
              case measure => have := HQ.out; omega
              case rel => exact ⟨2, rfl, ⟨by decide⟩, ⟨by have := HQ.out; omega⟩, ⟨HC.out, ⟨a, by rw [if_neg (by decide), if_neg (by decide)]; exact HX.out.symm, rfl, HA⟩⟩, HS⟩
          · subst hm
            rw [if_neg (by decide), if_neg (by decide)] at hacc
            obtain ⟨a, ha, rfl, HA⟩ := hacc
            clear hcc
            have HAE := Aside0.mk ha
            rcases leastOf_cases l' j with hl | hl
            · have HE := Aside0.mk (show R = l' by
                obtain ⟨h1, h2⟩ := HR.out
                obtain ⟨f', rfl⟩ : ∃ g, f = g + 1 := ⟨f - 1, by omega⟩
                rw [← h2]
                simp only [downL]
                rw [if_pos hl])
              obtain rfl : a = j := by omega
              clear ha hl
              have e1 : ((a : Int) == (a : Int)) = true := beq_self_eq_true _
              go_wp2
              refine bodyPost_ret (results_none rfl _ _ _) rfl ?_
              exact ⟨rfl, by rw [HE.out]; exact HS.out⟩
            · rw [← ha] at hl
              have e1 : ((a : Int) == (j : Int)) = false := beq_eq_false_iff_ne.mpr (by omega)
              have HF := Aside0.mk (show N - a < f - 1 ∧ downL (f - 1) (swp l' j a) a = R by
                obtain ⟨h1, h2⟩ := HR.out
                obtain ⟨f', rfl⟩ : ∃ g, f = g + 1 := ⟨f - 1, by omega⟩
                simp only [downL] at h2
                rw [← HAE.out, if_neg (by omega)] at h2
                have := HK.out.2.1
                exact ⟨by omega, h2⟩)
              have HL := Aside0.mk (show j < l'.length ∧ a < l'.length ∧ j < a by omega)
              clear ha hl
              go_wp2_with (go_at_call 24; (with_reducible refine (swap_st HS.out HV.out HL.out.1 HL.out.2.1 hlen').mono ?_); rintro e w2 ⟨rfl, hS⟩; have HS2 := Aside0.mk hS; clear hS HS)
              go_roundg k1
              case measure => have := HK.out; omega
              case rel => exact ⟨a, _, rfl, ⟨by have := HL.out; have := HK.out.1; have := HK.out.2.1; omega, by rw [swp_len]; exact HK.out.2.1, by have := HL.out; have := HK.out.2.1; omega, HK.out.2.2.2.1, f - 1, HF.out⟩, HS2⟩
end
end Go.Proofs.Ytkbjihnkbfjhmaa.Heap
