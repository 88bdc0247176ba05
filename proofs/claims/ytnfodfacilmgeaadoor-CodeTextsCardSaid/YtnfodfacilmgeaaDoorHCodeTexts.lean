/- CodeTexts: the walk. No condition. -/
import Derived.Test.YtnfodfacilmgeaaDoorTexR
import Derived.Test.YtnfodfacilmgeaaDoorHCodeBack
namespace Go.Proofs.YtnfodfacilmgeaaDoor.Code
open Go Go.RowKit Go.Proofs Go.Proofs.YtnfodfacilmgeaaDoorW.PrintWords Go.Proofs.YtnfodfacilmgeaaDoorW.PrintLast Go.Proofs.YtnfodfacilmgeaaDoorW.PrintMore
set_option linter.unusedVariables false
set_option linter.unusedSimpArgs false
open PCodeTexts
theorem ref_parse (s : List UInt8) (hs : s.length ≤ 50000) (l : List S43) (n e : Int) (hp : parseF (s.length + 1) s [] = (l, n, e)) (w : World) :
    Calls Tryd.prog 14 #[.string (bs s)] w fun r w' => ∃ A c, r = .returned (.tuple #[.slice A l.length c, .int .i64 n, .int .i64 e]) ∧ l.length ≤ c ∧ Kd.C kI w' A l.length l ∧ Below w.heap.size w w' := by
  refine (catafalqueref07_Parse.calls (2 * s.length + 200) (bs s) l n e w ((parse_f s hs).trans (congrArg some hp))).mono ?_
  rintro r w' ⟨v, rfl, hR, hb⟩
  obtain ⟨A, c, rfl, hc, hC⟩ := Kd.R_reads hR
  exact ⟨A, c, rfl, hc, hC, hb⟩
theorem parse_len : ∀ (k : Nat) (s : List UInt8) (pre b : List S43) (n e : Int), parseF k s pre = (b, n, e) → b.length ≤ pre.length + s.length
  | 0, s, pre, b, n, e, h => by
    injection h with h1 h2
    subst h1; exact Nat.le_add_right _ _
  | k + 1, s, pre, b, n, e, h => by
    rw [parseF] at h
    by_cases h0 : s = []
    · rw [if_pos h0] at h
      injection h with h1 h2
      subst h1; exact Nat.le_add_right _ _
    · rw [if_neg h0] at h
      by_cases hc : (cutB s 10).2.2 = true ∧ (readF (cutB s 10).1).2 = true
      · rw [if_pos hc] at h
        have h1 := parse_len k _ _ b n e h
        have h2 := cut_rest s hc.1
        rw [List.length_append, List.length_singleton] at h1
        omega
      · rw [if_neg hc] at h
        injection h with h1 h2
        subst h1; exact Nat.zero_le _
theorem same_l2 (l : List S43) (hl : l.length ≤ 100000) : ∀ d i, i + d = l.length → ∀ k, d < k → catafalqueref07_Same.l0 k l l (i : Int) = some true := by
  intro d
  induction d with
  | zero =>
    intro i hi k hk
    obtain ⟨k, rfl⟩ : ∃ j, k = j + 1 := ⟨k - 1, by omega⟩
    rw [catafalqueref07_Same.l0, if_neg (by omega)]
  | succ d ih =>
    intro i hi k hk
    obtain ⟨k, rfl⟩ : ∃ j, k = j + 1 := ⟨k - 1, by omega⟩
    have w1 : wrap64 ((i : Int) + 1) = ((i + 1 : Nat) : Int) := by unfold wrap64; omega
    rw [catafalqueref07_Same.l0, if_pos (by omega), if_pos (Int.natCast_nonneg i), if_pos (by omega), w1, if_neg (by simp)]
    exact ih (i + 1) (by omega) k (by omega)
theorem same_f2 (l : List S43) (hl : l.length ≤ 100000) : catafalqueref07_Same.f (l.length + 1) l l = some true := by
  unfold catafalqueref07_Same.f
  rw [if_pos rfl]
  exact same_l2 l hl l.length 0 (Nat.zero_add _) _ (by omega)
set_option maxHeartbeats 4000000 in
theorem texts_calls (w : World) (A : Option Addr) (c : Nat) (l : List S43) (hr : Kd.C kI w A l.length l) (hc : l.length ≤ c) {X0 : Prop} (wl : (∀ x ∈ l, (Lit.int .i64 x.f0).wf = true ∧ (Lit.int .i64 x.f1).wf = true) ∧ X0) (s0 : ByteArray) (op : Int) (_ : (Lit.int .i64 op).wf = true) (hf : Fx w) :
    Calls Tryd.prog 6 #[.slice A l.length c, .string s0, .int .i64 op] w fun e w' => e = .returned (.bool true) ∧ Below w.heap.size w w' := by
  obtain ⟨s, rfl⟩ : ∃ s, s0 = bs s := ⟨s0.data.toList, rfl⟩
  have HF := Aside0.mk hf
  have HR := Aside0.mk hr
  have HC := Aside0.mk hc
  have HWL := Aside0.mk (wf_of2 wl)
  clear hf hr hc wl
  have hbz := bs_size s
  by_cases g1 : 100 < (l.length : Int)
  · have f1 := decide_eq_true g1
    clear g1
    go_enter Tryd.func6, Tryd.ntmps6
    go_wp2_with (go_at_call 8; (with_reducible refine (shown_calls _ HF.out.pow).mono ?_); rintro e w1 ⟨rfl, hb⟩; have HB1 := Aside0.mk hb; clear hb)
    go_ret
    exact ⟨rfl, HB1.out⟩
  have f1 := decide_eq_false g1
  by_cases g2 : 2000 < (s.length : Int)
  · have f2 := decide_eq_true g2
    clear g1 g2
    go_enter Tryd.func6, Tryd.ntmps6
    go_wp2_with (go_at_call 8; (with_reducible refine (shown_calls _ HF.out.pow).mono ?_); rintro e w1 ⟨rfl, hb⟩; have HB1 := Aside0.mk hb; clear hb)
    go_ret
    exact ⟨rfl, HB1.out⟩
  have f2 := decide_eq_false g2
  have HL := Aside0.mk (show l.length ≤ 100 ∧ s.length ≤ 2000 by omega)
  clear g1 g2
  have HTX := Aside0.mk (show ∀ W, Below w.heap.size w W → Calls Tryd.prog 12 #[.slice A l.length c] W fun e w' => e = .returned (.string (bs (textB (l.map unI)))) ∧ Below W.heap.size W w' by
    intro W hb
    have := text_calls A c (l.map unI) W (insAt_of2 (Kd.C_below HR.out hb)) (by rw [List.length_map]; exact HC.out) (by rw [List.length_map]; have := HL.out; omega) HWL.out (HF.out.below hb).pow
    rw [List.length_map] at this
    exact this)
  have HTR := Aside0.mk (text_f l (by have := HL.out; omega) HWL.out)
  obtain ⟨b, n2, e2, hpb⟩ : ∃ x y z, parseF (s.length + 1) s [] = (x, y, z) := ⟨_, _, _, rfl⟩
  have HPB := Aside0.mk hpb
  have HSB := Aside0.mk (show b.length ≤ 2000 by
    by_cases he : e2 = 0
    · subst he
      have := (parse_back (s.length + 1) s [] b n2 (Nat.lt_succ_self _) (by intro x hx; cases hx) hpb).2.2
      have := HL.out
      simp only [List.length_nil] at *; omega
    · exact Nat.le_trans (parse_len (s.length + 1) s [] b n2 e2 hpb) (by have := HL.out; simp only [List.length_nil]; omega))
  clear hpb
  have HSF := Aside0.mk (same_f2 b (by have := HSB.out; omega))
  go_enter Tryd.func6, Tryd.ntmps6
  go_wp2_with (first
    | (go_at_call 8; (with_reducible refine (shown_calls _ HF.out.pow).mono ?_); rintro e w1 ⟨rfl, hb⟩; have HB1 := Aside0.mk hb; clear hb)
    | (go_at_call 13; (with_reducible refine (parse_calls s _ (HF.out.below HB1.out) (Nat.le_trans HL.out.2 (by decide)) b n2 e2 HPB.out).mono ?_); rintro e w2 ⟨A2, c2, rfl, hc2, hC2, hb⟩; have HB2 := Aside0.mk (below_step HB1.out hb); have HC2 := Aside0.mk (And.intro hc2 hC2); clear hb HB1 hc2 hC2)
    | (go_at_call 14; (with_reducible refine (ref_parse s (Nat.le_trans HL.out.2 (by decide)) b n2 e2 HPB.out _).mono ?_); rintro e w3 ⟨A3, c3, rfl, hc3, hC3, hb⟩; have HB3 := Aside0.mk (below_step HB2.out hb); have HC4 := Aside0.mk (And.intro HC2.out.1 (Kd.C_below HC2.out.2 hb)); have HC3 := Aside0.mk (And.intro hc3 hC3); clear hb HB2 HC2 hc3 hC3)
    | (go_at_call 12; (with_reducible refine (HTX.out _ HB3.out).mono ?_); rintro e w4 ⟨rfl, hb⟩; have HB4 := Aside0.mk (below_step HB3.out hb); have HC5 := Aside0.mk (And.intro HC4.out.1 (Kd.C_below HC4.out.2 hb)); have HC6 := Aside0.mk (And.intro HC3.out.1 (Kd.C_below HC3.out.2 hb)); clear hb HB3 HC4 HC3)
    | (go_at_call 15; (with_reducible refine (catafalqueref07_Text.calls (l.length + 41) A c l _ _ (Kd.C_below HR.out HB4.out) HC.out HTR.out).mono ?_); rintro e w5 ⟨rfl, hb⟩; have HB5 := Aside0.mk (below_step HB4.out hb); have HC7 := Aside0.mk (And.intro HC5.out.1 (Kd.C_below HC5.out.2 hb)); have HC8 := Aside0.mk (And.intro HC6.out.1 (Kd.C_below HC6.out.2 hb)); clear hb HB4 HC5 HC6)
    | (go_at_call 16; (with_reducible refine (catafalqueref07_Same.calls (b.length + 1) A2 c2 b A3 c3 b true _ HC7.out.2 HC7.out.1 HC8.out.2 HC8.out.1 HSF.out).mono ?_); rintro e w6 ⟨rfl, hd⟩; have HB6 := Aside0.mk (below_step HB5.out hd.below); clear hd)
    | (go_at_call 11; (with_reducible refine (name_calls op _).mono ?_); rintro e w7 ⟨rfl, hb⟩; have HB7 := Aside0.mk (below_step HB6.out hb); clear hb)
    | (go_at_call 17; (with_reducible refine (catafalqueref07_Name.calls op (bs (nmB op)) _ (name_f7 op)).mono ?_); rintro e w8 ⟨rfl, hb⟩; have HB8 := Aside0.mk (below_step HB7.out hb); clear hb))
  go_ret
  exact ⟨rfl, HB8.out⟩
end Go.Proofs.YtnfodfacilmgeaaDoor.Code
