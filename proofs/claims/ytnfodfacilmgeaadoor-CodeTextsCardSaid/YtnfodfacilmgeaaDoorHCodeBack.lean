/- CodeBack: the walk. No condition. -/
import Derived.Test.YtnfodfacilmgeaaDoorBackP
import Derived.Test.YtnfodfacilmgeaaDoorPSame07x1
import Derived.Test.YtnfodfacilmgeaaDoorXOpen
namespace Go.Proofs.YtnfodfacilmgeaaDoor.Code
open Go Go.RowKit Go.Proofs Go.Proofs.YtnfodfacilmgeaaDoorW.PrintWords Go.Proofs.YtnfodfacilmgeaaDoorW.PrintLast Go.Proofs.YtnfodfacilmgeaaDoorW.PrintMore
set_option linter.unusedVariables false
set_option linter.unusedSimpArgs false
open PCodeTexts
theorem insAt_of2 {W : World} {A : Option Addr} {l : List S43} (h : Kd.C kI W A l.length l) : InsAt W A (l.map unI) := by
  intro i h0 h1
  rw [List.length_map] at h1
  obtain ⟨ad, e, c0, c1⟩ := at_T43 h i h0 h1
  have hi : i.toNat < l.length := by omega
  have e2 : (l.map unI).getD i.toNat (0, 0) = ((rd_T43 l i).f0, (rd_T43 l i).f1) := by
    unfold rd_T43
    rw [List.getD_eq_getElem?_getD, List.getElem?_map, List.getD_eq_getElem?_getD, List.getElem?_eq_getElem hi]; rfl
  exact ⟨ad, e, by rw [e2]; exact c0, by rw [e2]; exact c1⟩
theorem opIns2 : Go.Proofs.YtnfodfacilmgeaaDoorX.Opens Tryd.prog 43 kI (fun x => (Lit.int .i64 x.f0).wf = true ∧ (Lit.int .i64 x.f1).wf = true) :=
  Go.Proofs.YtnfodfacilmgeaaDoorX.Opens.imp (Go.Proofs.YtnfodfacilmgeaaDoorX.Opens.struct (fun x : S43 => (x.f0, x.f1)) (fun p => ⟨p.1, p.2⟩) (fun _ => rfl) Tryd.underlying43 (by kernel_rfl) (Go.Proofs.YtnfodfacilmgeaaDoorX.OpensF.cons rfl (by kernel_rfl) (Go.Proofs.YtnfodfacilmgeaaDoorX.Opens.int Tryd.underlying3) (Go.Proofs.YtnfodfacilmgeaaDoorX.OpensF.one rfl (by kernel_rfl) (Go.Proofs.YtnfodfacilmgeaaDoorX.Opens.int Tryd.underlying3)))) (fun a h => by simpa using h)
theorem i64_bound2 {n : Int} (h : (Lit.int .i64 n).wf = true) : -9223372036854775808 ≤ n ∧ n ≤ 9223372036854775807 := by
  have hmin : IntKind.i64.min = -9223372036854775808 := by decide
  have hmax : IntKind.i64.max = 9223372036854775807 := by decide
  simpa [Lit.wf, hmin, hmax] using h
theorem wf_of2 {l : List S43} {X : Prop} (h : (∀ x ∈ l, (Lit.int .i64 x.f0).wf = true ∧ (Lit.int .i64 x.f1).wf = true) ∧ X) : Wf (l.map unI) := by
  intro x hx
  obtain ⟨y, hy, rfl⟩ := List.mem_map.mp hx
  exact i64_bound2 (h.1 y hy).2
theorem same_self (l : List S43) (hl : l.length ≤ 1000) : ∀ d i, i + d = l.length → ∀ k, d < k → catafalqueref07_Same.l0 k l l (i : Int) = some true := by
  intro d
  induction d with
  | zero =>
    intro i hi k hk
    obtain ⟨k, rfl⟩ : ∃ j, k = j + 1 := ⟨k - 1, by omega⟩
    rw [catafalqueref07_Same.l0, if_neg (by omega)]
  | succ d ih =>
    intro i hi k hk
    obtain ⟨k, rfl⟩ : ∃ j, k = j + 1 := ⟨k - 1, by omega⟩
    have w1 : wrap64 ((i : Int) + 1) = ((i + 1 : Nat) : Int) := by unfold wrap64; omega
    rw [catafalqueref07_Same.l0, if_pos (by omega), if_pos (Int.natCast_nonneg i), if_pos (by omega), w1, if_neg (by simp)]
    exact ih (i + 1) (by omega) k (by omega)
theorem same_f (l : List S43) (hl : l.length ≤ 1000) : catafalqueref07_Same.f (l.length + 1) l l = some true := by
  unfold catafalqueref07_Same.f
  rw [if_pos rfl]
  exact same_self l hl l.length 0 (Nat.zero_add _) _ (by omega)
def fstU (l : List S43) : Nat := l.findIdx (fun x => decide (nmB x.f0 = []))
theorem fstU_le (l : List S43) : fstU l ≤ l.length := List.findIdx_le_length
theorem fstU_before (l : List S43) (j : Nat) (h : j < l.length) (hj : j < fstU l) : nmB (l[j]).f0 ≠ [] := by
  have := List.not_of_lt_findIdx hj
  intro e
  rw [e] at this
  cases this
theorem fstU_at (l : List S43) (h : fstU l < l.length) : nmB (l[fstU l]).f0 = [] :=
  of_decide_eq_true (List.findIdx_getElem (p := fun x : S43 => decide (nmB x.f0 = [])) (w := h))
set_option maxHeartbeats 4000000 in
theorem back_calls (w : World) (A : Option Addr) (c : Nat) (l : List S43) (hr : Kd.C kI w A l.length l) (hc : l.length ≤ c) {X0 : Prop} (wl : (∀ x ∈ l, (Lit.int .i64 x.f0).wf = true ∧ (Lit.int .i64 x.f1).wf = true) ∧ X0) (s0 : ByteArray) (hf : Fx w) :
    Calls Tryd.prog 7 #[.slice A l.length c, .string s0] w fun e w' => e = .returned (.bool true) ∧ Below w.heap.size w w' := by
  obtain ⟨s, rfl⟩ : ∃ s, s0 = bs s := ⟨s0.data.toList, rfl⟩
  have HF := Aside0.mk hf
  have HR := Aside0.mk hr
  have HC := Aside0.mk hc
  have HWL := Aside0.mk (wf_of2 wl)
  clear hf hr hc wl
  have hbz := bs_size s
  by_cases g1 : 100 < (l.length : Int)
  · have f1 := decide_eq_true g1
    clear g1
    go_enter Tryd.func7, Tryd.ntmps7
    go_wp2_with (go_at_call 8; (with_reducible refine (shown_calls _ HF.out.pow).mono ?_); rintro e w1 ⟨rfl, hb⟩; have HB1 := Aside0.mk hb; clear hb)
    go_ret
    exact ⟨rfl, HB1.out⟩
  have f1 := decide_eq_false g1
  by_cases g2 : 2000 < (s.length : Int)
  · have f2 := decide_eq_true g2
    clear g1 g2
    go_enter Tryd.func7, Tryd.ntmps7
    go_wp2_with (go_at_call 8; (with_reducible refine (shown_calls _ HF.out.pow).mono ?_); rintro e w1 ⟨rfl, hb⟩; have HB1 := Aside0.mk hb; clear hb)
    go_ret
    exact ⟨rfl, HB1.out⟩
  have f2 := decide_eq_false g2
  have HL := Aside0.mk (show l.length ≤ 100 ∧ s.length ≤ 2000 by omega)
  clear g1 g2
  have HTX := Aside0.mk (show ∀ W, Below w.heap.size w W → Calls Tryd.prog 12 #[.slice A l.length c] W fun e w' => e = .returned (.string (bs (textB (l.map unI)))) ∧ Below W.heap.size W w' by
    intro W hb
    have := text_calls A c (l.map unI) W (insAt_of2 (Kd.C_below HR.out hb)) (by rw [List.length_map]; exact HC.out) (by rw [List.length_map]; have := HL.out; omega) HWL.out (HF.out.below hb).pow
    rw [List.length_map] at this
    exact this)
  have HTZ := Aside0.mk (show (textB (l.map unI)).length ≤ 3000 from Nat.le_trans (textB_le _ HWL.out) (by rw [List.length_map]; have := HL.out; omega))
  have HTL := Aside0.mk (show l.length ≤ (textB (l.map unI)).length by
    have := nls_le (textB (l.map unI)); rw [nls_text, List.length_map] at this; exact this)
  obtain ⟨b, n2, e2, hpb⟩ : ∃ x y z, parseF (s.length + 1) s [] = (x, y, z) := ⟨_, _, _, rfl⟩
  have HPB := Aside0.mk hpb
  have HBK := Aside0.mk (show e2 = 0 → textB (b.map unI) = s ∧ Wf (b.map unI) ∧ b.length ≤ 2000 by
    intro h
    subst h
    obtain ⟨t1, t2, t3⟩ := parse_back (s.length + 1) s [] b n2 (Nat.lt_succ_self _) (by intro x hx; cases hx) hpb
    exact ⟨t1, t2, by have := HL.out; simp only [List.length_nil] at t3; omega⟩)
  clear hpb
  have HTB := Aside0.mk (show e2 = 0 → ∀ A1 c1 W, Below w.heap.size w W → Kd.C kI W A1 b.length b → b.length ≤ c1 → Calls Tryd.prog 12 #[.slice A1 b.length c1] W fun e w' => e = .returned (.string (bs s)) ∧ Below W.heap.size W w' by
    intro h A1 c1 W hb hC hc1
    obtain ⟨t1, t2, t3⟩ := HBK.out h
    have := text_calls A1 c1 (b.map unI) W (insAt_of2 hC) (by rw [List.length_map]; exact hc1) (by rw [List.length_map]; omega) t2 (HF.out.below hb).pow
    rw [List.length_map, t1] at this
    exact this)
  have hfl := fstU_le l
  obtain ⟨F, hF⟩ : ∃ F, fstU l = F := ⟨_, rfl⟩
  have HFB := Aside0.mk (fun j h hj => fstU_before l j h hj)
  have HFA := Aside0.mk (fstU_at l)
  rw [hF] at hfl
  have HPL := Aside0.mk (show parseF ((textB (l.map unI)).length + 1) (textB (l.map unI)) [] = if F < l.length then ([], (F : Int), 2) else (l, 0, 0) by
    have hk : l.length < (textB (l.map unI)).length + 1 := by have := HTL.out; omega
    by_cases h : F < l.length
    · rw [if_pos h]
      have := parse_text_no l [] _ F hk h (fun j hj hjF => HFB.out j hj (by rw [hF]; exact hjF)) (by subst hF; exact HFA.out h) HWL.out
      simpa using this
    · rw [if_neg h]
      exact parse_text l [] _ hk (fun x hx => by
        obtain ⟨j, hj, rfl⟩ := List.getElem_of_mem hx
        exact HFB.out j hj (by rw [hF]; omega)) HWL.out)
  have HFB := Aside0.mk (show ∀ j (h : j < l.length), j < F → nmB (l[j]).f0 ≠ [] from fun j h hj => HFB.out j h (by rw [hF]; exact hj))
  have HFA := Aside0.mk (show ∀ h : F < l.length, nmB (l[F]).f0 = [] from fun h => by subst hF; exact HFA.out h)
  have HFL := Aside0.mk hfl
  clear hF hfl
  generalize textB (l.map unI) = tl at HTX HTZ HTL HPL
  go_enter Tryd.func7, Tryd.ntmps7
  go_wp2_with (go_at_call 8; (with_reducible refine (shown_calls _ HF.out.pow).mono ?_); rintro e w1 ⟨rfl, hb⟩; have HB1 := Aside0.mk hb; clear hb)
  go_loopg [6, 7] (l.length + 2) (fun kq v6 v7 w' => ∃ (k : Nat) (d : Bool), v7 = .int .i64 (k : Int) ∧ v6 = .int .i64 (if d = true then (F : Int) else -1) ∧ Aside0 (k + kq = l.length + 2 ∧ k ≤ l.length ∧ (d = true → k = F + 1 ∧ F < l.length) ∧ (d = false → k ≤ F)) ∧ Aside0 (Below w.heap.size w w'))
  case atStart => exact ⟨0, false, rfl, rfl, ⟨by simp⟩, HB1⟩
  case round =>
    clear HB1
    obtain ⟨k, d, rfl, rfl, HK, HB⟩ := hrel
    cases d with
    | true =>
      rw [if_pos rfl]
      have hFk := (HK.out.2.2.1 rfl)
      have HPL2 := Aside0.mk (HPL.out.trans (if_pos hFk.2))
      have c0 : decide ((F : Int) < 0) = false := decide_eq_false (by omega)
      have c00 : (0 ≤ (F : Int)) = True := eq_true (by omega)
      have c01 : decide (0 ≤ (F : Int)) = true := decide_eq_true (by omega)
      clear hFk
      by_cases hk : k < l.length
      · have c1 : decide ((k : Int) < (l.length : Int)) = true := decide_eq_true (by omega)
        have c1n := eq_true hk
        clear hk
        by_cases he : e2 = 0
        · have q1 : (e2 == 0) = true := beq_iff_eq.mpr he
          go_wp2_with (first
            | (go_at_call 12; (with_reducible refine (HTX.out _ HB.out).mono ?_); rintro e w2 ⟨rfl, hb⟩; have HB2 := Aside0.mk (below_step HB.out hb); clear hb HB)
            | (go_at_call 13; (with_reducible refine (parse_calls tl _ (HF.out.below HB2.out) (Nat.le_trans HTZ.out (by decide)) [] (F : Int) 2 HPL2.out).mono ?_); rintro e w3 ⟨A3, c3, rfl, hc3, hC3, hb⟩; have HB3 := Aside0.mk (below_step HB2.out hb); have HC3 := Aside0.mk (And.intro hc3 hC3); clear hb HB2 hc3 hC3)
            | (go_at_call 13; (with_reducible refine (parse_calls s _ (HF.out.below HB3.out) (Nat.le_trans HL.out.2 (by decide)) b n2 e2 HPB.out).mono ?_); rintro e w4 ⟨A4, c4, rfl, hc4, hC4, hb⟩; have HC5 := Aside0.mk (And.intro HC3.out.1 (Kd.C_below HC3.out.2 hb)); have HB4 := Aside0.mk (below_step HB3.out hb); have HC4 := Aside0.mk (And.intro hc4 hC4); clear hb HB3 HC3 hc4 hC4)
            | (go_at_call 12; (with_reducible refine (HTB.out he A4 c4 _ HB4.out HC4.out.2 HC4.out.1).mono ?_); rintro e w5 ⟨rfl, hb⟩; have HC6 := Aside0.mk (And.intro HC5.out.1 (Kd.C_below HC5.out.2 hb)); have HB5 := Aside0.mk (below_step HB4.out hb); clear hb HB4 HC5))
          go_ret
          exact ⟨rfl, HB5.out⟩
        · have q1 : (e2 == 0) = false := beq_eq_false_iff_ne.mpr he
          go_wp2_with (first
            | (go_at_call 12; (with_reducible refine (HTX.out _ HB.out).mono ?_); rintro e w2 ⟨rfl, hb⟩; have HB2 := Aside0.mk (below_step HB.out hb); clear hb HB)
            | (go_at_call 13; (with_reducible refine (parse_calls tl _ (HF.out.below HB2.out) (Nat.le_trans HTZ.out (by decide)) [] (F : Int) 2 HPL2.out).mono ?_); rintro e w3 ⟨A3, c3, rfl, hc3, hC3, hb⟩; have HB3 := Aside0.mk (below_step HB2.out hb); have HC3 := Aside0.mk (And.intro hc3 hC3); clear hb HB2 hc3 hC3)
            | (go_at_call 13; (with_reducible refine (parse_calls s _ (HF.out.below HB3.out) (Nat.le_trans HL.out.2 (by decide)) b n2 e2 HPB.out).mono ?_); rintro e w4 ⟨A4, c4, rfl, hc4, hC4, hb⟩; have HC5 := Aside0.mk (And.intro HC3.out.1 (Kd.C_below HC3.out.2 hb)); have HB4 := Aside0.mk (below_step HB3.out hb); have HC4 := Aside0.mk (And.intro hc4 hC4); clear hb HB3 HC3 hc4 hC4))
          go_ret
          exact ⟨rfl, HB4.out⟩
      · have c1 : decide ((k : Int) < (l.length : Int)) = false := decide_eq_false (by omega)
        have c1n := eq_false hk
        clear hk
        by_cases he : e2 = 0
        · have q1 : (e2 == 0) = true := beq_iff_eq.mpr he
          go_wp2_with (first
            | (go_at_call 12; (with_reducible refine (HTX.out _ HB.out).mono ?_); rintro e w2 ⟨rfl, hb⟩; have HB2 := Aside0.mk (below_step HB.out hb); clear hb HB)
            | (go_at_call 13; (with_reducible refine (parse_calls tl _ (HF.out.below HB2.out) (Nat.le_trans HTZ.out (by decide)) [] (F : Int) 2 HPL2.out).mono ?_); rintro e w3 ⟨A3, c3, rfl, hc3, hC3, hb⟩; have HB3 := Aside0.mk (below_step HB2.out hb); have HC3 := Aside0.mk (And.intro hc3 hC3); clear hb HB2 hc3 hC3)
            | (go_at_call 13; (with_reducible refine (parse_calls s _ (HF.out.below HB3.out) (Nat.le_trans HL.out.2 (by decide)) b n2 e2 HPB.out).mono ?_); rintro e w4 ⟨A4, c4, rfl, hc4, hC4, hb⟩; have HC5 := Aside0.mk (And.intro HC3.out.1 (Kd.C_below HC3.out.2 hb)); have HB4 := Aside0.mk (below_step HB3.out hb); have HC4 := Aside0.mk (And.intro hc4 hC4); clear hb HB3 HC3 hc4 hC4)
            | (go_at_call 12; (with_reducible refine (HTB.out he A4 c4 _ HB4.out HC4.out.2 HC4.out.1).mono ?_); rintro e w5 ⟨rfl, hb⟩; have HC6 := Aside0.mk (And.intro HC5.out.1 (Kd.C_below HC5.out.2 hb)); have HB5 := Aside0.mk (below_step HB4.out hb); clear hb HB4 HC5))
          go_ret
          exact ⟨rfl, HB5.out⟩
        · have q1 : (e2 == 0) = false := beq_eq_false_iff_ne.mpr he
          go_wp2_with (first
            | (go_at_call 12; (with_reducible refine (HTX.out _ HB.out).mono ?_); rintro e w2 ⟨rfl, hb⟩; have HB2 := Aside0.mk (below_step HB.out hb); clear hb HB)
            | (go_at_call 13; (with_reducible refine (parse_calls tl _ (HF.out.below HB2.out) (Nat.le_trans HTZ.out (by decide)) [] (F : Int) 2 HPL2.out).mono ?_); rintro e w3 ⟨A3, c3, rfl, hc3, hC3, hb⟩; have HB3 := Aside0.mk (below_step HB2.out hb); have HC3 := Aside0.mk (And.intro hc3 hC3); clear hb HB2 hc3 hC3)
            | (go_at_call 13; (with_reducible refine (parse_calls s _ (HF.out.below HB3.out) (Nat.le_trans HL.out.2 (by decide)) b n2 e2 HPB.out).mono ?_); rintro e w4 ⟨A4, c4, rfl, hc4, hC4, hb⟩; have HC5 := Aside0.mk (And.intro HC3.out.1 (Kd.C_below HC3.out.2 hb)); have HB4 := Aside0.mk (below_step HB3.out hb); have HC4 := Aside0.mk (And.intro hc4 hC4); clear hb HB3 HC3 hc4 hC4))
          go_ret
          exact ⟨rfl, HB4.out⟩
    | false =>
      rw [if_neg (by decide)]
      have hkF := (HK.out.2.2.2 rfl)
      by_cases hk : k < l.length
      · have c1 : decide ((k : Int) < (l.length : Int)) = true := decide_eq_true (by omega)
        have c1n := eq_true hk
        have p1 : (0 : Int) ≤ (k : Int) := by omega
        have p2 : (k : Int) < (l.length : Int) := by omega
        have w1 : wrap64 ((k : Int) + 1) = ((k + 1 : Nat) : Int) := by have := HL.out; unfold wrap64; omega
        obtain ⟨ad, rfl, a0, a1⟩ := cellsIns (insAt_of2 (Kd.C_below HR.out HB.out)) (i := k) (by rw [List.length_map]; exact hk)
        rw [List.getElem_map] at a0
        replace a0 : World.cell? _ _ = some (.int .i64 (l[k]).f0) := a0
        have HKF := Aside0.mk hkF
        have HKL := Aside0.mk hk
        obtain ⟨op, hop⟩ : ∃ x, (l[k]).f0 = x := ⟨_, rfl⟩
        rw [hop] at a0
        clear a1
        by_cases hn : nmB op = []
        · have t1 : (bs (nmB op)).toList.isEmpty = true := by rw [bs_toList, hn]; rfl
          have hkF2 : k = F := by
            rcases Nat.lt_or_eq_of_le hkF with h | h
            · exact absurd (hop ▸ hn) (HFB.out k hk h)
            · exact h
          have HKF2 := Aside0.mk hkF2
          clear hn hkF hk hkF2 hop
          go_wp2_with (go_at_call 11; (with_reducible refine (name_calls op _).mono ?_); rintro e w2 ⟨rfl, hb⟩; have HB2 := Aside0.mk (below_step HB.out hb); clear hb)
          go_roundg (l.length + 1 - k)
          case measure => have := HK.out; omega
          case rel => exact ⟨k + 1, true, by rw [w1], by rw [HKF2.out]; rfl, ⟨by have := HK.out; have := HKL.out; have := HKF2.out; refine ⟨by omega, by omega, fun _ => ⟨by omega, by omega⟩, fun h => (by cases h)⟩⟩, HB2⟩
        · have t1 : (bs (nmB op)).toList.isEmpty = false := by
            rw [bs_toList]
            cases h : nmB op with
            | nil => exact absurd h hn
            | cons x l => rfl
          have HKF2 := Aside0.mk (show k < F by
            rcases Nat.lt_or_eq_of_le hkF with h | h
            · exact h
            · subst h; exact absurd (HFA.out hk) (hop ▸ hn))
          clear hn hkF hk hop
          go_wp2_with (go_at_call 11; (with_reducible refine (name_calls op _).mono ?_); rintro e w2 ⟨rfl, hb⟩; have HB2 := Aside0.mk (below_step HB.out hb); clear hb)
          go_roundg (l.length + 1 - k)
          case measure => have := HK.out; omega
          case rel => exact ⟨k + 1, false, by rw [w1], rfl, ⟨by have := HK.out; have := HKL.out; have := HKF2.out; refine ⟨by omega, by omega, fun h => (by cases h), fun _ => by omega⟩⟩, HB2⟩
      · have c1 : decide ((k : Int) < (l.length : Int)) = false := decide_eq_false (by omega)
        have c1n := eq_false hk
        have HPL2 := Aside0.mk (HPL.out.trans (if_neg (show ¬ F < l.length by have := HFL.out; omega)))
        have HSF := Aside0.mk (same_f l (by have := HL.out; omega))
        clear hk hkF
        by_cases he : e2 = 0
        · have q1 : (e2 == 0) = true := beq_iff_eq.mpr he
          go_wp2_with (first
            | (go_at_call 12; (with_reducible refine (HTX.out _ HB.out).mono ?_); rintro e w2 ⟨rfl, hb⟩; have HB2 := Aside0.mk (below_step HB.out hb); clear hb HB)
            | (go_at_call 13; (with_reducible refine (parse_calls tl _ (HF.out.below HB2.out) (Nat.le_trans HTZ.out (by decide)) l 0 0 HPL2.out).mono ?_); rintro e w3 ⟨A3, c3, rfl, hc3, hC3, hb⟩; have HB3 := Aside0.mk (below_step HB2.out hb); have HC3 := Aside0.mk (And.intro hc3 hC3); clear hb HB2 hc3 hC3)
            | (go_at_call 13; (with_reducible refine (parse_calls s _ (HF.out.below HB3.out) (Nat.le_trans HL.out.2 (by decide)) b n2 e2 HPB.out).mono ?_); rintro e w4 ⟨A4, c4, rfl, hc4, hC4, hb⟩; have HC5 := Aside0.mk (And.intro HC3.out.1 (Kd.C_below HC3.out.2 hb)); have HB4 := Aside0.mk (below_step HB3.out hb); have HC4 := Aside0.mk (And.intro hc4 hC4); clear hb HB3 HC3 hc4 hC4)
            | (go_at_call 12; (with_reducible refine (HTB.out he A4 c4 _ HB4.out HC4.out.2 HC4.out.1).mono ?_); rintro e w5 ⟨rfl, hb⟩; have HC6 := Aside0.mk (And.intro HC5.out.1 (Kd.C_below HC5.out.2 hb)); have HB5 := Aside0.mk (below_step HB4.out hb); clear hb HB4 HC5)
            | (go_at_call 16; (with_reducible refine (catafalqueref07_Same.calls (l.length + 1) A3 c3 l A c l true _ HC6.out.2 HC6.out.1 (Kd.C_below HR.out HB5.out) HC.out HSF.out).mono ?_); rintro e w6 ⟨rfl, hd⟩; have HB6 := Aside0.mk (below_step HB5.out hd.below); clear hd))
          go_ret
          exact ⟨rfl, HB6.out⟩
        · have q1 : (e2 == 0) = false := beq_eq_false_iff_ne.mpr he
          go_wp2_with (first
            | (go_at_call 12; (with_reducible refine (HTX.out _ HB.out).mono ?_); rintro e w2 ⟨rfl, hb⟩; have HB2 := Aside0.mk (below_step HB.out hb); clear hb HB)
            | (go_at_call 13; (with_reducible refine (parse_calls tl _ (HF.out.below HB2.out) (Nat.le_trans HTZ.out (by decide)) l 0 0 HPL2.out).mono ?_); rintro e w3 ⟨A3, c3, rfl, hc3, hC3, hb⟩; have HB3 := Aside0.mk (below_step HB2.out hb); have HC3 := Aside0.mk (And.intro hc3 hC3); clear hb HB2 hc3 hC3)
            | (go_at_call 13; (with_reducible refine (parse_calls s _ (HF.out.below HB3.out) (Nat.le_trans HL.out.2 (by decide)) b n2 e2 HPB.out).mono ?_); rintro e w4 ⟨A4, c4, rfl, hc4, hC4, hb⟩; have HC5 := Aside0.mk (And.intro HC3.out.1 (Kd.C_below HC3.out.2 hb)); have HB4 := Aside0.mk (below_step HB3.out hb); have HC4 := Aside0.mk (And.intro hc4 hC4); clear hb HB3 HC3 hc4 hC4)
            | (go_at_call 16; (with_reducible refine (catafalqueref07_Same.calls (l.length + 1) A3 c3 l A c l true _ HC5.out.2 HC5.out.1 (Kd.C_below HR.out HB4.out) HC.out HSF.out).mono ?_); rintro e w6 ⟨rfl, hd⟩; have HB6 := Aside0.mk (below_step HB4.out hd.below); clear hd))
          go_ret
          exact ⟨rfl, HB6.out⟩
end Go.Proofs.YtnfodfacilmgeaaDoor.Code
