/- Heap: one goes up. No condition. -/
import Derived.Test.YtkbjihnkbfjhmaaHeap2
namespace Go.Proofs.Ytkbjihnkbfjhmaa.Heap
open Go Go.RowKit Go.Proofs.Ytkbjihnkbfjhmaa.Own Go.Proofs.YtkbjihnkbfjhmaaW.PrintWords Go.Proofs.YtkbjihnkbfjhmaaW.PrintLast Go.Proofs.YtkbjihnkbfjhmaaW.PrintMore
set_option linter.unusedVariables false
set_option linter.unusedSimpArgs false
def ahd (l : List Tm) (i k : Nat) : Bool := if h : i < l.length ∧ k < l.length then decide (cmpT (l[i]'h.1) (l[k]'h.2) < 0) else false
def upL : Nat → List Tm → Nat → List Tm
  | 0, l, _ => l
  | f + 1, l, i => if 0 < i ∧ ahd l i ((i - 1) / 2) = true then upL f (swp l i ((i - 1) / 2)) ((i - 1) / 2) else l
theorem upL_irr : ∀ (n i f : Nat) (l : List Tm), i ≤ n → i ≤ f → upL f l i = upL i l i
  | 0, i, f, l, h1, h2 => by
    have : i = 0 := by omega
    subst this
    cases f with
    | zero => rfl
    | succ f => simp only [upL]; rw [if_neg (by omega)]
  | n + 1, i, f, l, h1, h2 => by
    cases i with
    | zero => cases f with
      | zero => rfl
      | succ f => simp only [upL]; rw [if_neg (by omega)]
    | succ i =>
      obtain ⟨f, rfl⟩ : ∃ g, f = g + 1 := ⟨f - 1, by omega⟩
      simp only [upL]
      split
      · rw [upL_irr n ((i + 1 - 1) / 2) f _ (by omega) (by omega), upL_irr n ((i + 1 - 1) / 2) i _ (by omega) (by omega)]
      · rfl
theorem upL_len : ∀ (f : Nat) (l : List Tm) (i : Nat), (upL f l i).length = l.length
  | 0, _, _ => rfl
  | f + 1, l, i => by
    simp only [upL]
    split
    · rw [upL_len, swp_len]
    · rfl
section
variable {w0 w w' : World} {F0 P0 : Nat → Prop} {ts : List Thing} {p eB : Nat} {cells : Array Value} {v : Value} {l : List Tm}
theorem ahead_ahd (h : St w0 F0 P0 (boxT p eB cells :: rowT kTm 23 v l :: ts) w) (hv : cells[0]? = some v) {i k : Nat} (hi : i < l.length) (hk : k < l.length) (hlen : l.length ≤ 1000000) {b : Bool} (hb : ahd l i k = b) :
    Calls Try.prog 33 #[.pointer (some ⟨p, 0, none⟩), .int .i64 (i : Int), .int .i64 (k : Int)] w fun e w' => e = .returned (.bool b) ∧ St w0 F0 P0 (boxT p eB cells :: rowT kTm 23 v l :: ts) w' := by
  subst hb
  unfold ahd
  rw [dif_pos ⟨hi, hk⟩]
  refine (ahead_st h hv hi hk hlen).mono ?_
  rintro e w' ⟨rfl, hb⟩
  exact ⟨rfl, h.below hb⟩
set_option maxHeartbeats 1000000 in
theorem up_st (h : St w0 F0 P0 (boxT p eB cells :: rowT kTm 23 v l :: ts) w) (hv : cells[0]? = some v) {i : Nat} (hi : i < l.length) (hlen : l.length ≤ 1000000) :
    Calls Try.prog 23 #[.pointer (some ⟨p, 0, none⟩), .int .i64 (i : Int)] w fun e w' => e = .returned (.tuple #[]) ∧ St w0 F0 P0 (boxT p eB cells :: rowT kTm 23 v (upL i l i) :: ts) w' := by
  have HS := Aside0.mk h
  have HV := Aside0.mk hv
  clear h hv
  have HI := Aside0.mk (fun f hf => upL_irr i i f l (Nat.le_refl _) hf)
  generalize hR : upL i l i = R at HI ⊢
  clear hR
  go_enter Try.func23, Try.ntmps23
  go_wp2
  go_loopg [1] (i + 1) (fun kq v1 w' => ∃ (j : Nat) (l' : List Tm), v1 = .int .i64 (j : Int) ∧ Aside0 (j + 1 ≤ kq ∧ l'.length = l.length ∧ j < l.length ∧ (∀ f, j ≤ f → upL f l' j = R)) ∧ Aside0 (St w0 F0 P0 (boxT p eB cells :: rowT kTm 23 v l' :: ts) w'))
  case atStart => exact ⟨i, l, rfl, ⟨Nat.le_refl _, rfl, hi, HI.out⟩, HS⟩
  case round =>
    clear HS HI hi
    obtain ⟨j, l', rfl, HK, HS⟩ := hrel
    cases gk with
    | zero => exact absurd HK.out.1 (by omega)
    | succ k1 =>
      obtain ⟨q1, q2, q3, q4⟩ := HK.out
      have hlen' : l'.length ≤ 1000000 := by omega
      have HJ := Aside0.mk q3
      have q5 := q4 (j + 1) (by omega)
      simp only [upL] at q5
      by_cases h0 : 0 < j
      · obtain ⟨m, hm⟩ : ∃ m : Nat, ((j : Int) - 1) / 2 = (m : Int) := ⟨(j - 1) / 2, by omega⟩
        have hmn : (j - 1) / 2 = m := by omega
        rw [hmn] at q5
        have c1 : decide (0 < j) = true := decide_eq_true (by omega)
        have hj1 : (1 : Int) ≤ (j : Int) := by omega
        have hj2 : (j : Int) ≤ 1000000 := by omega
        have HL := Aside0.mk (show j < l'.length ∧ m < l'.length by omega)
        have HM := Aside0.mk (show m < j by omega)
        cases hb : ahd l' j m with
        | true =>
          have HB := Aside0.mk hb
          have HR := Aside0.mk (fun f (hf : m ≤ f) => show upL f (swp l' j m) m = R by
            have q6 := q4 (max (f + 1) j) (by omega)
            obtain ⟨g, hg⟩ : ∃ g, max (f + 1) j = g + 1 := ⟨max (f + 1) j - 1, by omega⟩
            rw [hg] at q6
            simp only [upL] at q6
            rw [hmn, if_pos ⟨h0, hb⟩] at q6
            rw [upL_irr m m f _ (Nat.le_refl _) hf, ← q6, upL_irr m m g _ (Nat.le_refl _) (by omega)])
          clear q4 q5 hmn hb h0 q1 q2 q3
          go_wp2_with (first | (go_at_call 33; (with_reducible refine (ahead_ahd HS.out HV.out HL.out.1 HL.out.2 hlen' HB.out).mono ?_); rintro e w1 ⟨rfl, hS⟩; have HS1 := Aside0.mk hS; clear hS HS) | (go_at_call 24; (with_reducible refine (swap_st HS1.out HV.out HL.out.1 HL.out.2 hlen').mono ?_); rintro e w2 ⟨rfl, hS⟩; have HS2 := Aside0.mk hS; clear hS HS1))
          go_roundg k1
          case measure => have := HK.out; omega
          case rel => exact ⟨m, _, by rw [hm], ⟨by have := HM.out; have := HK.out.1; omega, by rw [swp_len]; exact HK.out.2.1, by have := HM.out; have := HK.out.2.2.1; omega, HR.out⟩, HS2⟩
        | false =>
          have HB := Aside0.mk hb
          rw [if_neg (by rw [hb]; simp)] at q5
          have HR := Aside0.mk q5
          clear q4 q5 hmn hb h0 q1 q2 q3
          go_wp2_with (go_at_call 33; (with_reducible refine (ahead_ahd HS.out HV.out HL.out.1 HL.out.2 hlen' HB.out).mono ?_); rintro e w1 ⟨rfl, hS⟩; have HS1 := Aside0.mk hS; clear hS HS)
          go_end0
          exact ⟨rfl, by rw [← HR.out]; exact HS1.out⟩
      · have c1 : decide (0 < j) = false := decide_eq_false (by omega)
        rw [if_neg (by omega)] at q5
        have HR := Aside0.mk q5
        clear q4 q5 h0 q1 q2 q3
        go_wp2
        go_end0
        exact ⟨rfl, by rw [← HR.out]; exact HS.out⟩
end
end Go.Proofs.Ytkbjihnkbfjhmaa.Heap
