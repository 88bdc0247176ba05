/- CodeNames: the walk. No condition. -/
import Derived.Test.YtnfodfacilmgeaaDoorCod5
namespace Go.Proofs.YtnfodfacilmgeaaDoor.Code
open Go Go.RowKit Go.Proofs Go.Proofs.YtnfodfacilmgeaaDoorW.PrintWords Go.Proofs.YtnfodfacilmgeaaDoorW.PrintLast Go.Proofs.YtnfodfacilmgeaaDoorW.PrintMore
set_option linter.unusedVariables false
set_option linter.unusedSimpArgs false
theorem nm_small (op : Int) : ∀ x ∈ nmB op, 97 ≤ x.toNat ∧ x.toNat ≤ 122 := by
  unfold nmB
  split
  next h =>
    have : op.toNat < 11 := by omega
    revert this
    generalize op.toNat = k
    revert k
    decide
  next => intro x hx; cases hx
theorem nm_some (op : Int) : (nmB op = []) ↔ ¬ (1 ≤ op ∧ op ≤ 10) := by
  unfold nmB
  split
  next h =>
    have h1 : op.toNat < 11 := by omega
    have h2 : op = (op.toNat : Int) := by omega
    rw [h2]
    revert h1
    simp only [Int.toNat_natCast]
    generalize op.toNat = k
    revert k
    decide
  next h => constructor <;> intro h1 <;> first | rfl | omega
theorem nm_one : ∀ a, a < 11 → ∀ b, b < 11 → nmL.getD a [] = nmL.getD b [] → a = b := by decide +kernel
theorem nm_unlike (a b : Int) (ha : 1 ≤ a ∧ a ≤ 10) (h : nmB a = nmB b) : a = b := by
  by_cases hb : 1 ≤ b ∧ b ≤ 10
  · unfold nmB at h
    rw [if_pos (by omega), if_pos (by omega)] at h
    have := nm_one a.toNat (by omega) b.toNat (by omega) h
    omega
  · exact absurd ha (by rw [← nm_some, h, nm_some]; exact hb)
theorem at_nm (op : Int) (k : Nat) (h : k < (bs (nmB op)).size) : 97 ≤ (((bs (nmB op))[k]).toNat : Int) ∧ (((bs (nmB op))[k]).toNat : Int) ≤ 122 := by
  have hk : k < (nmB op).length := by rw [← bs_size]; exact h
  have := nm_small op _ (List.getElem_mem hk)
  show 97 ≤ (((nmB op)[k]).toNat : Int) ∧ (((nmB op)[k]).toNat : Int) ≤ 122
  omega
set_option maxHeartbeats 4000000 in
theorem names_calls (w : World) (a : Int) (_ : (Lit.int .i64 a).wf = true) (b : Int) (_ : (Lit.int .i64 b).wf = true) (ht : Pows w) : Calls Tryd.prog 4 #[.int .i64 a, .int .i64 b] w fun e w' => e = .returned (.bool true) ∧ Below w.heap.size w w' := by
  have HT := Aside0.mk ht
  clear ht
  have HU := Aside0.mk (at_nm a)
  have e0 : ((bs (nmB a)).toList == ([] : List UInt8)) = !(decide (1 ≤ a) && decide (a ≤ 10)) := by
    rw [bs_toList]
    have := nm_some a
    by_cases h : nmB a = [] <;> by_cases h1 : 1 ≤ a <;> by_cases h2 : a ≤ 10 <;> simp_all
  have e1 : (decide (1 ≤ a) && decide (a ≤ 10)) = true → ((bs (nmB a)).toList == (bs (nmB b)).toList) = (a == b) := by
    intro h
    rw [bs_toList, bs_toList]
    have h1 : 1 ≤ a ∧ a ≤ 10 := by simpa using h
    by_cases hab : a = b
    · rw [hab]; simp
    · rw [beq_eq_false_iff_ne.mpr hab]
      exact beq_eq_false_iff_ne.mpr fun h2 => hab (nm_unlike a b h1 h2)
  have HE1 := Aside0.mk e1
  clear e1
  go_enter Tryd.func4, Tryd.ntmps4
  go_wp2_with (first
    | (go_at_call 8; (with_reducible refine (shown_calls _ HT.out).mono ?_); rintro e w1 ⟨rfl, hb⟩; have HB1 := Aside0.mk hb; clear hb)
    | (go_at_call 11; (with_reducible refine (name_calls a _).mono ?_); rintro e w2 ⟨rfl, hb⟩; have HB2 := Aside0.mk (below_step HB1.out hb); clear hb))
  obtain ⟨s, hs⟩ : ∃ s, bs (nmB a) = s := ⟨_, rfl⟩
  have HZ := Aside0.mk (show s.size ≤ 7 by rw [← hs, bs_size]; exact nmB_le a)
  rw [hs] at e0 HE1 HU
  rw [hs]
  clear hs HB1
  go_loopg [7] (s.size + 1) (fun kq v7 w' => ∃ (k : Nat), v7 = .int .i64 (k : Int) ∧ Aside0 (k + kq = s.size + 1 ∧ k ≤ s.size) ∧ Aside0 (Below w.heap.size w w'))
  case atStart => exact ⟨0, rfl, ⟨by omega⟩, HB2⟩
  case round =>
    clear HB2
    obtain ⟨k, rfl, HK, HB⟩ := hrel
    by_cases hk : k < s.size
    · have c1 : decide ((k : Int) < (s.size : Int)) = true := decide_eq_true (by omega)
      have c2 : (0 ≤ (k : Int)) = True := eq_true (by omega)
      have c3 := eq_true hk
      have hx : ∀ h : k < s.size, ((s[k]'h).toNat : Int) = bt s k := fun h => bt_at s (k : Int) (by rw [Int.toNat_natCast]; exact h)
      have hu := HU.out k hk
      rw [hx] at hu
      have d1 : decide (bt s k < 97) = false := decide_eq_false (by omega)
      have d2 : decide (122 < bt s k) = false := decide_eq_false (by omega)
      clear hu
      go_wp2
      go_roundg (s.size - k)
      case measure => have := HK.out; omega
      case rel => exact ⟨k + 1, by rw [show wrap64 ((k : Int) + 1) = ((k + 1 : Nat) : Int) by have := HZ.out; unfold wrap64; omega], ⟨by have := HK.out; omega⟩, HB⟩
    · have c1 : decide ((k : Int) < (s.size : Int)) = false := decide_eq_false (by omega)
      have c3 := eq_false hk
      clear hk
      by_cases g1 : 1 ≤ a
      · have f1 := decide_eq_true g1
        by_cases g2 : a ≤ 10
        · have f2 := decide_eq_true g2
          have e1 := HE1.out (by rw [f1, f2]; rfl)
          rw [f1, f2] at e0
          replace e0 : (s.toList == ([] : List UInt8)) = false := e0
          clear g1 g2
          go_wp2_with (go_at_call 11; (with_reducible refine (name_calls b _).mono ?_); rintro e w2 ⟨rfl, hb⟩; have HB2 := Aside0.mk (below_step HB.out hb); clear hb)
          go_ret
          exact ⟨rfl, HB2.out⟩
        · have f2 := decide_eq_false g2
          rw [f1, f2] at e0
          replace e0 : (s.toList == ([] : List UInt8)) = true := e0
          clear g1 g2
          go_wp2
          go_ret
          exact ⟨rfl, HB.out⟩
      · have f1 := decide_eq_false g1
        rw [f1] at e0
        replace e0 : (s.toList == ([] : List UInt8)) = true := e0
        clear g1
        go_wp2
        go_ret
        exact ⟨rfl, HB.out⟩
end Go.Proofs.YtnfodfacilmgeaaDoor.Code
