/- ArenaLeast: numbers that never lived are taken from the least one on. No condition. -/
import Derived.Test.YtpoecjieagkoaaaAw
namespace Go.Proofs.Ytpoecjieagkoaaa.Arena
open Go Go.ChangeMaps Go.RowKit Go.Proofs.YtpoecjieagkoaaaW.PrintWords Go.Proofs.YtpoecjieagkoaaaW.PrintLast Go.Proofs.YtpoecjieagkoaaaW.PrintMore
set_option linter.unusedVariables false
set_option linter.unusedSimpArgs false
set_option maxHeartbeats 1000000 in
theorem least_calls (w : World) (b : Int) (wf : (Lit.int .u8 b).wf = true) : Calls Try.prog 4 #[.int .u8 b] w fun e w' => e = .returned (.bool true) ∧ Below w.heap.size w w' := by
  have hb0 : 0 ≤ b ∧ b ≤ 255 := by
    have hmin : IntKind.u8.min = 0 := rfl
    have hmax : IntKind.u8.max = 255 := rfl
    simpa [Lit.wf, hmin, hmax] using wf
  have hm : Int.tmod b 64 = b % 64 := Int.tmod_eq_emod_of_nonneg hb0.1
  have hm2 : 0 ≤ b % 64 ∧ b % 64 < 64 := by omega
  go_enter Try.func4, Try.ntmps4
  go_wp2_with (first | (go_at_call 9; (with_reducible refine (shown_calls _).mono ?_); rintro e w1 ⟨rfl, hb⟩; have HB := Aside0.mk hb; clear hb) | (go_at_call 10; (with_reducible refine (new_at (1 + b % 64) (by omega) _).mono ?_); rintro e w3 ⟨p, rfl, hA, hb⟩; have HA := Aside0.mk hA; have HB3 := Aside0.mk (HB.out.trans (hb.mono HB.out.size)); have HS := Aside0.mk HB.out.size; clear hA hb HB))
  go_loopg [7, 8, 9, 10] (2 + b % 64).toNat (fun kq v7 v8 v9 v10 w' => ∃ k : Nat, v7 = .int .i64 ((k + 1 : Nat) : Int) ∧ Aside0 ((k : Int) + kq = 1 + b % 64 + 1 ∧ 1 ≤ kq) ∧ Aside0 (At w1.heap.size w' p (tk (1 + b % 64) k)) ∧ Aside0 (Below w.heap.size w w'))
  case atStart => exact ⟨0, rfl, ⟨by omega, by omega⟩, HA, HB3⟩
  case round =>
    obtain ⟨k, rfl, HK, HA, HB⟩ := hrel
    cases gk with
    | zero => exact absurd HK.out.2 (by omega)
    | succ k1 =>
      by_cases hin : (k : Int) < 1 + b % 64
      · have c1 : decide (((k + 1 : Nat) : Int) ≤ 1 + b % 64) = true := decide_eq_true (by omega)
        have ht := tk_at (1 + b % 64) (by omega) (k + 1) (by omega)
        have hl1 := Aside0.mk ((ht.live ((k : Int) + 1)).trans (decide_eq_true (by omega)))
        have hl2 := Aside0.mk ((ht.live ((k : Int) + 1 + 1)).trans (decide_eq_false (by omega)))
        have hnext : wrap64 ((k : Int) + 1 + 1) = (k : Int) + 1 + 1 := by unfold wrap64; omega
        clear ht
        go_wp2_with (first | (go_at_call 11; (with_reducible refine (tk_take (by omega) hin HA.out).mono ?_); rintro e w4 ⟨rfl, hA, hb⟩; have HA4 := Aside0.mk hA; have HB4 := Aside0.mk (HB.out.trans (hb.mono HS.out)); clear hA hb HA HB) | (go_at_call 14; (with_reducible refine (live_at HA4.out _ hl1.out).mono ?_); rintro e w5 ⟨rfl, rfl⟩) | (go_at_call 14; (with_reducible refine (live_at HA4.out _ hl2.out).mono ?_); rintro e w6 ⟨rfl, rfl⟩))
        go_roundg k1
        case measure => have := HK.out; omega
        case rel => exact ⟨k + 1, by first | rfl | (congr 1; omega) | (simp; done) | (simp [*]; done), ⟨by have := HK.out; omega, by have := HK.out; omega⟩, HA4, HB4⟩
      · have c1 : decide (((k + 1 : Nat) : Int) ≤ 1 + b % 64) = false := decide_eq_false (by omega)
        have hk : (k : Int) = 1 + b % 64 := by have := HK.out; omega
        have ht := tk_at (1 + b % 64) (by omega) k (by omega)
        have hcnt := Aside0.mk (show ((tk (1 + b % 64) k).live.length : Int) = 1 + b % 64 by rw [ht.len]; exact hk)
        clear ht
        go_wp2_with (first | (go_at_call 11; (with_reducible refine (tk_full (by omega) hk HA.out).mono ?_); rintro e w4 ⟨rfl, hA, hb⟩; have HA4 := Aside0.mk hA; have HB4 := Aside0.mk (HB.out.trans (hb.mono HS.out)); clear hA hb HA HB) | (go_at_call 15; (with_reducible refine (count_at HA4.out hcnt.out).mono ?_); rintro e w5 ⟨rfl, rfl⟩))
        go_ret
        exact ⟨rfl, HB4.out⟩
end Go.Proofs.Ytpoecjieagkoaaa.Arena
