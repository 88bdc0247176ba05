/- ArenaNobody: an arena that is nil has nobody, and numbers that are none never live. No condition. -/
import Derived.Test.YtpoecjieagkoaaaAv
namespace Go.Proofs.Ytpoecjieagkoaaa.Arena
open Go Go.ChangeMaps Go.RowKit Go.Proofs.YtpoecjieagkoaaaW.PrintWords Go.Proofs.YtpoecjieagkoaaaW.PrintLast Go.Proofs.YtpoecjieagkoaaaW.PrintMore
set_option linter.unusedVariables false
set_option linter.unusedSimpArgs false
theorem gen_new (n x : Int) : genOf (newS n) x = 0 := by
  unfold genOf
  split
  · rfl
  · split
    · rfl
    · show ((List.replicate (n + 1).toNat (0 : Int)).getD x.toNat 0) = 0
      rw [List.getD_eq_getElem?_getD, List.getElem?_replicate]
      split <;> rfl
set_option maxHeartbeats 400000 in
theorem nobody_calls (w : World) (x : Int) (wf : (Lit.int .i64 x).wf = true) : Calls Try.prog 7 #[.int .i64 x] w fun e w' => e = .returned (.bool true) ∧ Below w.heap.size w w' := by
  have hlive : has (newS 5).live x = false := rfl
  have hfree : freeS (newS 5) x = newS 5 := by simp [freeS, hlive]
  have hgen := gen_new 5 x
  have hfl : (newS 5).freed.length ≤ 1000000 := by simp [newS]
  have K1 := Aside0.mk hlive
  have K2 := Aside0.mk hfree
  have K3 := Aside0.mk hgen
  have K4 := Aside0.mk hfl
  clear hlive hfree hgen hfl
  go_enter Try.func7, Try.ntmps7
  go_wp2_with (first | (go_at_call 9; (with_reducible refine (shown_calls _).mono ?_); rintro e w1 ⟨rfl, hb⟩; have HB := Aside0.mk hb; clear hb) | (go_at_call 11; (with_reducible refine (Take_none _).mono ?_); rintro e w2 ⟨rfl, rfl⟩) | (go_at_call 10; (with_reducible refine (new_at 5 (by decide) _).mono ?_); rintro e w3 ⟨p, rfl, hA, hb⟩; have HA := Aside0.mk hA; have HB3 := Aside0.mk (HB.out.trans (hb.mono HB.out.size)); clear hA hb) | (go_at_call 12; (with_reducible refine (Free_none _ _).mono ?_); rintro e w4 ⟨rfl, rfl⟩) | (go_at_call 14; (with_reducible refine (Live_none _ _).mono ?_); rintro e w4 ⟨rfl, rfl⟩) | (go_at_call 19; (with_reducible refine (Gen_none _ _).mono ?_); rintro e w4 ⟨rfl, rfl⟩) | (go_at_call 15; (with_reducible refine (Count_none _).mono ?_); rintro e w4 ⟨rfl, rfl⟩) | (go_at_call 14; (with_reducible refine (live_at HA.out x K1.out).mono ?_); rintro e w4 ⟨rfl, rfl⟩) | (go_at_call 12; (with_reducible refine (free_at HA.out x K1.out K2.out K4.out).mono ?_); rintro e w5 ⟨rfl, hA, hb⟩; have HA5 := Aside0.mk hA; have HB5 := Aside0.mk (HB3.out.trans (hb.mono HB.out.size)); clear hA hb HA) | (go_at_call 19; (with_reducible refine (gen_at HA5.out x K3.out).mono ?_); rintro e w6 ⟨rfl, rfl⟩))
  go_ret
  exact ⟨rfl, HB5.out⟩
end Go.Proofs.Ytpoecjieagkoaaa.Arena
