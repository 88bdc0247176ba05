/- ArenaLast: who is freed last is taken first. No condition. -/
import Derived.Test.YtpoecjieagkoaaaAz
namespace Go.Proofs.Ytpoecjieagkoaaa.Arena
open Go Go.ChangeMaps Go.RowKit Go.Proofs.YtpoecjieagkoaaaW.PrintWords Go.Proofs.YtpoecjieagkoaaaW.PrintLast Go.Proofs.YtpoecjieagkoaaaW.PrintMore
set_option linter.unusedVariables false
set_option linter.unusedSimpArgs false
set_option maxHeartbeats 4000000 in
theorem last_calls (w : World) (A : Option Addr) (c : Nat) (l : List Int) (hr : Kd.C (Kd.int .u8) w A l.length l) (hc : l.length ≤ c) (wf : (∀ x ∈ l, (Lit.int .u8 x).wf = true) ∧ l.length * 1 ≤ 140737488351232 ∧ l.length ≤ maxLen) :
    Calls Try.prog 3 #[.slice A l.length c] w fun e w' => e = .returned (.bool true) ∧ Below w.heap.size w w' := by
  have HR := Aside0.mk hr
  have HW := Aside0.mk wf
  clear hr wf
  go_enter Try.func3, Try.ntmps3
  go_wp2_with (first | (go_at_call 9; (with_reducible refine (shown_calls _).mono ?_); rintro e w1 ⟨rfl, hb⟩; have HS := Aside0.mk ((Sep.St.start w).below hb); clear hb) | (go_at_call 10; (with_reducible refine (new_st HS.out 64 (by decide)).mono ?_); rintro e w3 ⟨p, rfl, hS⟩; have HS3 := Aside0.mk hS; clear hS HS))
  go_loopg [6] 65 (fun kq v6 w' => ∃ k : Nat, v6 = .int .i64 (k : Int) ∧ Aside0 (k + kq = 65 ∧ 1 ≤ kq) ∧ Aside0 (Sep.St w [arenaT p (tk 64 k)] w'))
  case atStart => exact ⟨0, rfl, ⟨rfl, by omega⟩, HS3⟩
  case round =>
    clear HS3
    obtain ⟨k, rfl, HK, HS⟩ := hrel
    cases gk with
    | zero => exact absurd HK.out.2 (by omega)
    | succ k1 =>
      by_cases hin : (k : Int) < 64
      · have c1 : decide ((k : Int) < 64) = true := decide_eq_true hin
        have hnext : wrap64 ((k : Int) + 1) = (k : Int) + 1 := by unfold wrap64; omega
        go_wp2_with (go_at_call 11; (with_reducible refine (tk_take_st HS.out (by omega) hin).mono ?_); rintro e w4 ⟨rfl, hS⟩; have HS4 := Aside0.mk hS; clear hS HS)
        go_roundg k1
        case measure => have := HK.out; omega
        case rel => exact ⟨k + 1, by first | rfl | (congr 1; omega) | (simp; done), ⟨by have := HK.out; omega, by have := HK.out; omega⟩, HS4⟩
      · have c1 : decide ((k : Int) < 64) = false := decide_eq_false hin
        have hk : k = 64 := by have := HK.out; omega
        subst hk
        clear HK
        have HFu := Aside0.mk (full_tk (n := 64) (by decide) (k := 64) rfl)
        have HS0 := Aside0.mk (HS.out.nil (Kd.int .i64) 3).swap
        clear HS
        go_wp2
        go_loopg [7, 8, 9] 65 (fun kq v7 v8 v9 w' => ∃ (i : Nat) (s : St), v8 = .int .i64 (i : Int) ∧ Aside0 (i + kq = 65 ∧ 1 ≤ kq ∧ i ≤ l.length) ∧ Aside0 (Full 64 s (freedOf l i) 1) ∧ Aside0 (Sep.St w [arenaT p s, Sep.rowT (Kd.int .i64) 3 v7 (freedOf l i)] w'))
        case atStart => exact ⟨0, tk 64 64, rfl, ⟨rfl, by omega, Nat.zero_le _⟩, HFu, HS0⟩
        case round =>
          clear HFu HS0
          obtain ⟨i, s, rfl, HK, HFu, HS⟩ := hrel
          cases gk with
          | zero => exact absurd HK.out.2.1 (by omega)
          | succ k1 =>
            obtain ⟨A7, c7, hv7⟩ := HS.out.swap.slice
            subst hv7
            have hrest : ∀ (w3 : World) (P : Sep.St w [arenaT p s, Sep.rowT (Kd.int .i64) 3 (.slice A7 (freedOf l i).length c7) (freedOf l i)] w3), True := fun _ _ => trivial
            by_cases hin : i < l.length ∧ i < 64
            · have c1 : decide ((i : Int) < (l.length : Int)) = true := decide_eq_true (by omega)
              have c2 : decide ((i : Int) < 64) = true := decide_eq_true (by omega)
              have hwr := Kd.C_below HR.out HS.out.bel
              obtain ⟨ad, e1, hcell⟩ := Kd.at_int hwr (i : Int) (by omega) (by omega)
              subst e1
              have hb0 : 0 ≤ rd l (i : Int) ∧ rd l (i : Int) ≤ 255 := by
                have hmem : rd l (i : Int) ∈ l := by
                  show l.getD i 0 ∈ l
                  rw [List.getD_eq_getElem?_getD, List.getElem?_eq_getElem hin.1]
                  exact List.getElem_mem _
                have hmin : IntKind.u8.min = 0 := rfl
                have hmax : IntKind.u8.max = 255 := rfl
                simpa [Lit.wf, hmin, hmax] using HW.out.1 _ hmem
              have hfo : freedOf l (i + 1) = fstep 64 (freedOf l i) (rd l (i : Int)) := rfl
              simp only [Int.toNat_natCast] at hcell
              generalize rd l (i : Int) = b at hcell hb0 hfo
              have hm : Int.tmod b 64 = b % 64 := Int.tmod_eq_emod_of_nonneg hb0.1
              have hm2 : 0 ≤ b % 64 ∧ b % 64 < 64 := by omega
              have hnext : wrap64 ((i : Int) + 1) = (i : Int) + 1 := by unfold wrap64; omega
              have hfl := freedOf_len l i
              have HIN := Aside0.mk hin
              have p1 : (0 : Int) ≤ (i : Int) := by omega
              have p2 : (i : Int) < (l.length : Int) := by omega
              have HLen := Aside0.mk (show s.freed.length ≤ 1000000 by rw [HFu.out.freed]; omega)
              have HLn := Aside0.mk (show (freedOf l i).length ≤ 100000 by omega)
              by_cases hmem : 1 + b % 64 ∈ freedOf l i
              · obtain ⟨hl1, hl2⟩ := HFu.out.free_not hmem
                have HL1 := Aside0.mk hl1
                have HL2 := Aside0.mk hl2
                have HD := Aside0.mk (decide_eq_true hmem)
                have HN := Aside0.mk (show freedOf l (i + 1) = freedOf l i by rw [hfo, fstep, if_pos hmem])
                clear hl1 hl2 hmem hfo hwr hin
                go_wp2_with (first | (go_at_call 12; (with_reducible refine (free_st HS.out _ HL1.out HL2.out HLen.out).mono ?_); rintro e w4 ⟨rfl, hS⟩; have HS4 := Aside0.mk hS; clear hS HS) | (go_at_call 13; (with_reducible refine (in_st HS4.out _ HLn.out).mono ?_); rintro e w5 ⟨rfl, hd⟩; have HS5 := Aside0.mk (HS4.out.drawn hd); clear hd HS4; rw [HD.out]) | (go_at_call 13; (with_reducible refine (in_st HS5.out _ HLn.out).mono ?_); rintro e w6 ⟨rfl, hd⟩; have HS6 := Aside0.mk (HS5.out.drawn hd); clear hd HS5; rw [HD.out]))
                go_roundg k1
                case measure => have := HK.out; omega
                case rel => exact ⟨i + 1, s, by first | rfl | (rw [hnext]; rfl), ⟨by have := HK.out; have := HIN.out; omega, by have := HK.out; have := HIN.out; omega⟩, ⟨by rw [HN.out]; exact HFu.out⟩, ⟨by rw [HN.out]; exact HS6.out⟩⟩
              · obtain ⟨hl1, hF1⟩ := HFu.out.free (x := 1 + b % 64) (by omega) hmem
                have HL1 := Aside0.mk hl1
                have HF1 := Aside0.mk hF1
                have HD := Aside0.mk (decide_eq_false hmem)
                have HN := Aside0.mk (show freedOf l (i + 1) = freedOf l i ++ [1 + b % 64] by rw [hfo, fstep, if_neg hmem])
                clear hl1 hF1 hmem hfo hwr hin
                go_wp2_with (first | (go_at_call 12; (with_reducible refine (free_st HS.out _ HL1.out rfl HLen.out).mono ?_); rintro e w4 ⟨rfl, hS⟩; have HS4 := Aside0.mk hS; clear hS HS) | (go_at_call 13; (with_reducible refine (in_st HS4.out _ HLn.out).mono ?_); rintro e w5 ⟨rfl, hd⟩; have HS5 := Aside0.mk (HS4.out.drawn hd); clear hd HS4; rw [HD.out]) | (go_at_call 13; (with_reducible refine (in_st HS5.out _ HLn.out).mono ?_); rintro e w6 ⟨rfl, hd⟩; have HS6 := Aside0.mk (HS5.out.drawn hd).swap; clear hd HS5; rw [HD.out]) | ((with_reducible refine gate_builtin (b := .append) (xs := #[.tmp 63, .tmp 65]) rfl ?_); at_builtin; refine Sep.St.append (Kd.int .i64) rfl (.tmp 63) (.tmp 65) 30 3 (.int .i64 0) 8 rfl Try.underlying30 info3 rfl (by decide) (by decide) _ _ (1 + b % 64) [.int .i64 (1 + b % 64)] rfl rfl rfl HS6.out ?aL ?_; (case aL => have := HLn.out; omega); intro v1 w8 hS; have HS8 := Aside0.mk hS.swap; clear hS HS6))
                obtain ⟨A9, c9, hv9⟩ := HS8.out.swap.slice
                go_roundg k1
                case measure => have := HK.out; omega
                case rel => exact ⟨i + 1, _, by first | rfl | (rw [hnext]; rfl), ⟨by have := HK.out; have := HIN.out; omega, by have := HK.out; have := HIN.out; omega⟩, ⟨by rw [HN.out]; exact HF1.out⟩, ⟨by rw [HN.out]; exact HS8.out⟩⟩
            · have hfl := freedOf_len l i
              have HLen := Aside0.mk (show i ≤ 64 ∧ l.length ≤ maxLen by have := HK.out; exact ⟨by omega, HW.out.2.2⟩)
              have HFr := Aside0.mk HFu.out
              have hfl2 : (freedOf l i).length ≤ 64 := by have := HLen.out; omega
              clear HFu HK
              generalize freedOf l i = fr at HS HFr hfl hfl2 hrest
              have e0 : wrap64 ((fr.length : Int) - 1) = (fr.length : Int) - 1 := by unfold wrap64; omega
              have c2 : i < l.length → decide ((i : Int) < 64) = false := fun h => decide_eq_false (by omega)
              rcases Nat.lt_or_ge i l.length with hlt | hge
              · have c1 : decide ((i : Int) < (l.length : Int)) = true := decide_eq_true (by omega)
                have c3 := c2 hlt
                clear c2 hin
                go_wp2
                go_loopg [10, 11, 12, 13] (fr.length + 1) (fun kq v10 v11 v12 v13 w' => ∃ (j : Nat) (s : St), v10 = .int .i64 ((j : Int) - 1) ∧ Aside0 (j + 1 = kq ∧ j ≤ fr.length) ∧ Aside0 (Full 64 s (fr.take j) (1 + ((fr.length - j : Nat) : Int))) ∧ Aside0 (Sep.St w [arenaT p s, Sep.rowT (Kd.int .i64) 3 (.slice A7 fr.length c7) fr] w'))
                case atStart => exact ⟨fr.length, s, by first | rfl | (simp; done), ⟨rfl, Nat.le_refl _⟩, ⟨by rw [List.take_length, Nat.sub_self]; exact HFr.out⟩, HS⟩
                case round =>
                  clear HS HFr hrest
                  obtain ⟨j, s, rfl, HK, HFu, HS⟩ := hrel
                  cases gk with
                  | zero => exact absurd HK.out.1 (by omega)
                  | succ k1 =>
                    cases j with
                    | zero =>
                      have d1 : decide ((0 : Int) ≤ ((0 : Nat) : Int) - 1) = false := by decide
                      have HFu0 := Aside0.mk (show Full 64 s [] (1 + ((fr.length - 0 : Nat) : Int)) from HFu.out)
                      go_wp2_with (go_at_call 11; (with_reducible refine (full_none_st HS.out (n := 64) (by decide) HFu0.out (by omega)).mono ?_); rintro e w4 ⟨rfl, hS⟩; have HS4 := Aside0.mk hS; clear hS HS)
                      go_ret
                      exact ⟨rfl, HS4.out.bel⟩
                    | succ j =>
                      have hj : j < fr.length := by have := HK.out; omega
                      have hx := List.take_succ_eq_append_getElem hj
                      have HFu1 := Aside0.mk (show Full 64 s (fr.take j ++ [fr[j]]) (1 + ((fr.length - (j + 1) : Nat) : Int)) by rw [← hx]; exact HFu.out)
                      have hT := Aside0.mk (HFu1.out.take (by decide)).2.2.2
                      have hlj : (fr.take j).length ≤ 1000 := by rw [List.length_take]; omega
                      have d1 : decide ((0 : Int) ≤ ((j + 1 : Nat) : Int) - 1) = true := decide_eq_true (by omega)
                      have e1 : ((j + 1 : Nat) : Int) - 1 = (j : Int) := by omega
                      have e2 : wrap64 ((j : Int) - 1) = (j : Int) - 1 := by unfold wrap64; omega
                      have p1 : (0 : Int) ≤ (j : Int) := by omega
                      have p2 : (j : Int) < (fr.length : Int) := by omega
                      have HC := Aside0.mk (show (1 : Int) + ((fr.length - (j + 1) : Nat) : Int) ≤ 1000000 by omega)
                      rw [e1] at d1 ⊢
                      have hrd : rd fr (j : Int) = fr[j] := by show fr.getD j 0 = _; rw [List.getD_eq_getElem?_getD, List.getElem?_eq_getElem hj]; rfl
                      clear hx HFu e1
                      go_wp2_with (go_at_call 11; (with_reducible refine (full_take_st HS.out (n := 64) (by decide) HFu1.out HC.out hlj).mono ?_); rintro e w4 ⟨rfl, hS⟩; have HS4 := Aside0.mk hS; obtain ⟨-, hle, hread⟩ := hS.swap.reads; obtain ⟨ad, ea, hcell⟩ := Kd.at_int hread (j : Int) (by omega) (by omega); subst ea; rw [hrd] at hcell; simp only [Int.toNat_natCast] at hcell; clear hS HS hread)
                      go_roundg k1
                      case measure => have := HK.out; omega
                      case rel => exact ⟨j, _, by first | rfl | (rw [e2]; rfl), ⟨by have := HK.out; omega, by have := HK.out; omega⟩, ⟨by have h := hT.out; rw [show (1 : Int) + ((fr.length - (j + 1) : Nat) : Int) + 1 = 1 + ((fr.length - j : Nat) : Int) by omega] at h; exact h⟩, HS4⟩
              · have c1 : decide ((i : Int) < (l.length : Int)) = false := decide_eq_false (by omega)
                clear c2 hin
                go_wp2
                go_loopg [10, 11, 12, 13] (fr.length + 1) (fun kq v10 v11 v12 v13 w' => ∃ (j : Nat) (s : St), v10 = .int .i64 ((j : Int) - 1) ∧ Aside0 (j + 1 = kq ∧ j ≤ fr.length) ∧ Aside0 (Full 64 s (fr.take j) (1 + ((fr.length - j : Nat) : Int))) ∧ Aside0 (Sep.St w [arenaT p s, Sep.rowT (Kd.int .i64) 3 (.slice A7 fr.length c7) fr] w'))
                case atStart => exact ⟨fr.length, s, by first | rfl | (simp; done), ⟨rfl, Nat.le_refl _⟩, ⟨by rw [List.take_length, Nat.sub_self]; exact HFr.out⟩, HS⟩
                case round =>
                  clear HS HFr hrest
                  obtain ⟨j, s, rfl, HK, HFu, HS⟩ := hrel
                  cases gk with
                  | zero => exact absurd HK.out.1 (by omega)
                  | succ k1 =>
                    cases j with
                    | zero =>
                      have d1 : decide ((0 : Int) ≤ ((0 : Nat) : Int) - 1) = false := by decide
                      have HFu0 := Aside0.mk (show Full 64 s [] (1 + ((fr.length - 0 : Nat) : Int)) from HFu.out)
                      go_wp2_with (go_at_call 11; (with_reducible refine (full_none_st HS.out (n := 64) (by decide) HFu0.out (by omega)).mono ?_); rintro e w4 ⟨rfl, hS⟩; have HS4 := Aside0.mk hS; clear hS HS)
                      go_ret
                      exact ⟨rfl, HS4.out.bel⟩
                    | succ j =>
                      have hj : j < fr.length := by have := HK.out; omega
                      have hx := List.take_succ_eq_append_getElem hj
                      have HFu1 := Aside0.mk (show Full 64 s (fr.take j ++ [fr[j]]) (1 + ((fr.length - (j + 1) : Nat) : Int)) by rw [← hx]; exact HFu.out)
                      have hT := Aside0.mk (HFu1.out.take (by decide)).2.2.2
                      have hlj : (fr.take j).length ≤ 1000 := by rw [List.length_take]; omega
                      have d1 : decide ((0 : Int) ≤ ((j + 1 : Nat) : Int) - 1) = true := decide_eq_true (by omega)
                      have e1 : ((j + 1 : Nat) : Int) - 1 = (j : Int) := by omega
                      have e2 : wrap64 ((j : Int) - 1) = (j : Int) - 1 := by unfold wrap64; omega
                      have p1 : (0 : Int) ≤ (j : Int) := by omega
                      have p2 : (j : Int) < (fr.length : Int) := by omega
                      have HC := Aside0.mk (show (1 : Int) + ((fr.length - (j + 1) : Nat) : Int) ≤ 1000000 by omega)
                      rw [e1] at d1 ⊢
                      have hrd : rd fr (j : Int) = fr[j] := by show fr.getD j 0 = _; rw [List.getD_eq_getElem?_getD, List.getElem?_eq_getElem hj]; rfl
                      clear hx HFu e1
                      go_wp2_with (go_at_call 11; (with_reducible refine (full_take_st HS.out (n := 64) (by decide) HFu1.out HC.out hlj).mono ?_); rintro e w4 ⟨rfl, hS⟩; have HS4 := Aside0.mk hS; obtain ⟨-, hle, hread⟩ := hS.swap.reads; obtain ⟨ad, ea, hcell⟩ := Kd.at_int hread (j : Int) (by omega) (by omega); subst ea; rw [hrd] at hcell; simp only [Int.toNat_natCast] at hcell; clear hS HS hread)
                      go_roundg k1
                      case measure => have := HK.out; omega
                      case rel => exact ⟨j, _, by first | rfl | (rw [e2]; rfl), ⟨by have := HK.out; omega, by have := HK.out; omega⟩, ⟨by have h := hT.out; rw [show (1 : Int) + ((fr.length - (j + 1) : Nat) : Int) + 1 = 1 + ((fr.length - j : Nat) : Int) by omega] at h; exact h⟩, HS4⟩
end Go.Proofs.Ytpoecjieagkoaaa.Arena
