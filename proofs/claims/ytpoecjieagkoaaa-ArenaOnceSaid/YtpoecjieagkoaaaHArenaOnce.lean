/- ArenaOnce: a number lives at most once at a time; its generations rise. No condition. -/
import Derived.Test.YtpoecjieagkoaaaAz
namespace Go.Proofs.Ytpoecjieagkoaaa.Arena
open Go Go.ChangeMaps Go.RowKit Go.Proofs.YtpoecjieagkoaaaW.PrintWords Go.Proofs.YtpoecjieagkoaaaW.PrintLast Go.Proofs.YtpoecjieagkoaaaW.PrintMore
set_option linter.unusedVariables false
set_option linter.unusedSimpArgs false
def upTo (k : Nat) : List Int := (List.range k).map fun i : Nat => (i : Int) + 1
theorem upTo_len (k : Nat) : (upTo k).length = k := by simp [upTo]
theorem upTo_succ (k : Nat) : upTo (k + 1) = upTo k ++ [(k : Int) + 1] := by simp [upTo, List.range_succ]
theorem upTo_not (k : Nat) : (k : Int) + 1 ∉ upTo k := by
  intro h
  simp only [upTo, List.mem_map, List.mem_range] at h
  obtain ⟨a, h1, h2⟩ := h
  omega
/-- One freed out of a full arena, and taken again. -/
theorem Full.again {n : Int} {s : St} {c x : Int} (hn : 1 ≤ n) (h : Full n s [] c) (hx : 1 ≤ x ∧ x ≤ n) : has s.live x = true ∧ Full n (freeS s x) ([] ++ [x]) c ∧ Full n (takeS (freeS s x)) [] (c + 1) ∧ rd (freeS s x).gens x = rd s.gens x ∧ rd (takeS (freeS s x)).gens x = rd s.gens x + 1 := by
  obtain ⟨h1, h2⟩ := h.free hx (by simp)
  obtain ⟨h3, h4, h5, h6⟩ := h2.take hn
  have hg : (freeS s x).gens = s.gens := by unfold freeS; split <;> rfl
  have hp := pickS_live (freeS s x)
  refine ⟨h1, h2, h6, by rw [hg], ?_⟩
  have hT : (takeS (freeS s x)).gens = s.gens.set x.toNat (rd s.gens x + 1) := by
    unfold takeS
    rw [h3, if_neg (by omega), hg]
  rw [hT]
  show (s.gens.set x.toNat (rd s.gens x + 1)).getD x.toNat 0 = _
  rw [List.getD_eq_getElem?_getD, List.getElem?_set_self (by rw [h.gl]; omega)]
  rfl
theorem Full.genOf {n : Int} {s : St} {fr : List Int} {c x : Int} (h : Full n s fr c) (hx : 1 ≤ x ∧ x ≤ n) : genOf s x = rd s.gens x := by
  unfold Arena.genOf
  rw [if_neg (by omega), if_neg (by rw [h.gl]; omega)]
set_option maxRecDepth 100000 in
set_option maxHeartbeats 2000000 in
theorem once_calls (w : World) (b : Int) (wfb : (Lit.int .u8 b).wf = true) (A : Option Addr) (c : Nat) (l : List Int) (hr : Kd.C (Kd.int .u8) w A l.length l) (hc : l.length ≤ c) (wf : (∀ x ∈ l, (Lit.int .u8 x).wf = true) ∧ l.length * 1 ≤ 140737488351232 ∧ l.length ≤ maxLen) :
    Calls Try.prog 6 #[.int .u8 b, .slice A l.length c] w fun e w' => e = .returned (.bool true) ∧ Below w.heap.size w w' := by
  have HR := Aside0.mk hr
  have HW := Aside0.mk wf
  have hb0 : 0 ≤ b ∧ b ≤ 255 := by
    have hmin : IntKind.u8.min = 0 := rfl
    have hmax : IntKind.u8.max = 255 := rfl
    simpa [Lit.wf, hmin, hmax] using wfb
  have hm : Int.tmod b 64 = b % 64 := Int.tmod_eq_emod_of_nonneg hb0.1
  have hm2 : 0 ≤ b % 64 ∧ b % 64 < 64 := by omega
  have hn2 : 1 ≤ 1 + b % 64 ∧ 1 + b % 64 ≤ 64 := by omega
  clear hr wf wfb
  go_enter Try.func6, Try.ntmps6
  go_wp2_with (first | (go_at_call 9; (with_reducible refine (shown_calls _).mono ?_); rintro e w1 ⟨rfl, hb⟩; have HS := Aside0.mk ((Sep.St.start w).below hb); clear hb) | (go_at_call 10; (with_reducible refine (new_st HS.out (1 + b % 64) (by omega)).mono ?_); rintro e w3 ⟨p, rfl, hS⟩; have HS3 := Aside0.mk (hS.nil (Kd.int .i64) 3).swap; clear hS HS))
  generalize 1 + b % 64 = n at HS3 hn2 ⊢
  clear hm hm2 hb0
  go_loopg [9, 10, 11, 12, 13] 66 (fun kq v9 v10 v11 v12 v13 w' => ∃ k : Nat, v10 = .int .i64 (k : Int) ∧ Aside0 (k + kq = 66 ∧ (k : Int) ≤ n) ∧ Aside0 (Sep.St w [arenaT p (tk (n) k), Sep.rowT (Kd.int .i64) 3 v9 (upTo k)] w'))
  case atStart => exact ⟨0, rfl, ⟨rfl, by omega⟩, HS3⟩
  case round =>
    clear HS3
    obtain ⟨k, rfl, HK, HS⟩ := hrel
    cases gk with
    | zero => exact absurd HK.out (by omega)
    | succ k1 =>
      obtain ⟨A9, c9, hv9⟩ := HS.out.swap.slice
      subst hv9
      have hul := Aside0.mk (upTo_len k)
      by_cases hin : (k : Int) < n
      · have c1 : decide ((k : Int) < n) = true := decide_eq_true hin
        have c2 : decide ((k : Int) + 1 < 1) = false := decide_eq_false (by omega)
        have c3 : decide (n < (k : Int) + 1) = false := decide_eq_false (by omega)
        have HD := Aside0.mk (decide_eq_false (upTo_not k))
        have HL := Aside0.mk (show (upTo k).length ≤ 100000 by rw [upTo_len]; omega)
        have HIN := Aside0.mk hin
        go_wp2_with (first | (go_at_call 11; (with_reducible refine (tk_take_st HS.out (by omega) hin).mono ?_); rintro e w4 ⟨rfl, hS⟩; have HS4 := Aside0.mk hS; clear hS HS) | (go_at_call 13; (with_reducible refine (in_st HS4.out _ HL.out).mono ?_); rintro e w6 ⟨rfl, hd⟩; have HS6 := Aside0.mk (HS4.out.drawn hd).swap; clear hd HS4; rw [HD.out]) | ((with_reducible refine gate_builtin (b := .append) (xs := #[.tmp 71, .tmp 73]) rfl ?_); at_builtin; refine Sep.St.append (Kd.int .i64) rfl (.tmp 71) (.tmp 73) 30 3 (.int .i64 0) 8 rfl Try.underlying30 info3 rfl (by decide) (by decide) _ _ ((k : Int) + 1) [.int .i64 ((k : Int) + 1)] rfl rfl rfl HS6.out ?aL ?_; (case aL => have := HL.out; omega); intro v1 w8 hS; have HS8 := Aside0.mk hS.swap; clear hS HS6))
        obtain ⟨A8, c8, hv8⟩ := HS8.out.swap.slice
        have HN := Aside0.mk (upTo_succ k)
        go_roundg k1
        case measure => have := HK.out; omega
        case rel => exact ⟨k + 1, by first | rfl | go_num, ⟨by have := HK.out; omega, by have := HIN.out; omega⟩, ⟨by rw [HN.out]; exact HS8.out⟩⟩
      · have c1 : decide ((k : Int) < n) = false := decide_eq_false hin
        have hk : (k : Int) = n := by have := HK.out; omega
        have HFu := Aside0.mk (full_tk (n := n) (by omega) hk)
        clear HK hul
        go_wp2_with (go_at_call 11; (with_reducible refine (full_none_st HS.out (n := n) (by omega) HFu.out (by decide)).mono ?_); rintro e w4 ⟨rfl, hS⟩; have HS4 := Aside0.mk hS; clear hS HS)
        go_loopg [17, 18, 19, 20, 21, 22, 23] 101 (fun kq v17 v18 v19 v20 v21 v22 v23 w' => ∃ (i : Nat) (s : St), v17 = .int .i64 (i : Int) ∧ Aside0 (i + kq = 101 ∧ 1 ≤ kq ∧ i ≤ l.length) ∧ Aside0 (Full (n) s [] (1 + (i : Int))) ∧ Aside0 (Sep.St w [arenaT p s, Sep.rowT (Kd.int .i64) 3 (.slice A9 (upTo k).length c9) (upTo k)] w'))
        case atStart => exact ⟨0, _, rfl, ⟨rfl, by omega, Nat.zero_le _⟩, HFu, HS4⟩
        case round =>
          clear HFu HS4
          obtain ⟨i, s, rfl, HK, HFu, HS⟩ := hrel
          cases gk with
          | zero => exact absurd HK.out.2.1 (by omega)
          | succ k1 =>
            by_cases hin2 : i < l.length ∧ i < 100
            · have c1 : decide ((i : Int) < (l.length : Int)) = true := decide_eq_true (by omega)
              have c2 : decide ((i : Int) < 100) = true := decide_eq_true (by omega)
              have hwr := Kd.C_below HR.out HS.out.bel
              obtain ⟨ad, e1, hcell⟩ := Kd.at_int hwr (i : Int) (by omega) (by omega)
              subst e1
              have hb1 : 0 ≤ rd l (i : Int) ∧ rd l (i : Int) ≤ 255 := by
                have hmem : rd l (i : Int) ∈ l := by
                  show l.getD i 0 ∈ l
                  rw [List.getD_eq_getElem?_getD, List.getElem?_eq_getElem hin2.1]
                  exact List.getElem_mem _
                have hmin : IntKind.u8.min = 0 := rfl
                have hmax : IntKind.u8.max = 255 := rfl
                simpa [Lit.wf, hmin, hmax] using HW.out.1 _ hmem
              simp only [Int.toNat_natCast] at hcell
              generalize rd l (i : Int) = f at hcell hb1
              have hq : Int.tmod f n = f % n := Int.tmod_eq_emod_of_nonneg hb1.1
              have hq2 : 0 ≤ f % n ∧ f % n < n := ⟨Int.emod_nonneg _ (by omega), Int.emod_lt_of_pos _ (by omega)⟩
              obtain ⟨y, hy⟩ : ∃ y, f % n = y := ⟨_, rfl⟩
              rw [hy] at hq hq2
              have hx1 : 1 ≤ 1 + y ∧ 1 + y ≤ n := by omega
              have hg := Aside0.mk (HFu.out.again (x := 1 + y) hn2.1 hx1)
              have hge := Aside0.mk (HFu.out.genOf hx1)
              have hge2 := Aside0.mk (hg.out.2.2.1.genOf hx1)
              have hgb := HFu.out.gen (1 + y)
              have p0 : (i : Int) ≤ 100 := by omega
              have p1 : (0 : Int) ≤ (i : Int) := by omega
              have p2 : (i : Int) < (l.length : Int) := by omega
              have HIN := Aside0.mk hin2
              have HLen := Aside0.mk (show s.freed.length ≤ 1000000 by rw [HFu.out.freed]; decide)
              have HCnt := Aside0.mk (show ((takeS (freeS s (1 + y))).live.length : Int) = n by have := hg.out.2.2.1.many; simpa using this)
              clear hwr hin2
              have HC := Aside0.mk (show (1 : Int) + (i : Int) ≤ 1000000 by omega)
              have hg3 := hg.out.2.2.2.1
              have hg4 := hg.out.2.2.2.2
              have HG3 := Aside0.mk hg3
              have HG4 := Aside0.mk hg4
              clear hg3 hg4
              generalize hgv : rd s.gens (1 + y) = gv at HG3 HG4 hge hge2 hgb
              have HGV := Aside0.mk hgv
              clear hgv
              go_wp2_with (first | (go_at_call 19; (with_reducible refine (gen_st HS.out (1 + y) hge.out).mono ?_); rintro e w5 ⟨rfl, rfl⟩) | (go_at_call 12; (with_reducible refine (free_st HS.out (1 + y) hg.out.1 rfl HLen.out).mono ?_); rintro e w5 ⟨rfl, hS⟩; have HS5 := Aside0.mk hS; clear hS HS) | (go_at_call 11; (with_reducible refine (full_take_st HS5.out hn2 hg.out.2.1 HC.out (by decide)).mono ?_); rintro e w6 ⟨rfl, hS⟩; have HS6 := Aside0.mk hS; rw [HG3.out]; clear hS HS5) | (go_at_call 19; (with_reducible refine (gen_st HS6.out (1 + y) (hge2.out.trans HG4.out)).mono ?_); rintro e w7 ⟨rfl, rfl⟩) | (go_at_call 15; (with_reducible refine (count_st HS6.out HCnt.out).mono ?_); rintro e w8 ⟨rfl, rfl⟩))
              go_roundg k1
              case measure => have := HK.out; omega
              case rel => exact ⟨i + 1, _, by first | rfl | go_num, ⟨by have := HK.out; omega, by have := HK.out; have := HIN.out; omega⟩, ⟨by have h := hg.out.2.2.1; rw [show (1 : Int) + (i : Int) + 1 = 1 + ((i + 1 : Nat) : Int) by omega] at h; exact h⟩, HS6⟩
            · rcases Nat.lt_or_ge i l.length with hlt | hge
              · have c1 : decide ((i : Int) < (l.length : Int)) = true := decide_eq_true (by omega)
                have c2 : decide ((i : Int) < 100) = false := decide_eq_false (by omega)
                clear hin2
                go_wp2
                go_ret
                exact ⟨rfl, HS.out.bel⟩
              · have c1 : decide ((i : Int) < (l.length : Int)) = false := decide_eq_false (by omega)
                clear hin2
                go_wp2
                go_ret
                exact ⟨rfl, HS.out.bel⟩
end Go.Proofs.Ytpoecjieagkoaaa.Arena
