/- ArenaCounts: as many live as were taken and not freed; a generation is how often its number was taken. No condition. -/
import Derived.Test.YtpoecjieagkoaaaBa
import Derived.Deep.QuietTactic
import Derived.BigQuiet
namespace Go.Proofs.Ytpoecjieagkoaaa.Arena
open Go Go.ChangeMaps Go.RowKit Go.Proofs.YtpoecjieagkoaaaW.PrintWords Go.Proofs.YtpoecjieagkoaaaW.PrintLast Go.Proofs.YtpoecjieagkoaaaW.PrintMore
set_option linter.unusedVariables false
set_option linter.unusedSimpArgs false
structure Cnt (s : St) (zs : List Int) (i : Nat) : Prop where
  ok : Ok 9 s i
  len : zs.length = 10
  same : ∀ x : Int, 1 ≤ x → x ≤ 9 → rd zs x = rd s.gens x
theorem Ok.more {n : Int} {s : St} {c c' : Int} (h : Ok n s c) (hc : c ≤ c') : Ok n s c' := { h with gen := fun x => by have := h.gen x; omega }
theorem Cnt.free {s : St} {zs : List Int} {i : Nat} (h : Cnt s zs i) (x : Int) : Cnt (freeS s x) zs (i + 1) := by
  obtain ⟨h1, h2, h3⟩ := h.ok.free x
  exact ⟨h1.more (by omega), h.len, fun y a b => by rw [h3]; exact h.same y a b⟩
theorem Cnt.stay {s : St} {zs : List Int} {i : Nat} (h : Cnt s zs i) : Cnt s zs (i + 1) := ⟨h.ok.more (by omega), h.len, h.same⟩
theorem Cnt.take {s : St} {zs : List Int} {i : Nat} (h : Cnt s zs i) (hp : pickG s ≠ 0) : Cnt (takeS s) (zs.set (pickG s).toNat (rd zs (pickG s) + 1)) (i + 1) := by
  obtain ⟨h1, h2, h3, h4, h5, h6, h7⟩ := h.ok.take hp
  have hl := h.len
  have hg := h.ok.gl
  refine ⟨h4.more (by omega), by rw [List.length_set]; exact hl, fun y a b => ?_⟩
  rw [h6, Sep.rd_set _ _ _ _ (by omega) (by omega), Sep.rd_set _ _ _ _ (by omega) (by omega), h.same _ h2.1 h2.2, h.same y a b]
  by_cases e : pickG s = y
  · rw [if_pos ⟨e, by omega⟩, if_pos ⟨e, by omega⟩]
  · rw [if_neg (fun h => e h.1), if_neg (fun h => e h.1)]
set_option maxRecDepth 100000 in
set_option maxHeartbeats 2000000 in
theorem counts_calls (w : World) (A : Option Addr) (c : Nat) (l : List Int) (hr : Kd.C (Kd.int .u8) w A l.length l) (hc : l.length ≤ c) (wf : (∀ x ∈ l, (Lit.int .u8 x).wf = true) ∧ l.length * 1 ≤ 140737488351232 ∧ l.length ≤ maxLen) :
    Calls Try.prog 8 #[.slice A l.length c] w fun e w' => e = .returned (.bool true) ∧ Below w.heap.size w w' := by
  have HR := Aside0.mk hr
  have HW := Aside0.mk wf
  clear hr wf
  go_enter Try.func8, Try.ntmps8
  go_wp2_with (first | (go_at_call 9; (with_reducible refine (shown_calls _).mono ?_); rintro e w1 ⟨rfl, hb⟩; have HS := Aside0.mk ((Sep.St.start w).below hb); clear hb) | (go_at_call 10; (with_reducible refine (new_st HS.out 9 (by decide)).mono ?_); rintro e w3 ⟨p, rfl, hS⟩; have HS3 := Aside0.mk (hS.arr_made 48 (List.replicate 10 0)).swap; clear hS HS))
  go_loopg [6, 8, 9, 10, 11] 302 (fun kq v6 v8 v9 v10 v11 w' => ∃ (i : Nat) (s : St) (zs : List Int), v6 = .int .i64 (s.live.length : Int) ∧ v8 = .int .i64 (i : Int) ∧ Aside0 (i + kq = 302 ∧ i ≤ 300) ∧ Aside0 (Cnt s zs i) ∧ Aside0 (Sep.St w [arenaT p s, Sep.arrT w3.heap.size 48 zs] w'))
  case atStart => exact ⟨0, newS 9, List.replicate 10 0, rfl, rfl, ⟨rfl, by omega⟩, ⟨Ok.new (by decide), rfl, fun x h1 h2 => by rcases (show x = 1 ∨ x = 2 ∨ x = 3 ∨ x = 4 ∨ x = 5 ∨ x = 6 ∨ x = 7 ∨ x = 8 ∨ x = 9 by omega) with rfl | rfl | rfl | rfl | rfl | rfl | rfl | rfl | rfl <;> rfl⟩, HS3⟩
  case round =>
    clear HS3
    obtain ⟨i, s, zs, rfl, rfl, HK, HC, HS⟩ := hrel
    cases gk with
    | zero => exact absurd HK.out (by omega)
    | succ k1 =>
      by_cases hin : i < l.length ∧ i < 300
      · have c1 : decide ((i : Int) < (l.length : Int)) = true := decide_eq_true (by omega)
        have c2 : decide ((i : Int) < 300) = true := decide_eq_true (by omega)
        have hwr := Kd.C_below HR.out HS.out.bel
        obtain ⟨ad, e1, hcell⟩ := Kd.at_int hwr (i : Int) (by omega) (by omega)
        subst e1
        have hb1 : 0 ≤ rd l (i : Int) ∧ rd l (i : Int) ≤ 255 := by
          have hmem : rd l (i : Int) ∈ l := by
            show l.getD i 0 ∈ l
            rw [List.getD_eq_getElem?_getD, List.getElem?_eq_getElem hin.1]
            exact List.getElem_mem _
          have hmin : IntKind.u8.min = 0 := rfl
          have hmax : IntKind.u8.max = 255 := rfl
          simpa [Lit.wf, hmin, hmax] using HW.out.1 _ hmem
        simp only [Int.toNat_natCast] at hcell
        generalize rd l (i : Int) = f at hcell hb1
        have hll : (s.live.length : Int) ≤ 9 := by have h1 := HC.out.ok.many; have h2 := HC.out.ok.ever; omega
        have p0 : (i : Int) ≤ 300 := by omega
        have p1 : (0 : Int) ≤ (i : Int) := by omega
        have p2 : (i : Int) < (l.length : Int) := by omega
        have HIN := Aside0.mk hin
        clear hwr hin
        by_cases h3 : f % 3 = 0
        · have d3 : (f % 3 == 0) = true := beq_iff_eq.mpr h3
          have hmod : Int.tmod f 3 = f % 3 := Int.tmod_eq_emod_of_nonneg hb1.1
          clear h3
          have hx := HC.out.ok.free (1 + f / 3 % 9)
          cases hlv : has s.live (1 + f / 3 % 9) with
          | true =>
            have HLV := Aside0.mk hlv
            rw [hlv, if_pos rfl] at hx
            have HX := Aside0.mk hx
            have HL := Aside0.mk (HC.out.ok.freed_len (by decide))
            clear hlv hx
            go_wp2_with (first | (go_at_call 12; (with_reducible refine (free_st HS.out _ HLV.out rfl HL.out).mono ?_); rintro e w5 ⟨rfl, hS⟩; have HS5 := Aside0.mk hS; clear hS HS) | (go_at_call 15; (with_reducible refine (count_st HS5.out HX.out.2.1).mono ?_); rintro e w8 ⟨rfl, rfl⟩))
            go_roundg k1
            case measure => have := HK.out; omega
            case rel => exact ⟨i + 1, freeS s (1 + f / 3 % 9), zs, by rw [HX.out.2.1], by first | rfl | go_num, ⟨by have := HK.out; omega, by have := HIN.out; omega⟩, ⟨HC.out.free _⟩, HS5⟩
          | false =>
            have HLV := Aside0.mk hlv
            rw [hlv, if_neg (by decide)] at hx
            have HX := Aside0.mk hx
            have HE := Aside0.mk (show freeS s (1 + f / 3 % 9) = s by unfold freeS; rw [hlv, if_neg (by decide)])
            have HL := Aside0.mk (HC.out.ok.freed_len (by decide))
            clear hlv hx
            go_wp2_with (first | (go_at_call 12; (with_reducible refine (free_st HS.out _ HLV.out HE.out HL.out).mono ?_); rintro e w5 ⟨rfl, hS⟩; have HS5 := Aside0.mk hS; clear hS HS) | (go_at_call 15; (with_reducible refine (count_st HS5.out rfl).mono ?_); rintro e w8 ⟨rfl, rfl⟩))
            go_roundg k1
            case measure => have := HK.out; omega
            case rel => exact ⟨i + 1, s, zs, rfl, by first | rfl | go_num, ⟨by have := HK.out; omega, by have := HIN.out; omega⟩, ⟨HC.out.stay⟩, HS5⟩
        · have d3 : (f % 3 == 0) = false := beq_eq_false_iff_ne.mpr h3
          have hmod : Int.tmod f 3 = f % 3 := Int.tmod_eq_emod_of_nonneg hb1.1
          clear h3
          have HCi := Aside0.mk (show (i : Int) ≤ 100000 by omega)
          by_cases hp : pickG s = 0
          · have HP := Aside0.mk hp
            have e9 : (s.live.length : Int) = 9 := (HC.out.ok.full hp).1
            have c9 : decide ((s.live.length : Int) < 9) = false := decide_eq_false (by omega)
            have HE9 := Aside0.mk e9
            clear hp e9
            go_wp2_with (first | (go_at_call 11; (with_reducible refine (ok_none_st HS.out (by decide) HC.out.ok HCi.out HP.out).mono ?_); rintro e w5 ⟨rfl, hS⟩; have HS5 := Aside0.mk hS; clear hS HS) | (go_at_call 15; (with_reducible refine (count_st HS5.out rfl).mono ?_); rintro e w8 ⟨rfl, rfl⟩))
            go_roundg k1
            case measure => have := HK.out; omega
            case rel => exact ⟨i + 1, s, zs, rfl, by first | rfl | go_num, ⟨by have := HK.out; omega, by have := HIN.out; omega⟩, ⟨HC.out.stay⟩, HS5⟩
          · have hT := HC.out.ok.take hp
            have c9 : decide ((s.live.length : Int) < 9) = true := decide_eq_true hT.2.2.1
            have hCt := Aside0.mk (HC.out.take hp)
            have hlen : ((takeS s).live.length : Int) = (s.live.length : Int) + 1 := by rw [hT.2.2.2.2.1]; simp
            have HLEN := Aside0.mk hlen
            obtain ⟨g, hg⟩ : ∃ g, pickG s = g := ⟨_, rfl⟩
            rw [hg] at hp hT hCt
            have hg1 := hT.2.1.1
            have hg2 := hT.2.1.2
            have d1 : decide (g < 1) = false := decide_eq_false (by omega)
            have d2 : decide (9 < g) = false := decide_eq_false (by omega)
            have hzl := HC.out.len
            have g0 : (0 : Int) ≤ g := by omega
            have g10 : g < 10 := by omega
            have HG := Aside0.mk hg
            have HP := Aside0.mk hp
            have hzb : 0 ≤ rd zs g ∧ rd zs g ≤ 300 := by have h1 := HC.out.ok.gen g; have h2 := HC.out.same g hg1 hg2; omega
            have HZ := Aside0.mk (show g < (zs.length : Int) by omega)
            clear hT hlen hzl hp hg
            go_wp2_with (first | (go_at_call 11; (with_reducible refine (ok_take_st HS.out (by decide) HC.out.ok HCi.out HG.out HP.out).mono ?_); rintro e w5 ⟨rfl, hS⟩; obtain ⟨k1c, k2c⟩ := hS.swap.arr_cell g g0 HZ.out; have HS5 := Aside0.mk (hS.swap.arr_set g (rd zs g + 1)).swap; clear hS HS) | (go_at_call 15; (with_reducible refine (count_st HS5.out HLEN.out).mono ?_); rintro e w8 ⟨rfl, rfl⟩))
            go_roundg k1
            case measure => have := HK.out; omega
            case rel => exact ⟨i + 1, takeS s, zs.set g.toNat (rd zs g + 1), by rw [HLEN.out], by first | rfl | go_num, ⟨by have := HK.out; omega, by have := HIN.out; omega⟩, hCt, HS5⟩
      · have HQ := Aside0.mk (show Cnt s zs i from HC.out)
        have HI := Aside0.mk (show i ≤ 300 by have := HK.out; omega)
        clear HK HC
        rcases Nat.lt_or_ge i l.length with hlt | hge
        · have c1 : decide ((i : Int) < (l.length : Int)) = true := decide_eq_true (by omega)
          have c2 : decide ((i : Int) < 300) = false := decide_eq_false (by omega)
          clear hin
          go_wp2
          go_loopg [12] 10 (fun kq v12 w' => ∃ j : Nat, v12 = .int .i64 ((j : Int) + 1) ∧ Aside0 (j + kq = 10 ∧ j ≤ 9) ∧ Aside0 (Sep.St w [arenaT p s, Sep.arrT w3.heap.size 48 zs] w'))
          case atStart => exact ⟨0, rfl, ⟨rfl, by omega⟩, HS⟩
          case round =>
            clear HS
            obtain ⟨j, rfl, HK, HS⟩ := hrel
            cases gk with
            | zero => exact absurd HK.out (by omega)
            | succ k1 =>
              by_cases hj : j < 9
              · have d1 : decide ((j : Int) + 1 ≤ 9) = true := decide_eq_true (by omega)
                have hsm := HQ.out.same ((j : Int) + 1) (by omega) (by omega)
                have hzl := HQ.out.len
                obtain ⟨k1c, k2c⟩ := HS.out.swap.arr_cell ((j : Int) + 1) (by omega) (by omega)
                have ht1 : ((j : Int) + 1).toNat = j + 1 := by omega
                rw [ht1] at k1c k2c
                clear ht1
                have hge1 : genOf s ((j : Int) + 1) = rd zs ((j : Int) + 1) := by
                  have hgl := HQ.out.ok.gl
                  unfold genOf
                  rw [if_neg (by omega), if_neg (by omega), hsm]
                have HGE := Aside0.mk hge1
                have g0 : (0 : Int) ≤ (j : Int) + 1 := by omega
                have g10 : (j : Int) + 1 < 10 := by omega
                have HJ := Aside0.mk hj
                clear hzl hge1
                have e1 : (rd zs ((j : Int) + 1) != rd zs ((j : Int) + 1)) = false := by simp
                have HSM := Aside0.mk hsm
                clear hsm hj
                by_cases hz : rd zs ((j : Int) + 1) = 0
                · have e2 : (rd zs ((j : Int) + 1) == 0) = true := beq_iff_eq.mpr hz
                  have hnl : has s.live ((j : Int) + 1) = false := by
                    cases hb : has s.live ((j : Int) + 1) with
                    | false => rfl
                    | true =>
                      have h1 := (HQ.out.ok.mem _).mp (.inl hb)
                      have h2 := HQ.out.ok.pos _ h1.1 h1.2
                      have h3 := HSM.out
                      omega
                  have HNL := Aside0.mk hnl
                  clear hnl hz
                  generalize rd zs ((j : Int) + 1) = z at k1c HGE HSM e1 e2
                  go_wp2
                  go_quiet ((first | (go_at_call 19; exact Calls.quiet_of_same (gen_st (HS.out.drewN _) _ HGE.out)) | (go_at_call 14; exact Calls.quiet_of_same (live_st (HS.out.drewN _) _ HNL.out))))
                  go_wp2
                  go_roundg k1
                  case measure => have := HK.out; omega
                  case rel => exact ⟨j + 1, by first | rfl | go_num, ⟨by have := HK.out; omega, by have := HJ.out; omega⟩, ⟨HS.out.drewN _⟩⟩
                · have e2 : (rd zs ((j : Int) + 1) == 0) = false := beq_eq_false_iff_ne.mpr hz
                  clear hz
                  generalize rd zs ((j : Int) + 1) = z at k1c HGE HSM e1 e2
                  go_wp2
                  go_quiet ((first | (go_at_call 19; exact Calls.quiet_of_same (gen_st (HS.out.drewN _) _ HGE.out)) | fail))
                  go_wp2
                  go_roundg k1
                  case measure => have := HK.out; omega
                  case rel => exact ⟨j + 1, by first | rfl | go_num, ⟨by have := HK.out; omega, by have := HJ.out; omega⟩, ⟨HS.out.drewN _⟩⟩
              · have d1 : decide ((j : Int) + 1 ≤ 9) = false := decide_eq_false (by omega)
                clear hj
                go_wp2
                go_ret
                exact ⟨rfl, HS.out.bel⟩
        · have c1 : decide ((i : Int) < (l.length : Int)) = false := decide_eq_false (by omega)
          clear hin
          go_wp2
          go_loopg [12] 10 (fun kq v12 w' => ∃ j : Nat, v12 = .int .i64 ((j : Int) + 1) ∧ Aside0 (j + kq = 10 ∧ j ≤ 9) ∧ Aside0 (Sep.St w [arenaT p s, Sep.arrT w3.heap.size 48 zs] w'))
          case atStart => exact ⟨0, rfl, ⟨rfl, by omega⟩, HS⟩
          case round =>
            clear HS
            obtain ⟨j, rfl, HK, HS⟩ := hrel
            cases gk with
            | zero => exact absurd HK.out (by omega)
            | succ k1 =>
              by_cases hj : j < 9
              · have d1 : decide ((j : Int) + 1 ≤ 9) = true := decide_eq_true (by omega)
                have hsm := HQ.out.same ((j : Int) + 1) (by omega) (by omega)
                have hzl := HQ.out.len
                obtain ⟨k1c, k2c⟩ := HS.out.swap.arr_cell ((j : Int) + 1) (by omega) (by omega)
                have ht1 : ((j : Int) + 1).toNat = j + 1 := by omega
                rw [ht1] at k1c k2c
                clear ht1
                have hge1 : genOf s ((j : Int) + 1) = rd zs ((j : Int) + 1) := by
                  have hgl := HQ.out.ok.gl
                  unfold genOf
                  rw [if_neg (by omega), if_neg (by omega), hsm]
                have HGE := Aside0.mk hge1
                have g0 : (0 : Int) ≤ (j : Int) + 1 := by omega
                have g10 : (j : Int) + 1 < 10 := by omega
                have HJ := Aside0.mk hj
                clear hzl hge1
                have e1 : (rd zs ((j : Int) + 1) != rd zs ((j : Int) + 1)) = false := by simp
                have HSM := Aside0.mk hsm
                clear hsm hj
                by_cases hz : rd zs ((j : Int) + 1) = 0
                · have e2 : (rd zs ((j : Int) + 1) == 0) = true := beq_iff_eq.mpr hz
                  have hnl : has s.live ((j : Int) + 1) = false := by
                    cases hb : has s.live ((j : Int) + 1) with
                    | false => rfl
                    | true =>
                      have h1 := (HQ.out.ok.mem _).mp (.inl hb)
                      have h2 := HQ.out.ok.pos _ h1.1 h1.2
                      have h3 := HSM.out
                      omega
                  have HNL := Aside0.mk hnl
                  clear hnl hz
                  generalize rd zs ((j : Int) + 1) = z at k1c HGE HSM e1 e2
                  go_wp2
                  go_quiet ((first | (go_at_call 19; exact Calls.quiet_of_same (gen_st (HS.out.drewN _) _ HGE.out)) | (go_at_call 14; exact Calls.quiet_of_same (live_st (HS.out.drewN _) _ HNL.out))))
                  go_wp2
                  go_roundg k1
                  case measure => have := HK.out; omega
                  case rel => exact ⟨j + 1, by first | rfl | go_num, ⟨by have := HK.out; omega, by have := HJ.out; omega⟩, ⟨HS.out.drewN _⟩⟩
                · have e2 : (rd zs ((j : Int) + 1) == 0) = false := beq_eq_false_iff_ne.mpr hz
                  clear hz
                  generalize rd zs ((j : Int) + 1) = z at k1c HGE HSM e1 e2
                  go_wp2
                  go_quiet ((first | (go_at_call 19; exact Calls.quiet_of_same (gen_st (HS.out.drewN _) _ HGE.out)) | fail))
                  go_wp2
                  go_roundg k1
                  case measure => have := HK.out; omega
                  case rel => exact ⟨j + 1, by first | rfl | go_num, ⟨by have := HK.out; omega, by have := HJ.out; omega⟩, ⟨HS.out.drewN _⟩⟩
              · have d1 : decide ((j : Int) + 1 ≤ 9) = false := decide_eq_false (by omega)
                clear hj
                go_wp2
                go_ret
                exact ⟨rfl, HS.out.bel⟩
end Go.Proofs.Ytpoecjieagkoaaa.Arena
