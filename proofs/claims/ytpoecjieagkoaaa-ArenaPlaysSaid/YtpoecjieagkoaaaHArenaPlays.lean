/- ArenaPlays: whatever is taken, and freed, each answer is the document's. No condition. -/
import Derived.Test.YtpoecjieagkoaaaXd
namespace Go.Proofs.Ytpoecjieagkoaaa.Arena
open Go Go.ChangeMaps Go.RowKit Go.Proofs.YtpoecjieagkoaaaW.PrintWords Go.Proofs.YtpoecjieagkoaaaW.PrintLast Go.Proofs.YtpoecjieagkoaaaW.PrintMore Go.Proofs.Ytpoecjieagkoaaa.PTake Go.Proofs.Ytpoecjieagkoaaa.Own
set_option linter.unusedVariables false
set_option linter.unusedSimpArgs false
section
variable {w0 w : World} {F0 P0 : Nat → Prop} {ts : List Thing} {a b c d e f : Thing}
theorem front3 (h : Own.St w0 F0 P0 (a :: b :: c :: d :: e :: ts) w) : Own.St w0 F0 P0 (c :: d :: e :: a :: b :: ts) w := Own.St.turn (ts1 := [a, b]) (ts2 := [c, d, e]) h
theorem free_fix {r1 r2 r3 o1 o2 o3 : Thing} (h : Own.St w0 F0 P0 (a :: r1 :: r2 :: r3 :: b :: c :: o1 :: o2 :: o3 :: ts) w) : Own.St w0 F0 P0 (a :: c :: r1 :: r2 :: r3 :: ts) w := by
  have h1 := (St.pick (ts1 := [_, _, _, _]) h).drop
  have h2 := (St.pick (ts1 := [_, _, _, _, _]) h1).drop
  have h3 := (St.pick (ts1 := [_, _, _, _, _]) h2).drop
  have h4 := (St.pick (ts1 := [_, _, _, _, _]) h3).drop
  exact (St.pick (ts1 := [_, _, _, _]) h4).swap
theorem box_first (h : Own.St w0 F0 P0 (c :: d :: e :: a :: b :: ts) w) : Own.St w0 F0 P0 (b :: a :: c :: d :: e :: ts) w := (Own.St.turn (ts1 := [c, d, e]) (ts2 := [a, b]) h).swap
end
set_option maxRecDepth 100000 in
set_option maxHeartbeats 8000000 in
theorem plays_calls (w : World) (r : Int) (wfr : (Lit.int .i64 r).wf = true) (A : Option Addr) (c : Nat) (l : List Int) (hr : Kd.C (Kd.int .i64) w A l.length l) (hc : l.length ≤ c) (wf : (∀ x ∈ l, (Lit.int .i64 x).wf = true) ∧ l.length * 8 ≤ 140737488351232 ∧ l.length ≤ maxLen) :
    Calls Try.prog 5 #[.int .i64 r, .slice A l.length c] w fun e w' => e = .returned (.bool true) ∧ Below w.heap.size w w' := by
  have HS0 := Aside0.mk (show Own.St w (fun _ => False) (fun _ => True) [Deeds A l] w from St.arg (St.start w (fun _ => True)) (fun _ => id) (fun _ _ => trivial) (Kd.C_F (Kd.heap_int _) hr))
  have hci : (l.length : Int) ≤ (c : Int) := by omega
  clear hr hc wf wfr
  by_cases hok : 1 ≤ r ∧ r ≤ 64
  · have HOK := Aside0.mk hok
    clear hok
    go_enter Try.func5, Try.ntmps5
    go_wp2_with (first | (go_at_call 9; (with_reducible refine (shown_calls _).mono ?_); rintro e w1 ⟨rfl, hb⟩; have HS1 := Aside0.mk (HS0.out.below hb); clear hb HS0) | (go_at_call 10; (with_reducible refine (new_o HS1.out r HOK.out).mono ?_); rintro e w2 ⟨p, rfl, hS⟩; have HS2 := Aside0.mk hS; clear hS HS1) | (go_at_call 16; (with_reducible refine (doc_new HS2.out r HOK.out).mono ?_); rintro e w3 ⟨v1, v2, v3, rfl, hS⟩; obtain ⟨A1, c1, rfl, -, -⟩ := hS.rd_open; obtain ⟨A2, c2, rfl, -, -⟩ := (St.pick (ts1 := [_]) hS).rd_open; obtain ⟨A3, c3, rfl, -, -⟩ := (St.pick (ts1 := [_, _]) hS).rd_open; have hS4 := hS.box #[.int .i64 r, .slice A1 (keys (newS r)).length c1, .slice A2 (newS r).freed.length c2, .slice A3 (newS r).gens.length c3] 37; have HS4 := Aside0.mk (box_first (St.turn (ts1 := [_]) (ts2 := [_, _, _, _]) hS4)); clear hS hS4 HS2))
    obtain ⟨bx, hbx⟩ : ∃ b, w3.heap.size = b := ⟨_, rfl⟩
    rw [hbx] at HS4 ⊢
    clear hbx
    go_loopg [10] (l.length + 1) (fun kq v10 w' => ∃ (i : Nat) (s : St) (A1 : Option Addr) (c1 : Nat) (A2 : Option Addr) (c2 : Nat) (A3 : Option Addr) (c3 : Nat), v10 = .int .i64 (i : Int) ∧ Aside0 (i + kq = l.length + 1 ∧ i ≤ 300 ∧ i ≤ l.length) ∧ Aside0 (Ok r s i) ∧ Aside0 (Own.St w (fun _ => False) (fun _ => True) (boxT bx 37 #[.int .i64 r, .slice A1 (keys s).length c1, .slice A2 s.freed.length c2, .slice A3 s.gens.length c3] :: arenaO p s :: Dt (.slice A1 (keys s).length c1) (.slice A2 s.freed.length c2) (.slice A3 s.gens.length c3) s (Deeds A l :: [])) w'))
    case atStart => exact ⟨0, newS r, A1, c1, A2, c2, A3, c3, rfl, ⟨by omega, by omega, Nat.zero_le _⟩, ⟨Ok.new HOK.out.1⟩, HS4⟩
    case round =>
      clear HS4
      obtain ⟨i, s, A1, c1, A2, c2, A3, c3, rfl, HK, HOk, HS⟩ := hrel
      cases gk with
      | zero => exact absurd HK.out (by omega)
      | succ k1 =>
        have hi0 : (0 : Int) ≤ (i : Int) := by omega
        have hi1 : (i : Int) ≤ 300 := by have := HK.out; omega
        by_cases hin : i < l.length
        · have d1 : decide ((i : Int) < (l.length : Int)) = true := decide_eq_true (by omega)
          have d1n : decide (i < l.length) = true := decide_eq_true hin
          have hil : (i : Int) < (l.length : Int) := by omega
          by_cases hin2 : i < 300
          · have d2 : decide ((i : Int) < 300) = true := decide_eq_true (by omega)
            have d2n : decide (i < 300) = true := decide_eq_true hin2
            obtain ⟨ad, ha, cc⟩ := Kd.at_int (St.now (St.mem (t := Deeds A l) (by simp [Dt]) HS.out)) (i : Int) hi0 hil
            subst ha
            rw [Int.toNat_natCast] at cc
            obtain ⟨x, hx⟩ : ∃ x, rd l (i : Int) = x := ⟨_, rfl⟩
            rw [hx] at cc
            have HX := Aside0.mk hx
            have HIN := Aside0.mk (And.intro hin hin2)
            have HRm := Aside0.mk HOk.out.room
            have HR := Aside0.mk HOK.out
            have HCI := Aside0.mk (show (i : Int) ≤ 100000 by omega)
            clear hin hin2 hx
            by_cases hx0 : x = 0
            · have dx : (x == 0) = true := beq_iff_eq.mpr hx0
              obtain ⟨g, hg⟩ : ∃ g, pickG s = g := ⟨_, rfl⟩
              obtain ⟨m, hm⟩ : ∃ m, takeV s = m := ⟨_, rfl⟩
              have HG := Aside0.mk (And.intro hg hm)
              clear hx0 hg hm
              go_wp2_with (first | (go_at_call 11; (with_reducible refine (prog_take HS.out.swap HOk.out HR.out HCI.out HG.out.1 HG.out.2).mono ?_); rintro e w5 ⟨rfl, hS⟩; obtain ⟨⟨b0, b1, b2, b3⟩, -, -⟩ := cells4 hS.swap; have HS5 := Aside0.mk hS; clear hS HS cc) | (go_at_call 17; (with_reducible refine (doc_take_any (front3 HS5.out) HOk.out HR.out.2 HCI.out HRm.out HG.out.1 HG.out.2).mono ?_); rintro e w6 ⟨v1, v2, v3, rfl, hS⟩; obtain ⟨A4, c4, rfl, -, -⟩ := hS.rd_open; obtain ⟨A5, c5, rfl, -, -⟩ := (St.pick (ts1 := [_]) hS).rd_open; obtain ⟨A6, c6, rfl, -, -⟩ := (St.pick (ts1 := [_, _]) hS).rd_open; obtain ⟨⟨b0, b1, b2, b3⟩, ⟨g0, g1, g2, g3⟩, g4⟩ := cells4 (box_first hS); have HS6 := Aside0.mk (box_first hS); clear hS HS5))
              clear HG
              have HS7 := Aside0.mk ((put4 (b0 := .int .i64 r) (b1 := .slice A4 (keys (takeS s)).length c4) (b2 := .slice A5 (takeS s).freed.length c5) (b3 := .slice A6 (takeS s).gens.length c6) HS6.out).below (below_alloc (Below.refl _ _) (.cells #[.int .i64 r, .slice A4 (keys (takeS s)).length c4, .slice A5 (takeS s).freed.length c5, .slice A6 (takeS s).gens.length c6] 37)))
              have HOk1 := Aside0.mk (show Ok r (takeS s) ((i + 1 : Nat) : Int) from HOk.out.nextTake)
              clear HS6 b0 b1 b2 b3 g0 g1 g2 g3 g4 HOk HRm
              generalize takeS s = s1 at HS7 HOk1 ⊢
              obtain ⟨bl, hbl⟩ : ∃ bl, has s1.live x = bl := ⟨_, rfl⟩
              obtain ⟨gn, hgn⟩ : ∃ gn, genOf s1 x = gn := ⟨_, rfl⟩
              have HBL := Aside0.mk hbl
              have HGN := Aside0.mk hgn
              have HKN := Aside0.mk (show (s1.live.length : Int) = ((keys s1).length : Int) by simp [keys])
              have HKL := Aside0.mk (show (keys s1).length ≤ 100000 by have h1 := HOk1.out.many; have h2 := HOk1.out.ever; have h3 := HR.out; simp [keys]; omega)
              clear hbl hgn
              generalize hww : World.alloc _ _ = ww at HS7 ⊢
              clear hww
              refine region_plan (ts0 := (boxT bx 37 #[.int .i64 r, .slice A4 (keys s1).length c4, .slice A5 s1.freed.length c5, .slice A6 s1.gens.length c6] :: arenaO p s1 :: Dt (.slice A4 (keys s1).length c4) (.slice A5 s1.freed.length c5) (.slice A6 s1.gens.length c6) s1 (Deeds (some ad) l :: []))) (fun _ => []) (fun _ => []) (fun j_ v_ l_ => match j_ with | 0 => v_ = .pointer (some ⟨p, 0, none⟩) | 1 => v_ = .slice (some ad) l.length c | 2 => v_ = .int .i64 (i : Int) | 3 => v_ = .pointer (some (ad.add i)) | 4 => v_ = .int .i64 x | 5 => (fun (v_ : Value) (l_ : List Value) => v_ = .bool bl) v_ l_ | 6 => v_ = .pointer (some ⟨bx, 1, none⟩) | 7 => v_ = .slice A4 (keys s1).length c4 | 8 => v_ = .slice (some ad) l.length c | 9 => v_ = .int .i64 (i : Int) | 10 => v_ = .pointer (some (ad.add i)) | 11 => v_ = .int .i64 x | 12 => (fun (v_ : Value) (l_ : List Value) => v_ = .bool bl) v_ l_ | 13 => v_ = .bool false | 14 => v_ = .bool false | 15 => v_ = .pointer (some ⟨p, 0, none⟩) | 16 => v_ = .slice (some ad) l.length c | 17 => v_ = .int .i64 (i : Int) | 18 => v_ = .pointer (some (ad.add i)) | 19 => v_ = .int .i64 x | 20 => (fun (v_ : Value) (l_ : List Value) => v_ = .int .i64 gn) v_ l_ | 21 => v_ = .agg #[.int .i64 r, .slice A4 (keys s1).length c4, .slice A5 s1.freed.length c5, .slice A6 s1.gens.length c6] | 22 => v_ = .slice (some ad) l.length c | 23 => v_ = .int .i64 (i : Int) | 24 => v_ = .pointer (some (ad.add i)) | 25 => v_ = .int .i64 x | 26 => (fun (v_ : Value) (l_ : List Value) => v_ = .int .i64 gn) v_ l_ | 27 => v_ = .bool false | 28 => v_ = .bool false | 29 => v_ = .bool false | 30 => v_ = .pointer (some ⟨p, 0, none⟩) | 31 => (fun (v_ : Value) (l_ : List Value) => v_ = .int .i64 ((keys s1).length : Int)) v_ l_ | 32 => v_ = .pointer (some ⟨bx, 1, none⟩) | 33 => v_ = .slice A4 (keys s1).length c4 | 34 => v_ = .int .i64 ((keys s1).length : Int) | 35 => v_ = .bool false | 36 => v_ = .bool false | _ => True) (fun _ _ => []) [] [] (fun _ => []) rfl (by kernel_rfl) (by kernel_rfl) (by kernel_rfl) (by kernel_rfl) (by kernel_rfl) (by kernel_rfl) HS7.out ⟨?_, ?_, ?_, ?_, ?_, ?_, ?_, ?_, ?_, ?_, ?_, ?_, ?_, ?_, ?_, ?_, ?_, ?_, ?_, ?_, ?_, ?_, ?_, ?_, ?_, ?_, ?_, ?_, ?_, ?_, ?_, ?_, ?_, ?_, ?_, ?_, ?_, trivial⟩ (fun vsg wzg hvt HE => ?_)
              · intro l_ a w vs ts hv hu hl hR hS K hK
                have e6 : a.tmps.getD 6 undef = .pointer (some ⟨p, 0, none⟩) := (hu 6 (no_dst (by kernel_rfl) l_)).trans rfl
                have f6 := getD_get e6
                exact value_ (v := .pointer (some ⟨p, 0, none⟩)) (w1 := w) rfl rfl (by simp only [execOp, Act.eval, e6]; go_simp) (hK _ _ rfl hS)
              · intro l_ a w vs ts hv hu hl hR hS K hK
                have e1 : a.tmps.getD 1 undef = .slice (some ad) l.length c := (hu 1 (no_dst (by kernel_rfl) l_)).trans rfl
                have f1 := getD_get e1
                exact value_ (v := .slice (some ad) l.length c) (w1 := w) rfl rfl (by simp only [execOp, Act.eval, e1]; go_simp) (hK _ _ rfl hS)
              · intro l_ a w vs ts hv hu hl hR hS K hK
                have e10 : a.tmps.getD 10 undef = .int .i64 (i : Int) := (hu 10 (no_dst (by kernel_rfl) l_)).trans rfl
                have f10 := getD_get e10
                exact value_ (v := .int .i64 (i : Int)) (w1 := w) rfl rfl (by simp only [execOp, Act.eval, e10]; go_simp) (hK _ _ rfl hS)
              · intro l_ a w vs ts hv hu hl hR hS K hK
                have e108 : a.tmps.getD 108 undef = .slice (some ad) l.length c := (hv 1 108 rfl (hl 1 (by kernel_rfl))).trans (hR 1 (by decide) (hl 1 (by kernel_rfl)))
                have e109 : a.tmps.getD 109 undef = .int .i64 (i : Int) := (hv 2 109 rfl (hl 2 (by kernel_rfl))).trans (hR 2 (by decide) (hl 2 (by kernel_rfl)))
                have f108 := getD_get e108
                have f109 := getD_get e109
                exact value_ (v := .pointer (some (ad.add i))) (w1 := w) rfl rfl (by simp only [execOp, Act.eval, e108, e109]; go_simp) (hK _ _ rfl hS)
              · intro l_ a w vs ts hv hu hl hR hS K hK
                have e110 : a.tmps.getD 110 undef = .pointer (some (ad.add i)) := (hv 3 110 rfl (hl 3 (by kernel_rfl))).trans (hR 3 (by decide) (hl 3 (by kernel_rfl)))
                have f110 := getD_get e110
                obtain ⟨ad1, ha1, cc⟩ := Kd.at_int (St.now (St.mem (t := Deeds (some ad) l) (by simp [Dt]) hS)) (i : Int) hi0 hil
                cases ha1
                rw [Int.toNat_natCast, HX.out] at cc
                exact value_ (v := .int .i64 x) (w1 := w) rfl rfl (by simp only [execOp, Act.eval, e110]; go_simp) (hK _ _ rfl hS)
              · intro l_ a w vs ts hv hu hl hR hS K hK
                have e107 : a.tmps.getD 107 undef = .pointer (some ⟨p, 0, none⟩) := (hv 0 107 rfl (hl 0 (by kernel_rfl))).trans (hR 0 (by decide) (hl 0 (by kernel_rfl)))
                have e111 : a.tmps.getD 111 undef = .int .i64 x := (hv 4 111 rfl (hl 4 (by kernel_rfl))).trans (hR 4 (by decide) (hl 4 (by kernel_rfl)))
                have f107 := getD_get e107
                have f111 := getD_get e111
                have ha := St.mem (t := arenaO p s1) (by simp [Dt]) hS
                refine goes_ Try.func14 (by kernel_rfl) rfl #[.pointer (some ⟨p, 0, none⟩), .int .i64 x] rfl rfl rfl (by simp [Act.eval, e107, e111]) ?_
                refine (live_o ha x HBL.out).mono ?_
                rintro e w' ⟨rfl, rfl⟩
                exact ⟨_, rfl, hK _ _ rfl hS⟩
              · intro l_ a w vs ts hv hu hl hR hS K hK
                have e8 : a.tmps.getD 8 undef = .pointer (some ⟨bx, 0, none⟩) := (hu 8 (no_dst (by kernel_rfl) l_)).trans rfl
                have f8 := getD_get e8
                exact value_ (v := .pointer (some ⟨bx, 1, none⟩)) (w1 := w) rfl rfl (by simp only [execOp, Act.eval, e8]; go_simp) (hK _ _ rfl hS)
              · intro l_ a w vs ts hv hu hl hR hS K hK
                have e113 : a.tmps.getD 113 undef = .pointer (some ⟨bx, 1, none⟩) := (hv 6 113 rfl (hl 6 (by kernel_rfl))).trans (hR 6 (by decide) (hl 6 (by kernel_rfl)))
                have f113 := getD_get e113
                have cc := ((St.mem (t := boxT bx 37 #[.int .i64 r, .slice A4 (keys s1).length c4, .slice A5 s1.freed.length c5, .slice A6 s1.gens.length c6]) (by simp [Dt]) hS).box_cell 1 _ rfl).1
                exact value_ (v := .slice A4 (keys s1).length c4) (w1 := w) rfl rfl (by simp only [execOp, Act.eval, e113]; go_simp) (hK _ _ rfl hS)
              · intro l_ a w vs ts hv hu hl hR hS K hK
                have e1 : a.tmps.getD 1 undef = .slice (some ad) l.length c := (hu 1 (no_dst (by kernel_rfl) l_)).trans rfl
                have f1 := getD_get e1
                exact value_ (v := .slice (some ad) l.length c) (w1 := w) rfl rfl (by simp only [execOp, Act.eval, e1]; go_simp) (hK _ _ rfl hS)
              · intro l_ a w vs ts hv hu hl hR hS K hK
                have e10 : a.tmps.getD 10 undef = .int .i64 (i : Int) := (hu 10 (no_dst (by kernel_rfl) l_)).trans rfl
                have f10 := getD_get e10
                exact value_ (v := .int .i64 (i : Int)) (w1 := w) rfl rfl (by simp only [execOp, Act.eval, e10]; go_simp) (hK _ _ rfl hS)
              · intro l_ a w vs ts hv hu hl hR hS K hK
                have e115 : a.tmps.getD 115 undef = .slice (some ad) l.length c := (hv 8 115 rfl (hl 8 (by kernel_rfl))).trans (hR 8 (by decide) (hl 8 (by kernel_rfl)))
                have e116 : a.tmps.getD 116 undef = .int .i64 (i : Int) := (hv 9 116 rfl (hl 9 (by kernel_rfl))).trans (hR 9 (by decide) (hl 9 (by kernel_rfl)))
                have f115 := getD_get e115
                have f116 := getD_get e116
                exact value_ (v := .pointer (some (ad.add i))) (w1 := w) rfl rfl (by simp only [execOp, Act.eval, e115, e116]; go_simp) (hK _ _ rfl hS)
              · intro l_ a w vs ts hv hu hl hR hS K hK
                have e117 : a.tmps.getD 117 undef = .pointer (some (ad.add i)) := (hv 10 117 rfl (hl 10 (by kernel_rfl))).trans (hR 10 (by decide) (hl 10 (by kernel_rfl)))
                have f117 := getD_get e117
                obtain ⟨ad1, ha1, cc⟩ := Kd.at_int (St.now (St.mem (t := Deeds (some ad) l) (by simp [Dt]) hS)) (i : Int) hi0 hil
                cases ha1
                rw [Int.toNat_natCast, HX.out] at cc
                exact value_ (v := .int .i64 x) (w1 := w) rfl rfl (by simp only [execOp, Act.eval, e117]; go_simp) (hK _ _ rfl hS)
              · intro l_ a w vs ts hv hu hl hR hS K hK
                have e114 : a.tmps.getD 114 undef = .slice A4 (keys s1).length c4 := (hv 7 114 rfl (hl 7 (by kernel_rfl))).trans (hR 7 (by decide) (hl 7 (by kernel_rfl)))
                have e118 : a.tmps.getD 118 undef = .int .i64 x := (hv 11 118 rfl (hl 11 (by kernel_rfl))).trans (hR 11 (by decide) (hl 11 (by kernel_rfl)))
                have f114 := getD_get e114
                have f118 := getD_get e118
                have hr1 := (St.mem (t := rdT (Kd.int .i64) (.slice A4 (keys s1).length c4) (keys s1)) (by simp [Dt]) hS).rd_C
                have hin := in_calls (keys s1) x HKL.out w hr1.2.2 hr1.2.1
                rw [← has_mem, HBL.out] at hin
                refine goes_ Try.func13 (by kernel_rfl) rfl #[.slice A4 (keys s1).length c4, .int .i64 x] rfl rfl rfl (by simp [Act.eval, e114, e118]) ?_
                refine hin.mono ?_
                rintro e w' ⟨rfl, hd⟩
                exact ⟨_, rfl, hK _ _ rfl (hS.drawn hd)⟩
              · intro l_ a w vs ts hv hu hl hR hS K hK
                have e112 : a.tmps.getD 112 undef = .bool bl := (hv 5 112 rfl (hl 5 (by kernel_rfl))).trans (hR 5 (by decide) (hl 5 (by kernel_rfl)))
                have e119 : a.tmps.getD 119 undef = .bool bl := (hv 12 119 rfl (hl 12 (by kernel_rfl))).trans (hR 12 (by decide) (hl 12 (by kernel_rfl)))
                have f112 := getD_get e112
                have f119 := getD_get e119
                exact value_ (v := .bool false) (w1 := w) rfl rfl (by simp only [execOp, Act.eval, e112, e119]; go_simp) (hK _ _ rfl hS)
              · intro l_ a w vs ts hv hu hl hR hS K hK
                have e120 : a.tmps.getD 120 undef = .bool false := (hv 13 120 rfl (hl 13 (by kernel_rfl))).trans (hR 13 (by decide) (hl 13 (by kernel_rfl)))
                have f120 := getD_get e120
                exact value_ (v := .bool false) (w1 := w) rfl rfl (by simp only [execOp, Act.eval, e120]; go_simp) (hK _ _ rfl hS)
              · intro l_ a w vs ts hv hu hl hR hS K hK
                have eg : a.tmps.getD 121 undef = .bool false := (hv 14 121 rfl (hl 14 (by kernel_rfl))).trans (hR 14 (by decide) (hl 14 (by kernel_rfl)))
                have e6 : a.tmps.getD 6 undef = .pointer (some ⟨p, 0, none⟩) := (hu 6 (no_dst (by kernel_rfl) l_)).trans rfl
                have f6 := getD_get e6
                exact value_ (v := .pointer (some ⟨p, 0, none⟩)) (w1 := w) (wanted_yes (g := 14) (t := 121) rfl rfl eg rfl) rfl (by simp only [execOp, Act.eval, e6]; go_simp) (hK _ _ rfl hS)
              · intro l_ a w vs ts hv hu hl hR hS K hK
                have eg : a.tmps.getD 121 undef = .bool false := (hv 14 121 rfl (hl 14 (by kernel_rfl))).trans (hR 14 (by decide) (hl 14 (by kernel_rfl)))
                have e1 : a.tmps.getD 1 undef = .slice (some ad) l.length c := (hu 1 (no_dst (by kernel_rfl) l_)).trans rfl
                have f1 := getD_get e1
                exact value_ (v := .slice (some ad) l.length c) (w1 := w) (wanted_yes (g := 14) (t := 121) rfl rfl eg rfl) rfl (by simp only [execOp, Act.eval, e1]; go_simp) (hK _ _ rfl hS)
              · intro l_ a w vs ts hv hu hl hR hS K hK
                have eg : a.tmps.getD 121 undef = .bool false := (hv 14 121 rfl (hl 14 (by kernel_rfl))).trans (hR 14 (by decide) (hl 14 (by kernel_rfl)))
                have e10 : a.tmps.getD 10 undef = .int .i64 (i : Int) := (hu 10 (no_dst (by kernel_rfl) l_)).trans rfl
                have f10 := getD_get e10
                exact value_ (v := .int .i64 (i : Int)) (w1 := w) (wanted_yes (g := 14) (t := 121) rfl rfl eg rfl) rfl (by simp only [execOp, Act.eval, e10]; go_simp) (hK _ _ rfl hS)
              · intro l_ a w vs ts hv hu hl hR hS K hK
                have eg : a.tmps.getD 121 undef = .bool false := (hv 14 121 rfl (hl 14 (by kernel_rfl))).trans (hR 14 (by decide) (hl 14 (by kernel_rfl)))
                have e123 : a.tmps.getD 123 undef = .slice (some ad) l.length c := (hv 16 123 rfl (hl 16 (by kernel_rfl))).trans (hR 16 (by decide) (hl 16 (by kernel_rfl)))
                have e124 : a.tmps.getD 124 undef = .int .i64 (i : Int) := (hv 17 124 rfl (hl 17 (by kernel_rfl))).trans (hR 17 (by decide) (hl 17 (by kernel_rfl)))
                have f123 := getD_get e123
                have f124 := getD_get e124
                exact value_ (v := .pointer (some (ad.add i))) (w1 := w) (wanted_yes (g := 14) (t := 121) rfl rfl eg rfl) rfl (by simp only [execOp, Act.eval, e123, e124]; go_simp) (hK _ _ rfl hS)
              · intro l_ a w vs ts hv hu hl hR hS K hK
                have eg : a.tmps.getD 121 undef = .bool false := (hv 14 121 rfl (hl 14 (by kernel_rfl))).trans (hR 14 (by decide) (hl 14 (by kernel_rfl)))
                have e125 : a.tmps.getD 125 undef = .pointer (some (ad.add i)) := (hv 18 125 rfl (hl 18 (by kernel_rfl))).trans (hR 18 (by decide) (hl 18 (by kernel_rfl)))
                have f125 := getD_get e125
                obtain ⟨ad1, ha1, cc⟩ := Kd.at_int (St.now (St.mem (t := Deeds (some ad) l) (by simp [Dt]) hS)) (i : Int) hi0 hil
                cases ha1
                rw [Int.toNat_natCast, HX.out] at cc
                exact value_ (v := .int .i64 x) (w1 := w) (wanted_yes (g := 14) (t := 121) rfl rfl eg rfl) rfl (by simp only [execOp, Act.eval, e125]; go_simp) (hK _ _ rfl hS)
              · intro l_ a w vs ts hv hu hl hR hS K hK
                have eg : a.tmps.getD 121 undef = .bool false := (hv 14 121 rfl (hl 14 (by kernel_rfl))).trans (hR 14 (by decide) (hl 14 (by kernel_rfl)))
                have e122 : a.tmps.getD 122 undef = .pointer (some ⟨p, 0, none⟩) := (hv 15 122 rfl (hl 15 (by kernel_rfl))).trans (hR 15 (by decide) (hl 15 (by kernel_rfl)))
                have e126 : a.tmps.getD 126 undef = .int .i64 x := (hv 19 126 rfl (hl 19 (by kernel_rfl))).trans (hR 19 (by decide) (hl 19 (by kernel_rfl)))
                have f122 := getD_get e122
                have f126 := getD_get e126
                have ha := St.mem (t := arenaO p s1) (by simp [Dt]) hS
                refine goes_ Try.func19 (by kernel_rfl) rfl #[.pointer (some ⟨p, 0, none⟩), .int .i64 x] (wanted_yes (g := 14) (t := 121) rfl rfl eg rfl) rfl rfl (by simp [Act.eval, e122, e126]) ?_
                refine (gen_o ha x HGN.out).mono ?_
                rintro e w' ⟨rfl, rfl⟩
                exact ⟨_, rfl, hK _ _ rfl hS⟩
              · intro l_ a w vs ts hv hu hl hR hS K hK
                have eg : a.tmps.getD 121 undef = .bool false := (hv 14 121 rfl (hl 14 (by kernel_rfl))).trans (hR 14 (by decide) (hl 14 (by kernel_rfl)))
                have e8 : a.tmps.getD 8 undef = .pointer (some ⟨bx, 0, none⟩) := (hu 8 (no_dst (by kernel_rfl) l_)).trans rfl
                have f8 := getD_get e8
                have hbx := St.mem (t := boxT bx 37 #[.int .i64 r, .slice A4 (keys s1).length c4, .slice A5 s1.freed.length c5, .slice A6 s1.gens.length c6]) (by simp [Dt]) hS
                have c0_ := (hbx.box_cell 0 _ rfl).1
                have c1_ := (hbx.box_cell 1 _ rfl).1
                have c2_ := (hbx.box_cell 2 _ rfl).1
                have c3_ := (hbx.box_cell 3 _ rfl).1
                exact value_ (v := .agg #[.int .i64 r, .slice A4 (keys s1).length c4, .slice A5 s1.freed.length c5, .slice A6 s1.gens.length c6]) (w1 := w) (wanted_yes (g := 14) (t := 121) rfl rfl eg rfl) rfl (by simp only [execOp, Act.eval, e8]; go_simp) (hK _ _ rfl hS)
              · intro l_ a w vs ts hv hu hl hR hS K hK
                have eg : a.tmps.getD 121 undef = .bool false := (hv 14 121 rfl (hl 14 (by kernel_rfl))).trans (hR 14 (by decide) (hl 14 (by kernel_rfl)))
                have e1 : a.tmps.getD 1 undef = .slice (some ad) l.length c := (hu 1 (no_dst (by kernel_rfl) l_)).trans rfl
                have f1 := getD_get e1
                exact value_ (v := .slice (some ad) l.length c) (w1 := w) (wanted_yes (g := 14) (t := 121) rfl rfl eg rfl) rfl (by simp only [execOp, Act.eval, e1]; go_simp) (hK _ _ rfl hS)
              · intro l_ a w vs ts hv hu hl hR hS K hK
                have eg : a.tmps.getD 121 undef = .bool false := (hv 14 121 rfl (hl 14 (by kernel_rfl))).trans (hR 14 (by decide) (hl 14 (by kernel_rfl)))
                have e10 : a.tmps.getD 10 undef = .int .i64 (i : Int) := (hu 10 (no_dst (by kernel_rfl) l_)).trans rfl
                have f10 := getD_get e10
                exact value_ (v := .int .i64 (i : Int)) (w1 := w) (wanted_yes (g := 14) (t := 121) rfl rfl eg rfl) rfl (by simp only [execOp, Act.eval, e10]; go_simp) (hK _ _ rfl hS)
              · intro l_ a w vs ts hv hu hl hR hS K hK
                have eg : a.tmps.getD 121 undef = .bool false := (hv 14 121 rfl (hl 14 (by kernel_rfl))).trans (hR 14 (by decide) (hl 14 (by kernel_rfl)))
                have e129 : a.tmps.getD 129 undef = .slice (some ad) l.length c := (hv 22 129 rfl (hl 22 (by kernel_rfl))).trans (hR 22 (by decide) (hl 22 (by kernel_rfl)))
                have e130 : a.tmps.getD 130 undef = .int .i64 (i : Int) := (hv 23 130 rfl (hl 23 (by kernel_rfl))).trans (hR 23 (by decide) (hl 23 (by kernel_rfl)))
                have f129 := getD_get e129
                have f130 := getD_get e130
                exact value_ (v := .pointer (some (ad.add i))) (w1 := w) (wanted_yes (g := 14) (t := 121) rfl rfl eg rfl) rfl (by simp only [execOp, Act.eval, e129, e130]; go_simp) (hK _ _ rfl hS)
              · intro l_ a w vs ts hv hu hl hR hS K hK
                have eg : a.tmps.getD 121 undef = .bool false := (hv 14 121 rfl (hl 14 (by kernel_rfl))).trans (hR 14 (by decide) (hl 14 (by kernel_rfl)))
                have e131 : a.tmps.getD 131 undef = .pointer (some (ad.add i)) := (hv 24 131 rfl (hl 24 (by kernel_rfl))).trans (hR 24 (by decide) (hl 24 (by kernel_rfl)))
                have f131 := getD_get e131
                obtain ⟨ad1, ha1, cc⟩ := Kd.at_int (St.now (St.mem (t := Deeds (some ad) l) (by simp [Dt]) hS)) (i : Int) hi0 hil
                cases ha1
                rw [Int.toNat_natCast, HX.out] at cc
                exact value_ (v := .int .i64 x) (w1 := w) (wanted_yes (g := 14) (t := 121) rfl rfl eg rfl) rfl (by simp only [execOp, Act.eval, e131]; go_simp) (hK _ _ rfl hS)
              · intro l_ a w vs ts hv hu hl hR hS K hK
                have eg : a.tmps.getD 121 undef = .bool false := (hv 14 121 rfl (hl 14 (by kernel_rfl))).trans (hR 14 (by decide) (hl 14 (by kernel_rfl)))
                have e128 : a.tmps.getD 128 undef = .agg #[.int .i64 r, .slice A4 (keys s1).length c4, .slice A5 s1.freed.length c5, .slice A6 s1.gens.length c6] := (hv 21 128 rfl (hl 21 (by kernel_rfl))).trans (hR 21 (by decide) (hl 21 (by kernel_rfl)))
                have e132 : a.tmps.getD 132 undef = .int .i64 x := (hv 25 132 rfl (hl 25 (by kernel_rfl))).trans (hR 25 (by decide) (hl 25 (by kernel_rfl)))
                have f128 := getD_get e128
                have f132 := getD_get e132
                refine goes_ Try.func20 (by kernel_rfl) rfl #[.agg #[.int .i64 r, .slice A4 (keys s1).length c4, .slice A5 s1.freed.length c5, .slice A6 s1.gens.length c6], .int .i64 x] (wanted_yes (g := 14) (t := 121) rfl rfl eg rfl) rfl rfl (by simp [Act.eval, e128, e132]) ?_
                refine (doc_gen (copy3 hS (Q1 := Rd (Kd.int .i64) (.slice A4 (keys s1).length c4) (keys s1)) (Q2 := Rd (Kd.int .i64) (.slice A5 s1.freed.length c5) s1.freed) (Q3 := Rd (Kd.int .i64) (.slice A6 s1.gens.length c6) s1.gens) (by simp [Dt, rdT]) (by simp [Dt, rdT]) (by simp [Dt, rdT])) x HGN.out).mono ?_
                rintro e w' ⟨rfl, hb⟩
                exact ⟨_, rfl, hK _ _ rfl (hS.below hb)⟩
              · intro l_ a w vs ts hv hu hl hR hS K hK
                have eg : a.tmps.getD 121 undef = .bool false := (hv 14 121 rfl (hl 14 (by kernel_rfl))).trans (hR 14 (by decide) (hl 14 (by kernel_rfl)))
                have e127 : a.tmps.getD 127 undef = .int .i64 gn := (hv 20 127 rfl (hl 20 (by kernel_rfl))).trans (hR 20 (by decide) (hl 20 (by kernel_rfl)))
                have e133 : a.tmps.getD 133 undef = .int .i64 gn := (hv 26 133 rfl (hl 26 (by kernel_rfl))).trans (hR 26 (by decide) (hl 26 (by kernel_rfl)))
                have f127 := getD_get e127
                have f133 := getD_get e133
                exact value_ (v := .bool false) (w1 := w) (wanted_yes (g := 14) (t := 121) rfl rfl eg rfl) rfl (by simp only [execOp, Act.eval, e127, e133]; go_simp) (hK _ _ rfl hS)
              · intro l_ a w vs ts hv hu hl hR hS K hK
                have e121 : a.tmps.getD 121 undef = .bool false := (hv 14 121 rfl (hl 14 (by kernel_rfl))).trans (hR 14 (by decide) (hl 14 (by kernel_rfl)))
                have e134 : a.tmps.getD 134 undef = .bool false := (hv 27 134 rfl (hl 27 (by kernel_rfl))).trans (hR 27 (by decide) (hl 27 (by kernel_rfl)))
                have f121 := getD_get e121
                have f134 := getD_get e134
                exact value_ (v := .bool false) (w1 := w) rfl rfl (by simp only [execOp, Act.eval, e121, e134]; go_simp) (hK _ _ rfl hS)
              · intro l_ a w vs ts hv hu hl hR hS K hK
                have e135 : a.tmps.getD 135 undef = .bool false := (hv 28 135 rfl (hl 28 (by kernel_rfl))).trans (hR 28 (by decide) (hl 28 (by kernel_rfl)))
                have f135 := getD_get e135
                exact value_ (v := .bool false) (w1 := w) rfl rfl (by simp only [execOp, Act.eval, e135]; go_simp) (hK _ _ rfl hS)
              · intro l_ a w vs ts hv hu hl hR hS K hK
                have eg : a.tmps.getD 136 undef = .bool false := (hv 29 136 rfl (hl 29 (by kernel_rfl))).trans (hR 29 (by decide) (hl 29 (by kernel_rfl)))
                have e6 : a.tmps.getD 6 undef = .pointer (some ⟨p, 0, none⟩) := (hu 6 (no_dst (by kernel_rfl) l_)).trans rfl
                have f6 := getD_get e6
                exact value_ (v := .pointer (some ⟨p, 0, none⟩)) (w1 := w) (wanted_yes (g := 29) (t := 136) rfl rfl eg rfl) rfl (by simp only [execOp, Act.eval, e6]; go_simp) (hK _ _ rfl hS)
              · intro l_ a w vs ts hv hu hl hR hS K hK
                have eg : a.tmps.getD 136 undef = .bool false := (hv 29 136 rfl (hl 29 (by kernel_rfl))).trans (hR 29 (by decide) (hl 29 (by kernel_rfl)))
                have e137 : a.tmps.getD 137 undef = .pointer (some ⟨p, 0, none⟩) := (hv 30 137 rfl (hl 30 (by kernel_rfl))).trans (hR 30 (by decide) (hl 30 (by kernel_rfl)))
                have f137 := getD_get e137
                have ha := St.mem (t := arenaO p s1) (by simp [Dt]) hS
                refine goes_ Try.func15 (by kernel_rfl) rfl #[.pointer (some ⟨p, 0, none⟩)] (wanted_yes (g := 29) (t := 136) rfl rfl eg rfl) rfl rfl (by simp [Act.eval, e137]) ?_
                refine (count_o ha HKN.out).mono ?_
                rintro e w' ⟨rfl, rfl⟩
                exact ⟨_, rfl, hK _ _ rfl hS⟩
              · intro l_ a w vs ts hv hu hl hR hS K hK
                have eg : a.tmps.getD 136 undef = .bool false := (hv 29 136 rfl (hl 29 (by kernel_rfl))).trans (hR 29 (by decide) (hl 29 (by kernel_rfl)))
                have e8 : a.tmps.getD 8 undef = .pointer (some ⟨bx, 0, none⟩) := (hu 8 (no_dst (by kernel_rfl) l_)).trans rfl
                have f8 := getD_get e8
                exact value_ (v := .pointer (some ⟨bx, 1, none⟩)) (w1 := w) (wanted_yes (g := 29) (t := 136) rfl rfl eg rfl) rfl (by simp only [execOp, Act.eval, e8]; go_simp) (hK _ _ rfl hS)
              · intro l_ a w vs ts hv hu hl hR hS K hK
                have eg : a.tmps.getD 136 undef = .bool false := (hv 29 136 rfl (hl 29 (by kernel_rfl))).trans (hR 29 (by decide) (hl 29 (by kernel_rfl)))
                have e139 : a.tmps.getD 139 undef = .pointer (some ⟨bx, 1, none⟩) := (hv 32 139 rfl (hl 32 (by kernel_rfl))).trans (hR 32 (by decide) (hl 32 (by kernel_rfl)))
                have f139 := getD_get e139
                have cc := ((St.mem (t := boxT bx 37 #[.int .i64 r, .slice A4 (keys s1).length c4, .slice A5 s1.freed.length c5, .slice A6 s1.gens.length c6]) (by simp [Dt]) hS).box_cell 1 _ rfl).1
                exact value_ (v := .slice A4 (keys s1).length c4) (w1 := w) (wanted_yes (g := 29) (t := 136) rfl rfl eg rfl) rfl (by simp only [execOp, Act.eval, e139]; go_simp) (hK _ _ rfl hS)
              · intro l_ a w vs ts hv hu hl hR hS K hK
                have eg : a.tmps.getD 136 undef = .bool false := (hv 29 136 rfl (hl 29 (by kernel_rfl))).trans (hR 29 (by decide) (hl 29 (by kernel_rfl)))
                have e140 : a.tmps.getD 140 undef = .slice A4 (keys s1).length c4 := (hv 33 140 rfl (hl 33 (by kernel_rfl))).trans (hR 33 (by decide) (hl 33 (by kernel_rfl)))
                have f140 := getD_get e140
                exact value_ (v := .int .i64 ((keys s1).length : Int)) (w1 := w) (wanted_yes (g := 29) (t := 136) rfl rfl eg rfl) rfl (by simp only [execOp, Act.eval, e140]; go_simp) (hK _ _ rfl hS)
              · intro l_ a w vs ts hv hu hl hR hS K hK
                have eg : a.tmps.getD 136 undef = .bool false := (hv 29 136 rfl (hl 29 (by kernel_rfl))).trans (hR 29 (by decide) (hl 29 (by kernel_rfl)))
                have e138 : a.tmps.getD 138 undef = .int .i64 ((keys s1).length : Int) := (hv 31 138 rfl (hl 31 (by kernel_rfl))).trans (hR 31 (by decide) (hl 31 (by kernel_rfl)))
                have e141 : a.tmps.getD 141 undef = .int .i64 ((keys s1).length : Int) := (hv 34 141 rfl (hl 34 (by kernel_rfl))).trans (hR 34 (by decide) (hl 34 (by kernel_rfl)))
                have f138 := getD_get e138
                have f141 := getD_get e141
                exact value_ (v := .bool false) (w1 := w) (wanted_yes (g := 29) (t := 136) rfl rfl eg rfl) rfl (by simp only [execOp, Act.eval, e138, e141]; go_simp) (hK _ _ rfl hS)
              · intro l_ a w vs ts hv hu hl hR hS K hK
                have e136 : a.tmps.getD 136 undef = .bool false := (hv 29 136 rfl (hl 29 (by kernel_rfl))).trans (hR 29 (by decide) (hl 29 (by kernel_rfl)))
                have e142 : a.tmps.getD 142 undef = .bool false := (hv 35 142 rfl (hl 35 (by kernel_rfl))).trans (hR 35 (by decide) (hl 35 (by kernel_rfl)))
                have f136 := getD_get e136
                have f142 := getD_get e142
                exact value_ (v := .bool false) (w1 := w) rfl rfl (by simp only [execOp, Act.eval, e136, e142]; go_simp) (hK _ _ rfl hS)
              have k0 : vsg 0 = .pointer (some ⟨p, 0, none⟩) := hvt 0 (by decide)
              have k1 : vsg 1 = .slice (some ad) l.length c := hvt 1 (by decide)
              have k2 : vsg 2 = .int .i64 (i : Int) := hvt 2 (by decide)
              have k3 : vsg 3 = .pointer (some (ad.add i)) := hvt 3 (by decide)
              have k4 : vsg 4 = .int .i64 x := hvt 4 (by decide)
              have k5 : vsg 5 = .bool bl := hvt 5 (by decide)
              have k6 : vsg 6 = .pointer (some ⟨bx, 1, none⟩) := hvt 6 (by decide)
              have k7 : vsg 7 = .slice A4 (keys s1).length c4 := hvt 7 (by decide)
              have k8 : vsg 8 = .slice (some ad) l.length c := hvt 8 (by decide)
              have k9 : vsg 9 = .int .i64 (i : Int) := hvt 9 (by decide)
              have k10 : vsg 10 = .pointer (some (ad.add i)) := hvt 10 (by decide)
              have k11 : vsg 11 = .int .i64 x := hvt 11 (by decide)
              have k12 : vsg 12 = .bool bl := hvt 12 (by decide)
              have k13 : vsg 13 = .bool false := hvt 13 (by decide)
              have k14 : vsg 14 = .bool false := hvt 14 (by decide)
              have k15 : vsg 15 = .pointer (some ⟨p, 0, none⟩) := hvt 15 (by decide)
              have k16 : vsg 16 = .slice (some ad) l.length c := hvt 16 (by decide)
              have k17 : vsg 17 = .int .i64 (i : Int) := hvt 17 (by decide)
              have k18 : vsg 18 = .pointer (some (ad.add i)) := hvt 18 (by decide)
              have k19 : vsg 19 = .int .i64 x := hvt 19 (by decide)
              have k20 : vsg 20 = .int .i64 gn := hvt 20 (by decide)
              have k21 : vsg 21 = .agg #[.int .i64 r, .slice A4 (keys s1).length c4, .slice A5 s1.freed.length c5, .slice A6 s1.gens.length c6] := hvt 21 (by decide)
              have k22 : vsg 22 = .slice (some ad) l.length c := hvt 22 (by decide)
              have k23 : vsg 23 = .int .i64 (i : Int) := hvt 23 (by decide)
              have k24 : vsg 24 = .pointer (some (ad.add i)) := hvt 24 (by decide)
              have k25 : vsg 25 = .int .i64 x := hvt 25 (by decide)
              have k26 : vsg 26 = .int .i64 gn := hvt 26 (by decide)
              have k27 : vsg 27 = .bool false := hvt 27 (by decide)
              have k28 : vsg 28 = .bool false := hvt 28 (by decide)
              have k29 : vsg 29 = .bool false := hvt 29 (by decide)
              have k30 : vsg 30 = .pointer (some ⟨p, 0, none⟩) := hvt 30 (by decide)
              have k31 : vsg 31 = .int .i64 ((keys s1).length : Int) := hvt 31 (by decide)
              have k32 : vsg 32 = .pointer (some ⟨bx, 1, none⟩) := hvt 32 (by decide)
              have k33 : vsg 33 = .slice A4 (keys s1).length c4 := hvt 33 (by decide)
              have k34 : vsg 34 = .int .i64 ((keys s1).length : Int) := hvt 34 (by decide)
              have k35 : vsg 35 = .bool false := hvt 35 (by decide)
              have k36 : vsg 36 = .bool false := hvt 36 (by decide)
              replace HE : Own.St _ _ _ ((boxT bx 37 #[.int .i64 r, .slice A4 (keys s1).length c4, .slice A5 s1.freed.length c5, .slice A6 s1.gens.length c6] :: arenaO p s1 :: Dt (.slice A4 (keys s1).length c4) (.slice A5 s1.freed.length c5) (.slice A6 s1.gens.length c6) s1 (Deeds (some ad) l :: []))) wzg := HE
              simp only [putsL, List.toList_toArray, Act.put, List.setIfInBounds_toArray, List.set_cons_zero, List.set_cons_succ, Nat.reduceAdd]
              rw [k0, k1, k2, k3, k4, k5, k6, k7, k8, k9, k10, k11, k12, k13, k14, k15, k16, k17, k18, k19, k20, k21, k22, k23, k24, k25, k26, k27, k28, k29, k30, k31, k32, k33, k34, k35, k36]
              clear hvt k0 k1 k2 k3 k4 k5 k6 k7 k8 k9 k10 k11 k12 k13 k14 k15 k16 k17 k18 k19 k20 k21 k22 k23 k24 k25 k26 k27 k28 k29 k30 k31 k32 k33 k34 k35 k36
              have HE1 := Aside0.mk HE
              clear HE HS7
              go_wp2
              go_roundg k1
              case measure => have := HK.out; omega
              case rel => exact ⟨i + 1, s1, A4, c4, A5, c5, A6, c6, by first | rfl | go_num, ⟨by have := HK.out; omega, by have := HIN.out; omega, by have := HIN.out; omega⟩, HOk1, HE1⟩
            · have dx : (x == 0) = false := beq_eq_false_iff_ne.mpr hx0
              obtain ⟨bb, hbb⟩ : ∃ bb, has s.live x = bb := ⟨_, rfl⟩
              have HBF := Aside0.mk hbb
              clear hx0 hbb
              have HFL := Aside0.mk (HOk.out.freed_len HR.out.2)
              go_wp2_with (first | (go_at_call 12; (with_reducible refine (free_o HS.out.swap x HBF.out rfl HFL.out).mono ?_); rintro e w5 ⟨rfl, hS⟩; have HS6 := Aside0.mk hS.swap; clear hS HS cc))
              refine region_plan (ts0 := (boxT bx 37 #[.int .i64 r, .slice A1 (keys s).length c1, .slice A2 s.freed.length c2, .slice A3 s.gens.length c3] :: arenaO p (freeS s x) :: Dt (.slice A1 (keys s).length c1) (.slice A2 s.freed.length c2) (.slice A3 s.gens.length c3) s (Deeds (some ad) l :: []))) (fun j_ => match j_ with | 6 => [5] | 7 => [5] | 8 => [5] | 10 => [9, 5] | 11 => [5] | _ => []) (fun j_ => match j_ with | 10 => [9] | _ => []) (fun j_ v_ l_ => match j_ with | 0 => v_ = .agg #[.int .i64 r, .slice A1 (keys s).length c1, .slice A2 s.freed.length c2, .slice A3 s.gens.length c3] | 1 => v_ = .slice (some ad) l.length c | 2 => v_ = .int .i64 (i : Int) | 3 => v_ = .pointer (some (ad.add i)) | 4 => v_ = .int .i64 x | 5 => (fun (v_ : Value) (l_ : List Value) => ∃ D1 m1 d1 D2 m2 d2 D3 m3 d3, v_ = .tuple #[.agg #[.int .i64 r, .slice D1 m1 d1, .slice D2 m2 d2, .slice D3 m3 d3], .bool bb]) v_ l_ | 6 => ∃ x0, l_ = [x0] ∧ v_ = (fun x => x) (x0) | 7 => ∃ x0, l_ = [x0] ∧ v_ = (fun x => tupAt ((fun x => x) x) 0) (x0) | 8 => ∃ x0, l_ = [x0] ∧ v_ = (fun x => tupAt ((fun x => x) x) 1) (x0) | 10 => (fun (v : Value) (l : List Value) => ∃ p x, l = [p, x] ∧ v = .tuple #[p, tupAt x 0]) v_ l_ | 11 => ∃ x0, l_ = [x0] ∧ v_ = (fun x => tupAt ((fun x => x) x) 1) (x0) | _ => True) (fun j_ v_ => match j_ with | 5 => (fun v => [docT v r (freeS s x) bb]) v_ | 9 => (fun v => [ptrT v 37 #[.int .i64 0, .slice none 0 0, .slice none 0 0, .slice none 0 0]]) v_ | 10 => (fun v => [ghostT v 37]) v_ | _ => []) [5, 10] [] (fun _ => []) rfl (by kernel_rfl) (by kernel_rfl) (by kernel_rfl) (by kernel_rfl) (by kernel_rfl) (by kernel_rfl) HS6.out ⟨?_, ?_, ?_, ?_, ?_, ?_, ?_, ?_, ?_, ?_, ?_, ?_, trivial⟩ (fun vsf wzf hvs HE => ?_)
              · intro l_ a w vs ts hv hu hl hR hS K hK
                have e8 : a.tmps.getD 8 undef = .pointer (some ⟨bx, 0, none⟩) := (hu 8 (no_dst (by kernel_rfl) l_)).trans rfl
                have f8 := getD_get e8
                have hbx := St.mem (t := boxT bx 37 #[.int .i64 r, .slice A1 (keys s).length c1, .slice A2 s.freed.length c2, .slice A3 s.gens.length c3]) (by simp [Dt]) hS
                have c0_ := (hbx.box_cell 0 _ rfl).1
                have c1_ := (hbx.box_cell 1 _ rfl).1
                have c2_ := (hbx.box_cell 2 _ rfl).1
                have c3_ := (hbx.box_cell 3 _ rfl).1
                exact value_ (v := .agg #[.int .i64 r, .slice A1 (keys s).length c1, .slice A2 s.freed.length c2, .slice A3 s.gens.length c3]) (w1 := w) rfl rfl (by simp only [execOp, Act.eval, e8]; go_simp) (hK _ _ rfl hS)
              · intro l_ a w vs ts hv hu hl hR hS K hK
                have e1 : a.tmps.getD 1 undef = .slice (some ad) l.length c := (hu 1 (no_dst (by kernel_rfl) l_)).trans rfl
                have f1 := getD_get e1
                exact value_ (v := .slice (some ad) l.length c) (w1 := w) rfl rfl (by simp only [execOp, Act.eval, e1]; go_simp) (hK _ _ rfl hS)
              · intro l_ a w vs ts hv hu hl hR hS K hK
                have e10 : a.tmps.getD 10 undef = .int .i64 (i : Int) := (hu 10 (no_dst (by kernel_rfl) l_)).trans rfl
                have f10 := getD_get e10
                exact value_ (v := .int .i64 (i : Int)) (w1 := w) rfl rfl (by simp only [execOp, Act.eval, e10]; go_simp) (hK _ _ rfl hS)
              · intro l_ a w vs ts hv hu hl hR hS K hK
                have e96 : a.tmps.getD 96 undef = .slice (some ad) l.length c := (hv 1 96 rfl (hl 1 (by kernel_rfl))).trans (hR 1 (by decide) (hl 1 (by kernel_rfl)))
                have e97 : a.tmps.getD 97 undef = .int .i64 (i : Int) := (hv 2 97 rfl (hl 2 (by kernel_rfl))).trans (hR 2 (by decide) (hl 2 (by kernel_rfl)))
                have f96 := getD_get e96
                have f97 := getD_get e97
                exact value_ (v := .pointer (some (ad.add i))) (w1 := w) rfl rfl (by simp only [execOp, Act.eval, e96, e97]; go_simp) (hK _ _ rfl hS)
              · intro l_ a w vs ts hv hu hl hR hS K hK
                have e98 : a.tmps.getD 98 undef = .pointer (some (ad.add i)) := (hv 3 98 rfl (hl 3 (by kernel_rfl))).trans (hR 3 (by decide) (hl 3 (by kernel_rfl)))
                have f98 := getD_get e98
                obtain ⟨ad1, ha1, cc⟩ := Kd.at_int (St.now (St.mem (t := Deeds (some ad) l) (by simp [Dt]) hS)) (i : Int) hi0 hil
                cases ha1
                rw [Int.toNat_natCast, HX.out] at cc
                exact value_ (v := .int .i64 x) (w1 := w) rfl rfl (by simp only [execOp, Act.eval, e98]; go_simp) (hK _ _ rfl hS)
              · intro l_ a w vs ts hv hu hl hR hS K hK
                have e95 : a.tmps.getD 95 undef = .agg #[.int .i64 r, .slice A1 (keys s).length c1, .slice A2 s.freed.length c2, .slice A3 s.gens.length c3] := (hv 0 95 rfl (hl 0 (by kernel_rfl))).trans (hR 0 (by decide) (hl 0 (by kernel_rfl)))
                have e99 : a.tmps.getD 99 undef = .int .i64 x := (hv 4 99 rfl (hl 4 (by kernel_rfl))).trans (hR 4 (by decide) (hl 4 (by kernel_rfl)))
                have f95 := getD_get e95
                have f99 := getD_get e99
                refine goes_ Try.func18 (by kernel_rfl) rfl #[.agg #[.int .i64 r, .slice A1 (keys s).length c1, .slice A2 s.freed.length c2, .slice A3 s.gens.length c3], .int .i64 x] rfl rfl rfl (by simp [Act.eval, e95, e99]) ?_
                refine (doc_free_any (copy3 hS (Q1 := Rd (Kd.int .i64) (.slice A1 (keys s).length c1) (keys s)) (Q2 := Rd (Kd.int .i64) (.slice A2 s.freed.length c2) s.freed) (Q3 := Rd (Kd.int .i64) (.slice A3 s.gens.length c3) s.gens) (by simp [Dt, rdT]) (by simp [Dt, rdT]) (by simp [Dt, rdT])) HOk.out HR.out.2 x HRm.out HBF.out).mono ?_
                rintro e w' ⟨v1, v2, v3, rfl, hS1⟩
                exact ⟨_, rfl, hK _ _ (dt_slices hS1) (docT_mk hS1)⟩
              · intro l_ a w vs ts hv hu hl hR hS K hK
                have e100 : a.tmps.getD 100 undef = vs 5 := hv 5 100 rfl (hl 5 (by kernel_rfl))
                obtain ⟨D15, m15, d15, D25, m25, d25, D35, m35, d35, q5⟩ := hR 5 (by decide) (hl 5 (by kernel_rfl))
                rw [q5] at e100
                have f100 := getD_get e100
                exact value_ (v := (fun x => x) (.tuple #[.agg #[.int .i64 r, .slice D15 m15 d15, .slice D25 m25 d25, .slice D35 m35 d35], .bool bb])) (w1 := w) rfl rfl (by simp only [execOp, Act.eval, e100]; go_simp; try rfl) (hK _ _ ⟨_, rfl, by rw [q5]⟩ hS)
              · intro l_ a w vs ts hv hu hl hR hS K hK
                have e94 : a.tmps.getD 94 undef = (fun x => x) (vs 5) := (hv 6 94 rfl (hl 6 (by kernel_rfl))).trans (by obtain ⟨x0, h1, h2⟩ := hR 6 (by decide) (hl 6 (by kernel_rfl)); cases h1; exact h2)
                obtain ⟨D15, m15, d15, D25, m25, d25, D35, m35, d35, q5⟩ := hR 5 (by decide) (hl 5 (by kernel_rfl))
                rw [q5] at e94
                try dsimp only [tupAt_tuple0, tupAt_tuple1, tupAt_tuple2, tupAt_tuple3] at e94
                have f94 := getD_get e94
                exact value_ (v := (fun x => tupAt ((fun x => x) x) 0) (.tuple #[.agg #[.int .i64 r, .slice D15 m15 d15, .slice D25 m25 d25, .slice D35 m35 d35], .bool bb])) (w1 := w) rfl rfl (by simp only [execOp, Act.eval, e94]; go_simp; try rfl) (hK _ _ ⟨_, rfl, by rw [q5]⟩ hS)
              · intro l_ a w vs ts hv hu hl hR hS K hK
                have e94 : a.tmps.getD 94 undef = (fun x => x) (vs 5) := (hv 6 94 rfl (hl 6 (by kernel_rfl))).trans (by obtain ⟨x0, h1, h2⟩ := hR 6 (by decide) (hl 6 (by kernel_rfl)); cases h1; exact h2)
                obtain ⟨D15, m15, d15, D25, m25, d25, D35, m35, d35, q5⟩ := hR 5 (by decide) (hl 5 (by kernel_rfl))
                rw [q5] at e94
                try dsimp only [tupAt_tuple0, tupAt_tuple1, tupAt_tuple2, tupAt_tuple3] at e94
                have f94 := getD_get e94
                exact value_ (v := (fun x => tupAt ((fun x => x) x) 1) (.tuple #[.agg #[.int .i64 r, .slice D15 m15 d15, .slice D25 m25 d25, .slice D35 m35 d35], .bool bb])) (w1 := w) rfl rfl (by simp only [execOp, Act.eval, e94]; go_simp; try rfl) (hK _ _ ⟨_, rfl, by rw [q5]⟩ hS)
              · intro l_ a w vs ts hv hu hl hR hS K hK
                exact St.alloc_step 37 rfl (by simp only [execOp, Act.eval]; go_simp) hS (fun v1 w1 h1 => hK _ _ trivial h1)
              · intro l_ a w vs ts hv hu hl hR hS K hK
                have e19 : a.tmps.getD 19 undef = vs 9 := hv 9 19 rfl (hl 9 (by kernel_rfl))
                have e101 : a.tmps.getD 101 undef = (fun x => tupAt ((fun x => x) x) 0) (vs 5) := (hv 7 101 rfl (hl 7 (by kernel_rfl))).trans (by obtain ⟨x0, h1, h2⟩ := hR 7 (by decide) (hl 7 (by kernel_rfl)); cases h1; exact h2)
                have f19 := getD_get e19
                try dsimp only [tupAt_tuple0, tupAt_tuple1, tupAt_tuple2, tupAt_tuple3] at e101
                have f101 := getD_get e101
                obtain ⟨D1, m1, d1, D2, m2, d2, D3, m3, d3, q5⟩ := hR 5 (by decide) (hl 5 (by kernel_rfl))
                rw [q5] at e101
                simp only [tupAt_tuple0] at e101
                refine St.set_step (cells := #[.int .i64 0, .slice none 0 0, .slice none 0 0, .slice none 0 0]) rfl 37 (.tmp 19) (.tmp 101) rfl rfl e19 e101 size37 rfl (by intro c hc; simp [Value.cells] at hc; rcases hc with rfl | rfl | rfl | rfl <;> rfl) hS (fun w1 h1 => ?_)
                exact hK (.tuple #[vs 9, tupAt (vs 5) 0]) w1 ⟨_, _, rfl, rfl⟩ (by rw [q5]; exact St.ghost h1)
              · intro l_ a w vs ts hv hu hl hR hS K hK
                have e102 : a.tmps.getD 102 undef = (fun x => tupAt ((fun x => x) x) 1) (vs 5) := (hv 8 102 rfl (hl 8 (by kernel_rfl))).trans (by obtain ⟨x0, h1, h2⟩ := hR 8 (by decide) (hl 8 (by kernel_rfl)); cases h1; exact h2)
                obtain ⟨D15, m15, d15, D25, m25, d25, D35, m35, d35, q5⟩ := hR 5 (by decide) (hl 5 (by kernel_rfl))
                rw [q5] at e102
                try dsimp only [tupAt_tuple0, tupAt_tuple1, tupAt_tuple2, tupAt_tuple3] at e102
                have f102 := getD_get e102
                exact value_ (v := (fun x => tupAt ((fun x => x) x) 1) (.tuple #[.agg #[.int .i64 r, .slice D15 m15 d15, .slice D25 m25 d25, .slice D35 m35 d35], .bool bb])) (w1 := w) rfl rfl (by simp only [execOp, Act.eval, e102]; go_simp; try rfl) (hK _ _ ⟨_, rfl, by rw [q5]⟩ hS)
              have k0 : vsf 0 = .agg #[.int .i64 r, .slice A1 (keys s).length c1, .slice A2 s.freed.length c2, .slice A3 s.gens.length c3] := hvs 0 (by decide)
              have k1 : vsf 1 = .slice (some ad) l.length c := hvs 1 (by decide)
              have k2 : vsf 2 = .int .i64 (i : Int) := hvs 2 (by decide)
              have k3 : vsf 3 = .pointer (some (ad.add i)) := hvs 3 (by decide)
              have k4 : vsf 4 = .int .i64 x := hvs 4 (by decide)
              have k5 : (fun (v_ : Value) (l_ : List Value) => ∃ D1 m1 d1 D2 m2 d2 D3 m3 d3, v_ = .tuple #[.agg #[.int .i64 r, .slice D1 m1 d1, .slice D2 m2 d2, .slice D3 m3 d3], .bool bb]) (vsf 5) ([] : List Value) := hvs 5 (by decide)
              have k6 : vsf 6 = (fun x => x) (vsf 5) := by obtain ⟨x0, h1, h2⟩ := hvs 6 (by decide); cases h1; exact h2
              have k7 : vsf 7 = (fun x => tupAt ((fun x => x) x) 0) (vsf 5) := by obtain ⟨x0, h1, h2⟩ := hvs 7 (by decide); cases h1; exact h2
              have k8 : vsf 8 = (fun x => tupAt ((fun x => x) x) 1) (vsf 5) := by obtain ⟨x0, h1, h2⟩ := hvs 8 (by decide); cases h1; exact h2
              have k10 : (fun (v : Value) (l : List Value) => ∃ p x, l = [p, x] ∧ v = .tuple #[p, tupAt x 0]) (vsf 10) ([vsf 9, vsf 5] : List Value) := hvs 10 (by decide)
              have k11 : vsf 11 = (fun x => tupAt ((fun x => x) x) 1) (vsf 5) := by obtain ⟨x0, h1, h2⟩ := hvs 11 (by decide); cases h1; exact h2
              replace HE : Own.St _ _ _ ([docT (vsf 5) r (freeS s x) bb] ++ [ghostT (vsf 10) 37] ++ (boxT bx 37 #[.int .i64 r, .slice A1 (keys s).length c1, .slice A2 s.freed.length c2, .slice A3 s.gens.length c3] :: arenaO p (freeS s x) :: Dt (.slice A1 (keys s).length c1) (.slice A2 s.freed.length c2) (.slice A3 s.gens.length c3) s (Deeds (some ad) l :: []))) wzf := HE
              simp only [putsL, List.toList_toArray, Act.put, List.setIfInBounds_toArray, List.set_cons_zero, List.set_cons_succ, Nat.reduceAdd]
              rw [k0, k1, k2, k3, k4, k6, k7, k8, k11]
              clear hvs k0 k1 k2 k3 k4
              generalize vsf 5 = zf5 at *
              generalize vsf 9 = zf9 at *
              generalize vsf 10 = zf10 at *
              obtain ⟨D1, m1, d1, D2, m2, d2, D3, m3, d3, rfl⟩ := k5
              obtain ⟨p0, x0, h1, h2⟩ := k10
              cases h1
              subst h2
              simp only [tupAt_tuple0] at HE
              have HE1 := (St.pick (ts1 := [_]) HE).ghost_open
              obtain ⟨b9, rfl, HE2⟩ := HE1.ptr_open
              have HE3 := docT_open HE2.swap
              obtain ⟨h1, -, -⟩ := HE3.rd_C
              obtain ⟨h2, -, -⟩ := (St.pick (ts1 := [_]) HE3).rd_C
              obtain ⟨h3, -, -⟩ := (St.pick (ts1 := [_, _]) HE3).rd_C
              subst h1 h2 h3
              have HE4 := St.pick (ts1 := [_, _, _]) HE3
              have HE5 := St.pick (ts1 := [_, _, _, _]) HE3
              obtain ⟨⟨b0, b1, b2, b3⟩, -, -⟩ := cells4 HE4
              obtain ⟨⟨e0, e1, e2, e3⟩, ⟨g0, g1, g2, g3⟩, g4⟩ := cells4 HE5
              have HS7a := Aside0.mk HE5
              clear HE HE1 HE2 HE3 HE4 HE5 HS6 k6 k7 k8 k11 HBF HFL
              simp only [tupAt_tuple0, tupAt_tuple1]
              go_wp2
              have HS7 := Aside0.mk (free_fix (put4 (b0 := .int .i64 r) (b1 := .slice D1 (keys (freeS s x)).length d1) (b2 := .slice D2 (freeS s x).freed.length d2) (b3 := .slice D3 (freeS s x).gens.length d3) HS7a.out))
              have HOk1 := Aside0.mk (show Ok r (freeS s x) ((i + 1 : Nat) : Int) from HOk.out.nextFree x)
              clear HS7a b0 b1 b2 b3 e0 e1 e2 e3 g0 g1 g2 g3 g4 HOk HRm
              generalize freeS s x = s1 at HS7 HOk1 ⊢
              obtain ⟨A4, hA4⟩ : ∃ A, A = D1 := ⟨_, rfl⟩
              obtain ⟨A5, hA5⟩ : ∃ A, A = D2 := ⟨_, rfl⟩
              obtain ⟨A6, hA6⟩ : ∃ A, A = D3 := ⟨_, rfl⟩
              obtain ⟨c4, hc4⟩ : ∃ A, A = d1 := ⟨_, rfl⟩
              obtain ⟨c5, hc5⟩ : ∃ A, A = d2 := ⟨_, rfl⟩
              obtain ⟨c6, hc6⟩ : ∃ A, A = d3 := ⟨_, rfl⟩
              subst hA4 hA5 hA6 hc4 hc5 hc6
              obtain ⟨bl, hbl⟩ : ∃ bl, has s1.live x = bl := ⟨_, rfl⟩
              obtain ⟨gn, hgn⟩ : ∃ gn, genOf s1 x = gn := ⟨_, rfl⟩
              have HBL := Aside0.mk hbl
              have HGN := Aside0.mk hgn
              have HKN := Aside0.mk (show (s1.live.length : Int) = ((keys s1).length : Int) by simp [keys])
              have HKL := Aside0.mk (show (keys s1).length ≤ 100000 by have h1 := HOk1.out.many; have h2 := HOk1.out.ever; have h3 := HR.out; simp [keys]; omega)
              clear hbl hgn
              refine region_plan (ts0 := (boxT bx 37 #[.int .i64 r, .slice A4 (keys s1).length c4, .slice A5 s1.freed.length c5, .slice A6 s1.gens.length c6] :: arenaO p s1 :: Dt (.slice A4 (keys s1).length c4) (.slice A5 s1.freed.length c5) (.slice A6 s1.gens.length c6) s1 (Deeds (some ad) l :: []))) (fun _ => []) (fun _ => []) (fun j_ v_ l_ => match j_ with | 0 => v_ = .pointer (some ⟨p, 0, none⟩) | 1 => v_ = .slice (some ad) l.length c | 2 => v_ = .int .i64 (i : Int) | 3 => v_ = .pointer (some (ad.add i)) | 4 => v_ = .int .i64 x | 5 => (fun (v_ : Value) (l_ : List Value) => v_ = .bool bl) v_ l_ | 6 => v_ = .pointer (some ⟨bx, 1, none⟩) | 7 => v_ = .slice A4 (keys s1).length c4 | 8 => v_ = .slice (some ad) l.length c | 9 => v_ = .int .i64 (i : Int) | 10 => v_ = .pointer (some (ad.add i)) | 11 => v_ = .int .i64 x | 12 => (fun (v_ : Value) (l_ : List Value) => v_ = .bool bl) v_ l_ | 13 => v_ = .bool false | 14 => v_ = .bool false | 15 => v_ = .pointer (some ⟨p, 0, none⟩) | 16 => v_ = .slice (some ad) l.length c | 17 => v_ = .int .i64 (i : Int) | 18 => v_ = .pointer (some (ad.add i)) | 19 => v_ = .int .i64 x | 20 => (fun (v_ : Value) (l_ : List Value) => v_ = .int .i64 gn) v_ l_ | 21 => v_ = .agg #[.int .i64 r, .slice A4 (keys s1).length c4, .slice A5 s1.freed.length c5, .slice A6 s1.gens.length c6] | 22 => v_ = .slice (some ad) l.length c | 23 => v_ = .int .i64 (i : Int) | 24 => v_ = .pointer (some (ad.add i)) | 25 => v_ = .int .i64 x | 26 => (fun (v_ : Value) (l_ : List Value) => v_ = .int .i64 gn) v_ l_ | 27 => v_ = .bool false | 28 => v_ = .bool false | 29 => v_ = .bool false | 30 => v_ = .pointer (some ⟨p, 0, none⟩) | 31 => (fun (v_ : Value) (l_ : List Value) => v_ = .int .i64 ((keys s1).length : Int)) v_ l_ | 32 => v_ = .pointer (some ⟨bx, 1, none⟩) | 33 => v_ = .slice A4 (keys s1).length c4 | 34 => v_ = .int .i64 ((keys s1).length : Int) | 35 => v_ = .bool false | 36 => v_ = .bool false | _ => True) (fun _ _ => []) [] [] (fun _ => []) rfl (by kernel_rfl) (by kernel_rfl) (by kernel_rfl) (by kernel_rfl) (by kernel_rfl) (by kernel_rfl) HS7.out ⟨?_, ?_, ?_, ?_, ?_, ?_, ?_, ?_, ?_, ?_, ?_, ?_, ?_, ?_, ?_, ?_, ?_, ?_, ?_, ?_, ?_, ?_, ?_, ?_, ?_, ?_, ?_, ?_, ?_, ?_, ?_, ?_, ?_, ?_, ?_, ?_, ?_, trivial⟩ (fun vsg wzg hvt HE => ?_)
              · intro l_ a w vs ts hv hu hl hR hS K hK
                have e6 : a.tmps.getD 6 undef = .pointer (some ⟨p, 0, none⟩) := (hu 6 (no_dst (by kernel_rfl) l_)).trans rfl
                have f6 := getD_get e6
                exact value_ (v := .pointer (some ⟨p, 0, none⟩)) (w1 := w) rfl rfl (by simp only [execOp, Act.eval, e6]; go_simp) (hK _ _ rfl hS)
              · intro l_ a w vs ts hv hu hl hR hS K hK
                have e1 : a.tmps.getD 1 undef = .slice (some ad) l.length c := (hu 1 (no_dst (by kernel_rfl) l_)).trans rfl
                have f1 := getD_get e1
                exact value_ (v := .slice (some ad) l.length c) (w1 := w) rfl rfl (by simp only [execOp, Act.eval, e1]; go_simp) (hK _ _ rfl hS)
              · intro l_ a w vs ts hv hu hl hR hS K hK
                have e10 : a.tmps.getD 10 undef = .int .i64 (i : Int) := (hu 10 (no_dst (by kernel_rfl) l_)).trans rfl
                have f10 := getD_get e10
                exact value_ (v := .int .i64 (i : Int)) (w1 := w) rfl rfl (by simp only [execOp, Act.eval, e10]; go_simp) (hK _ _ rfl hS)
              · intro l_ a w vs ts hv hu hl hR hS K hK
                have e108 : a.tmps.getD 108 undef = .slice (some ad) l.length c := (hv 1 108 rfl (hl 1 (by kernel_rfl))).trans (hR 1 (by decide) (hl 1 (by kernel_rfl)))
                have e109 : a.tmps.getD 109 undef = .int .i64 (i : Int) := (hv 2 109 rfl (hl 2 (by kernel_rfl))).trans (hR 2 (by decide) (hl 2 (by kernel_rfl)))
                have f108 := getD_get e108
                have f109 := getD_get e109
                exact value_ (v := .pointer (some (ad.add i))) (w1 := w) rfl rfl (by simp only [execOp, Act.eval, e108, e109]; go_simp) (hK _ _ rfl hS)
              · intro l_ a w vs ts hv hu hl hR hS K hK
                have e110 : a.tmps.getD 110 undef = .pointer (some (ad.add i)) := (hv 3 110 rfl (hl 3 (by kernel_rfl))).trans (hR 3 (by decide) (hl 3 (by kernel_rfl)))
                have f110 := getD_get e110
                obtain ⟨ad1, ha1, cc⟩ := Kd.at_int (St.now (St.mem (t := Deeds (some ad) l) (by simp [Dt]) hS)) (i : Int) hi0 hil
                cases ha1
                rw [Int.toNat_natCast, HX.out] at cc
                exact value_ (v := .int .i64 x) (w1 := w) rfl rfl (by simp only [execOp, Act.eval, e110]; go_simp) (hK _ _ rfl hS)
              · intro l_ a w vs ts hv hu hl hR hS K hK
                have e107 : a.tmps.getD 107 undef = .pointer (some ⟨p, 0, none⟩) := (hv 0 107 rfl (hl 0 (by kernel_rfl))).trans (hR 0 (by decide) (hl 0 (by kernel_rfl)))
                have e111 : a.tmps.getD 111 undef = .int .i64 x := (hv 4 111 rfl (hl 4 (by kernel_rfl))).trans (hR 4 (by decide) (hl 4 (by kernel_rfl)))
                have f107 := getD_get e107
                have f111 := getD_get e111
                have ha := St.mem (t := arenaO p s1) (by simp [Dt]) hS
                refine goes_ Try.func14 (by kernel_rfl) rfl #[.pointer (some ⟨p, 0, none⟩), .int .i64 x] rfl rfl rfl (by simp [Act.eval, e107, e111]) ?_
                refine (live_o ha x HBL.out).mono ?_
                rintro e w' ⟨rfl, rfl⟩
                exact ⟨_, rfl, hK _ _ rfl hS⟩
              · intro l_ a w vs ts hv hu hl hR hS K hK
                have e8 : a.tmps.getD 8 undef = .pointer (some ⟨bx, 0, none⟩) := (hu 8 (no_dst (by kernel_rfl) l_)).trans rfl
                have f8 := getD_get e8
                exact value_ (v := .pointer (some ⟨bx, 1, none⟩)) (w1 := w) rfl rfl (by simp only [execOp, Act.eval, e8]; go_simp) (hK _ _ rfl hS)
              · intro l_ a w vs ts hv hu hl hR hS K hK
                have e113 : a.tmps.getD 113 undef = .pointer (some ⟨bx, 1, none⟩) := (hv 6 113 rfl (hl 6 (by kernel_rfl))).trans (hR 6 (by decide) (hl 6 (by kernel_rfl)))
                have f113 := getD_get e113
                have cc := ((St.mem (t := boxT bx 37 #[.int .i64 r, .slice A4 (keys s1).length c4, .slice A5 s1.freed.length c5, .slice A6 s1.gens.length c6]) (by simp [Dt]) hS).box_cell 1 _ rfl).1
                exact value_ (v := .slice A4 (keys s1).length c4) (w1 := w) rfl rfl (by simp only [execOp, Act.eval, e113]; go_simp) (hK _ _ rfl hS)
              · intro l_ a w vs ts hv hu hl hR hS K hK
                have e1 : a.tmps.getD 1 undef = .slice (some ad) l.length c := (hu 1 (no_dst (by kernel_rfl) l_)).trans rfl
                have f1 := getD_get e1
                exact value_ (v := .slice (some ad) l.length c) (w1 := w) rfl rfl (by simp only [execOp, Act.eval, e1]; go_simp) (hK _ _ rfl hS)
              · intro l_ a w vs ts hv hu hl hR hS K hK
                have e10 : a.tmps.getD 10 undef = .int .i64 (i : Int) := (hu 10 (no_dst (by kernel_rfl) l_)).trans rfl
                have f10 := getD_get e10
                exact value_ (v := .int .i64 (i : Int)) (w1 := w) rfl rfl (by simp only [execOp, Act.eval, e10]; go_simp) (hK _ _ rfl hS)
              · intro l_ a w vs ts hv hu hl hR hS K hK
                have e115 : a.tmps.getD 115 undef = .slice (some ad) l.length c := (hv 8 115 rfl (hl 8 (by kernel_rfl))).trans (hR 8 (by decide) (hl 8 (by kernel_rfl)))
                have e116 : a.tmps.getD 116 undef = .int .i64 (i : Int) := (hv 9 116 rfl (hl 9 (by kernel_rfl))).trans (hR 9 (by decide) (hl 9 (by kernel_rfl)))
                have f115 := getD_get e115
                have f116 := getD_get e116
                exact value_ (v := .pointer (some (ad.add i))) (w1 := w) rfl rfl (by simp only [execOp, Act.eval, e115, e116]; go_simp) (hK _ _ rfl hS)
              · intro l_ a w vs ts hv hu hl hR hS K hK
                have e117 : a.tmps.getD 117 undef = .pointer (some (ad.add i)) := (hv 10 117 rfl (hl 10 (by kernel_rfl))).trans (hR 10 (by decide) (hl 10 (by kernel_rfl)))
                have f117 := getD_get e117
                obtain ⟨ad1, ha1, cc⟩ := Kd.at_int (St.now (St.mem (t := Deeds (some ad) l) (by simp [Dt]) hS)) (i : Int) hi0 hil
                cases ha1
                rw [Int.toNat_natCast, HX.out] at cc
                exact value_ (v := .int .i64 x) (w1 := w) rfl rfl (by simp only [execOp, Act.eval, e117]; go_simp) (hK _ _ rfl hS)
              · intro l_ a w vs ts hv hu hl hR hS K hK
                have e114 : a.tmps.getD 114 undef = .slice A4 (keys s1).length c4 := (hv 7 114 rfl (hl 7 (by kernel_rfl))).trans (hR 7 (by decide) (hl 7 (by kernel_rfl)))
                have e118 : a.tmps.getD 118 undef = .int .i64 x := (hv 11 118 rfl (hl 11 (by kernel_rfl))).trans (hR 11 (by decide) (hl 11 (by kernel_rfl)))
                have f114 := getD_get e114
                have f118 := getD_get e118
                have hr1 := (St.mem (t := rdT (Kd.int .i64) (.slice A4 (keys s1).length c4) (keys s1)) (by simp [Dt]) hS).rd_C
                have hin := in_calls (keys s1) x HKL.out w hr1.2.2 hr1.2.1
                rw [← has_mem, HBL.out] at hin
                refine goes_ Try.func13 (by kernel_rfl) rfl #[.slice A4 (keys s1).length c4, .int .i64 x] rfl rfl rfl (by simp [Act.eval, e114, e118]) ?_
                refine hin.mono ?_
                rintro e w' ⟨rfl, hd⟩
                exact ⟨_, rfl, hK _ _ rfl (hS.drawn hd)⟩
              · intro l_ a w vs ts hv hu hl hR hS K hK
                have e112 : a.tmps.getD 112 undef = .bool bl := (hv 5 112 rfl (hl 5 (by kernel_rfl))).trans (hR 5 (by decide) (hl 5 (by kernel_rfl)))
                have e119 : a.tmps.getD 119 undef = .bool bl := (hv 12 119 rfl (hl 12 (by kernel_rfl))).trans (hR 12 (by decide) (hl 12 (by kernel_rfl)))
                have f112 := getD_get e112
                have f119 := getD_get e119
                exact value_ (v := .bool false) (w1 := w) rfl rfl (by simp only [execOp, Act.eval, e112, e119]; go_simp) (hK _ _ rfl hS)
              · intro l_ a w vs ts hv hu hl hR hS K hK
                have e120 : a.tmps.getD 120 undef = .bool false := (hv 13 120 rfl (hl 13 (by kernel_rfl))).trans (hR 13 (by decide) (hl 13 (by kernel_rfl)))
                have f120 := getD_get e120
                exact value_ (v := .bool false) (w1 := w) rfl rfl (by simp only [execOp, Act.eval, e120]; go_simp) (hK _ _ rfl hS)
              · intro l_ a w vs ts hv hu hl hR hS K hK
                have eg : a.tmps.getD 121 undef = .bool false := (hv 14 121 rfl (hl 14 (by kernel_rfl))).trans (hR 14 (by decide) (hl 14 (by kernel_rfl)))
                have e6 : a.tmps.getD 6 undef = .pointer (some ⟨p, 0, none⟩) := (hu 6 (no_dst (by kernel_rfl) l_)).trans rfl
                have f6 := getD_get e6
                exact value_ (v := .pointer (some ⟨p, 0, none⟩)) (w1 := w) (wanted_yes (g := 14) (t := 121) rfl rfl eg rfl) rfl (by simp only [execOp, Act.eval, e6]; go_simp) (hK _ _ rfl hS)
              · intro l_ a w vs ts hv hu hl hR hS K hK
                have eg : a.tmps.getD 121 undef = .bool false := (hv 14 121 rfl (hl 14 (by kernel_rfl))).trans (hR 14 (by decide) (hl 14 (by kernel_rfl)))
                have e1 : a.tmps.getD 1 undef = .slice (some ad) l.length c := (hu 1 (no_dst (by kernel_rfl) l_)).trans rfl
                have f1 := getD_get e1
                exact value_ (v := .slice (some ad) l.length c) (w1 := w) (wanted_yes (g := 14) (t := 121) rfl rfl eg rfl) rfl (by simp only [execOp, Act.eval, e1]; go_simp) (hK _ _ rfl hS)
              · intro l_ a w vs ts hv hu hl hR hS K hK
                have eg : a.tmps.getD 121 undef = .bool false := (hv 14 121 rfl (hl 14 (by kernel_rfl))).trans (hR 14 (by decide) (hl 14 (by kernel_rfl)))
                have e10 : a.tmps.getD 10 undef = .int .i64 (i : Int) := (hu 10 (no_dst (by kernel_rfl) l_)).trans rfl
                have f10 := getD_get e10
                exact value_ (v := .int .i64 (i : Int)) (w1 := w) (wanted_yes (g := 14) (t := 121) rfl rfl eg rfl) rfl (by simp only [execOp, Act.eval, e10]; go_simp) (hK _ _ rfl hS)
              · intro l_ a w vs ts hv hu hl hR hS K hK
                have eg : a.tmps.getD 121 undef = .bool false := (hv 14 121 rfl (hl 14 (by kernel_rfl))).trans (hR 14 (by decide) (hl 14 (by kernel_rfl)))
                have e123 : a.tmps.getD 123 undef = .slice (some ad) l.length c := (hv 16 123 rfl (hl 16 (by kernel_rfl))).trans (hR 16 (by decide) (hl 16 (by kernel_rfl)))
                have e124 : a.tmps.getD 124 undef = .int .i64 (i : Int) := (hv 17 124 rfl (hl 17 (by kernel_rfl))).trans (hR 17 (by decide) (hl 17 (by kernel_rfl)))
                have f123 := getD_get e123
                have f124 := getD_get e124
                exact value_ (v := .pointer (some (ad.add i))) (w1 := w) (wanted_yes (g := 14) (t := 121) rfl rfl eg rfl) rfl (by simp only [execOp, Act.eval, e123, e124]; go_simp) (hK _ _ rfl hS)
              · intro l_ a w vs ts hv hu hl hR hS K hK
                have eg : a.tmps.getD 121 undef = .bool false := (hv 14 121 rfl (hl 14 (by kernel_rfl))).trans (hR 14 (by decide) (hl 14 (by kernel_rfl)))
                have e125 : a.tmps.getD 125 undef = .pointer (some (ad.add i)) := (hv 18 125 rfl (hl 18 (by kernel_rfl))).trans (hR 18 (by decide) (hl 18 (by kernel_rfl)))
                have f125 := getD_get e125
                obtain ⟨ad1, ha1, cc⟩ := Kd.at_int (St.now (St.mem (t := Deeds (some ad) l) (by simp [Dt]) hS)) (i : Int) hi0 hil
                cases ha1
                rw [Int.toNat_natCast, HX.out] at cc
                exact value_ (v := .int .i64 x) (w1 := w) (wanted_yes (g := 14) (t := 121) rfl rfl eg rfl) rfl (by simp only [execOp, Act.eval, e125]; go_simp) (hK _ _ rfl hS)
              · intro l_ a w vs ts hv hu hl hR hS K hK
                have eg : a.tmps.getD 121 undef = .bool false := (hv 14 121 rfl (hl 14 (by kernel_rfl))).trans (hR 14 (by decide) (hl 14 (by kernel_rfl)))
                have e122 : a.tmps.getD 122 undef = .pointer (some ⟨p, 0, none⟩) := (hv 15 122 rfl (hl 15 (by kernel_rfl))).trans (hR 15 (by decide) (hl 15 (by kernel_rfl)))
                have e126 : a.tmps.getD 126 undef = .int .i64 x := (hv 19 126 rfl (hl 19 (by kernel_rfl))).trans (hR 19 (by decide) (hl 19 (by kernel_rfl)))
                have f122 := getD_get e122
                have f126 := getD_get e126
                have ha := St.mem (t := arenaO p s1) (by simp [Dt]) hS
                refine goes_ Try.func19 (by kernel_rfl) rfl #[.pointer (some ⟨p, 0, none⟩), .int .i64 x] (wanted_yes (g := 14) (t := 121) rfl rfl eg rfl) rfl rfl (by simp [Act.eval, e122, e126]) ?_
                refine (gen_o ha x HGN.out).mono ?_
                rintro e w' ⟨rfl, rfl⟩
                exact ⟨_, rfl, hK _ _ rfl hS⟩
              · intro l_ a w vs ts hv hu hl hR hS K hK
                have eg : a.tmps.getD 121 undef = .bool false := (hv 14 121 rfl (hl 14 (by kernel_rfl))).trans (hR 14 (by decide) (hl 14 (by kernel_rfl)))
                have e8 : a.tmps.getD 8 undef = .pointer (some ⟨bx, 0, none⟩) := (hu 8 (no_dst (by kernel_rfl) l_)).trans rfl
                have f8 := getD_get e8
                have hbx := St.mem (t := boxT bx 37 #[.int .i64 r, .slice A4 (keys s1).length c4, .slice A5 s1.freed.length c5, .slice A6 s1.gens.length c6]) (by simp [Dt]) hS
                have c0_ := (hbx.box_cell 0 _ rfl).1
                have c1_ := (hbx.box_cell 1 _ rfl).1
                have c2_ := (hbx.box_cell 2 _ rfl).1
                have c3_ := (hbx.box_cell 3 _ rfl).1
                exact value_ (v := .agg #[.int .i64 r, .slice A4 (keys s1).length c4, .slice A5 s1.freed.length c5, .slice A6 s1.gens.length c6]) (w1 := w) (wanted_yes (g := 14) (t := 121) rfl rfl eg rfl) rfl (by simp only [execOp, Act.eval, e8]; go_simp) (hK _ _ rfl hS)
              · intro l_ a w vs ts hv hu hl hR hS K hK
                have eg : a.tmps.getD 121 undef = .bool false := (hv 14 121 rfl (hl 14 (by kernel_rfl))).trans (hR 14 (by decide) (hl 14 (by kernel_rfl)))
                have e1 : a.tmps.getD 1 undef = .slice (some ad) l.length c := (hu 1 (no_dst (by kernel_rfl) l_)).trans rfl
                have f1 := getD_get e1
                exact value_ (v := .slice (some ad) l.length c) (w1 := w) (wanted_yes (g := 14) (t := 121) rfl rfl eg rfl) rfl (by simp only [execOp, Act.eval, e1]; go_simp) (hK _ _ rfl hS)
              · intro l_ a w vs ts hv hu hl hR hS K hK
                have eg : a.tmps.getD 121 undef = .bool false := (hv 14 121 rfl (hl 14 (by kernel_rfl))).trans (hR 14 (by decide) (hl 14 (by kernel_rfl)))
                have e10 : a.tmps.getD 10 undef = .int .i64 (i : Int) := (hu 10 (no_dst (by kernel_rfl) l_)).trans rfl
                have f10 := getD_get e10
                exact value_ (v := .int .i64 (i : Int)) (w1 := w) (wanted_yes (g := 14) (t := 121) rfl rfl eg rfl) rfl (by simp only [execOp, Act.eval, e10]; go_simp) (hK _ _ rfl hS)
              · intro l_ a w vs ts hv hu hl hR hS K hK
                have eg : a.tmps.getD 121 undef = .bool false := (hv 14 121 rfl (hl 14 (by kernel_rfl))).trans (hR 14 (by decide) (hl 14 (by kernel_rfl)))
                have e129 : a.tmps.getD 129 undef = .slice (some ad) l.length c := (hv 22 129 rfl (hl 22 (by kernel_rfl))).trans (hR 22 (by decide) (hl 22 (by kernel_rfl)))
                have e130 : a.tmps.getD 130 undef = .int .i64 (i : Int) := (hv 23 130 rfl (hl 23 (by kernel_rfl))).trans (hR 23 (by decide) (hl 23 (by kernel_rfl)))
                have f129 := getD_get e129
                have f130 := getD_get e130
                exact value_ (v := .pointer (some (ad.add i))) (w1 := w) (wanted_yes (g := 14) (t := 121) rfl rfl eg rfl) rfl (by simp only [execOp, Act.eval, e129, e130]; go_simp) (hK _ _ rfl hS)
              · intro l_ a w vs ts hv hu hl hR hS K hK
                have eg : a.tmps.getD 121 undef = .bool false := (hv 14 121 rfl (hl 14 (by kernel_rfl))).trans (hR 14 (by decide) (hl 14 (by kernel_rfl)))
                have e131 : a.tmps.getD 131 undef = .pointer (some (ad.add i)) := (hv 24 131 rfl (hl 24 (by kernel_rfl))).trans (hR 24 (by decide) (hl 24 (by kernel_rfl)))
                have f131 := getD_get e131
                obtain ⟨ad1, ha1, cc⟩ := Kd.at_int (St.now (St.mem (t := Deeds (some ad) l) (by simp [Dt]) hS)) (i : Int) hi0 hil
                cases ha1
                rw [Int.toNat_natCast, HX.out] at cc
                exact value_ (v := .int .i64 x) (w1 := w) (wanted_yes (g := 14) (t := 121) rfl rfl eg rfl) rfl (by simp only [execOp, Act.eval, e131]; go_simp) (hK _ _ rfl hS)
              · intro l_ a w vs ts hv hu hl hR hS K hK
                have eg : a.tmps.getD 121 undef = .bool false := (hv 14 121 rfl (hl 14 (by kernel_rfl))).trans (hR 14 (by decide) (hl 14 (by kernel_rfl)))
                have e128 : a.tmps.getD 128 undef = .agg #[.int .i64 r, .slice A4 (keys s1).length c4, .slice A5 s1.freed.length c5, .slice A6 s1.gens.length c6] := (hv 21 128 rfl (hl 21 (by kernel_rfl))).trans (hR 21 (by decide) (hl 21 (by kernel_rfl)))
                have e132 : a.tmps.getD 132 undef = .int .i64 x := (hv 25 132 rfl (hl 25 (by kernel_rfl))).trans (hR 25 (by decide) (hl 25 (by kernel_rfl)))
                have f128 := getD_get e128
                have f132 := getD_get e132
                refine goes_ Try.func20 (by kernel_rfl) rfl #[.agg #[.int .i64 r, .slice A4 (keys s1).length c4, .slice A5 s1.freed.length c5, .slice A6 s1.gens.length c6], .int .i64 x] (wanted_yes (g := 14) (t := 121) rfl rfl eg rfl) rfl rfl (by simp [Act.eval, e128, e132]) ?_
                refine (doc_gen (copy3 hS (Q1 := Rd (Kd.int .i64) (.slice A4 (keys s1).length c4) (keys s1)) (Q2 := Rd (Kd.int .i64) (.slice A5 s1.freed.length c5) s1.freed) (Q3 := Rd (Kd.int .i64) (.slice A6 s1.gens.length c6) s1.gens) (by simp [Dt, rdT]) (by simp [Dt, rdT]) (by simp [Dt, rdT])) x HGN.out).mono ?_
                rintro e w' ⟨rfl, hb⟩
                exact ⟨_, rfl, hK _ _ rfl (hS.below hb)⟩
              · intro l_ a w vs ts hv hu hl hR hS K hK
                have eg : a.tmps.getD 121 undef = .bool false := (hv 14 121 rfl (hl 14 (by kernel_rfl))).trans (hR 14 (by decide) (hl 14 (by kernel_rfl)))
                have e127 : a.tmps.getD 127 undef = .int .i64 gn := (hv 20 127 rfl (hl 20 (by kernel_rfl))).trans (hR 20 (by decide) (hl 20 (by kernel_rfl)))
                have e133 : a.tmps.getD 133 undef = .int .i64 gn := (hv 26 133 rfl (hl 26 (by kernel_rfl))).trans (hR 26 (by decide) (hl 26 (by kernel_rfl)))
                have f127 := getD_get e127
                have f133 := getD_get e133
                exact value_ (v := .bool false) (w1 := w) (wanted_yes (g := 14) (t := 121) rfl rfl eg rfl) rfl (by simp only [execOp, Act.eval, e127, e133]; go_simp) (hK _ _ rfl hS)
              · intro l_ a w vs ts hv hu hl hR hS K hK
                have e121 : a.tmps.getD 121 undef = .bool false := (hv 14 121 rfl (hl 14 (by kernel_rfl))).trans (hR 14 (by decide) (hl 14 (by kernel_rfl)))
                have e134 : a.tmps.getD 134 undef = .bool false := (hv 27 134 rfl (hl 27 (by kernel_rfl))).trans (hR 27 (by decide) (hl 27 (by kernel_rfl)))
                have f121 := getD_get e121
                have f134 := getD_get e134
                exact value_ (v := .bool false) (w1 := w) rfl rfl (by simp only [execOp, Act.eval, e121, e134]; go_simp) (hK _ _ rfl hS)
              · intro l_ a w vs ts hv hu hl hR hS K hK
                have e135 : a.tmps.getD 135 undef = .bool false := (hv 28 135 rfl (hl 28 (by kernel_rfl))).trans (hR 28 (by decide) (hl 28 (by kernel_rfl)))
                have f135 := getD_get e135
                exact value_ (v := .bool false) (w1 := w) rfl rfl (by simp only [execOp, Act.eval, e135]; go_simp) (hK _ _ rfl hS)
              · intro l_ a w vs ts hv hu hl hR hS K hK
                have eg : a.tmps.getD 136 undef = .bool false := (hv 29 136 rfl (hl 29 (by kernel_rfl))).trans (hR 29 (by decide) (hl 29 (by kernel_rfl)))
                have e6 : a.tmps.getD 6 undef = .pointer (some ⟨p, 0, none⟩) := (hu 6 (no_dst (by kernel_rfl) l_)).trans rfl
                have f6 := getD_get e6
                exact value_ (v := .pointer (some ⟨p, 0, none⟩)) (w1 := w) (wanted_yes (g := 29) (t := 136) rfl rfl eg rfl) rfl (by simp only [execOp, Act.eval, e6]; go_simp) (hK _ _ rfl hS)
              · intro l_ a w vs ts hv hu hl hR hS K hK
                have eg : a.tmps.getD 136 undef = .bool false := (hv 29 136 rfl (hl 29 (by kernel_rfl))).trans (hR 29 (by decide) (hl 29 (by kernel_rfl)))
                have e137 : a.tmps.getD 137 undef = .pointer (some ⟨p, 0, none⟩) := (hv 30 137 rfl (hl 30 (by kernel_rfl))).trans (hR 30 (by decide) (hl 30 (by kernel_rfl)))
                have f137 := getD_get e137
                have ha := St.mem (t := arenaO p s1) (by simp [Dt]) hS
                refine goes_ Try.func15 (by kernel_rfl) rfl #[.pointer (some ⟨p, 0, none⟩)] (wanted_yes (g := 29) (t := 136) rfl rfl eg rfl) rfl rfl (by simp [Act.eval, e137]) ?_
                refine (count_o ha HKN.out).mono ?_
                rintro e w' ⟨rfl, rfl⟩
                exact ⟨_, rfl, hK _ _ rfl hS⟩
              · intro l_ a w vs ts hv hu hl hR hS K hK
                have eg : a.tmps.getD 136 undef = .bool false := (hv 29 136 rfl (hl 29 (by kernel_rfl))).trans (hR 29 (by decide) (hl 29 (by kernel_rfl)))
                have e8 : a.tmps.getD 8 undef = .pointer (some ⟨bx, 0, none⟩) := (hu 8 (no_dst (by kernel_rfl) l_)).trans rfl
                have f8 := getD_get e8
                exact value_ (v := .pointer (some ⟨bx, 1, none⟩)) (w1 := w) (wanted_yes (g := 29) (t := 136) rfl rfl eg rfl) rfl (by simp only [execOp, Act.eval, e8]; go_simp) (hK _ _ rfl hS)
              · intro l_ a w vs ts hv hu hl hR hS K hK
                have eg : a.tmps.getD 136 undef = .bool false := (hv 29 136 rfl (hl 29 (by kernel_rfl))).trans (hR 29 (by decide) (hl 29 (by kernel_rfl)))
                have e139 : a.tmps.getD 139 undef = .pointer (some ⟨bx, 1, none⟩) := (hv 32 139 rfl (hl 32 (by kernel_rfl))).trans (hR 32 (by decide) (hl 32 (by kernel_rfl)))
                have f139 := getD_get e139
                have cc := ((St.mem (t := boxT bx 37 #[.int .i64 r, .slice A4 (keys s1).length c4, .slice A5 s1.freed.length c5, .slice A6 s1.gens.length c6]) (by simp [Dt]) hS).box_cell 1 _ rfl).1
                exact value_ (v := .slice A4 (keys s1).length c4) (w1 := w) (wanted_yes (g := 29) (t := 136) rfl rfl eg rfl) rfl (by simp only [execOp, Act.eval, e139]; go_simp) (hK _ _ rfl hS)
              · intro l_ a w vs ts hv hu hl hR hS K hK
                have eg : a.tmps.getD 136 undef = .bool false := (hv 29 136 rfl (hl 29 (by kernel_rfl))).trans (hR 29 (by decide) (hl 29 (by kernel_rfl)))
                have e140 : a.tmps.getD 140 undef = .slice A4 (keys s1).length c4 := (hv 33 140 rfl (hl 33 (by kernel_rfl))).trans (hR 33 (by decide) (hl 33 (by kernel_rfl)))
                have f140 := getD_get e140
                exact value_ (v := .int .i64 ((keys s1).length : Int)) (w1 := w) (wanted_yes (g := 29) (t := 136) rfl rfl eg rfl) rfl (by simp only [execOp, Act.eval, e140]; go_simp) (hK _ _ rfl hS)
              · intro l_ a w vs ts hv hu hl hR hS K hK
                have eg : a.tmps.getD 136 undef = .bool false := (hv 29 136 rfl (hl 29 (by kernel_rfl))).trans (hR 29 (by decide) (hl 29 (by kernel_rfl)))
                have e138 : a.tmps.getD 138 undef = .int .i64 ((keys s1).length : Int) := (hv 31 138 rfl (hl 31 (by kernel_rfl))).trans (hR 31 (by decide) (hl 31 (by kernel_rfl)))
                have e141 : a.tmps.getD 141 undef = .int .i64 ((keys s1).length : Int) := (hv 34 141 rfl (hl 34 (by kernel_rfl))).trans (hR 34 (by decide) (hl 34 (by kernel_rfl)))
                have f138 := getD_get e138
                have f141 := getD_get e141
                exact value_ (v := .bool false) (w1 := w) (wanted_yes (g := 29) (t := 136) rfl rfl eg rfl) rfl (by simp only [execOp, Act.eval, e138, e141]; go_simp) (hK _ _ rfl hS)
              · intro l_ a w vs ts hv hu hl hR hS K hK
                have e136 : a.tmps.getD 136 undef = .bool false := (hv 29 136 rfl (hl 29 (by kernel_rfl))).trans (hR 29 (by decide) (hl 29 (by kernel_rfl)))
                have e142 : a.tmps.getD 142 undef = .bool false := (hv 35 142 rfl (hl 35 (by kernel_rfl))).trans (hR 35 (by decide) (hl 35 (by kernel_rfl)))
                have f136 := getD_get e136
                have f142 := getD_get e142
                exact value_ (v := .bool false) (w1 := w) rfl rfl (by simp only [execOp, Act.eval, e136, e142]; go_simp) (hK _ _ rfl hS)
              have k0 : vsg 0 = .pointer (some ⟨p, 0, none⟩) := hvt 0 (by decide)
              have k1 : vsg 1 = .slice (some ad) l.length c := hvt 1 (by decide)
              have k2 : vsg 2 = .int .i64 (i : Int) := hvt 2 (by decide)
              have k3 : vsg 3 = .pointer (some (ad.add i)) := hvt 3 (by decide)
              have k4 : vsg 4 = .int .i64 x := hvt 4 (by decide)
              have k5 : vsg 5 = .bool bl := hvt 5 (by decide)
              have k6 : vsg 6 = .pointer (some ⟨bx, 1, none⟩) := hvt 6 (by decide)
              have k7 : vsg 7 = .slice A4 (keys s1).length c4 := hvt 7 (by decide)
              have k8 : vsg 8 = .slice (some ad) l.length c := hvt 8 (by decide)
              have k9 : vsg 9 = .int .i64 (i : Int) := hvt 9 (by decide)
              have k10 : vsg 10 = .pointer (some (ad.add i)) := hvt 10 (by decide)
              have k11 : vsg 11 = .int .i64 x := hvt 11 (by decide)
              have k12 : vsg 12 = .bool bl := hvt 12 (by decide)
              have k13 : vsg 13 = .bool false := hvt 13 (by decide)
              have k14 : vsg 14 = .bool false := hvt 14 (by decide)
              have k15 : vsg 15 = .pointer (some ⟨p, 0, none⟩) := hvt 15 (by decide)
              have k16 : vsg 16 = .slice (some ad) l.length c := hvt 16 (by decide)
              have k17 : vsg 17 = .int .i64 (i : Int) := hvt 17 (by decide)
              have k18 : vsg 18 = .pointer (some (ad.add i)) := hvt 18 (by decide)
              have k19 : vsg 19 = .int .i64 x := hvt 19 (by decide)
              have k20 : vsg 20 = .int .i64 gn := hvt 20 (by decide)
              have k21 : vsg 21 = .agg #[.int .i64 r, .slice A4 (keys s1).length c4, .slice A5 s1.freed.length c5, .slice A6 s1.gens.length c6] := hvt 21 (by decide)
              have k22 : vsg 22 = .slice (some ad) l.length c := hvt 22 (by decide)
              have k23 : vsg 23 = .int .i64 (i : Int) := hvt 23 (by decide)
              have k24 : vsg 24 = .pointer (some (ad.add i)) := hvt 24 (by decide)
              have k25 : vsg 25 = .int .i64 x := hvt 25 (by decide)
              have k26 : vsg 26 = .int .i64 gn := hvt 26 (by decide)
              have k27 : vsg 27 = .bool false := hvt 27 (by decide)
              have k28 : vsg 28 = .bool false := hvt 28 (by decide)
              have k29 : vsg 29 = .bool false := hvt 29 (by decide)
              have k30 : vsg 30 = .pointer (some ⟨p, 0, none⟩) := hvt 30 (by decide)
              have k31 : vsg 31 = .int .i64 ((keys s1).length : Int) := hvt 31 (by decide)
              have k32 : vsg 32 = .pointer (some ⟨bx, 1, none⟩) := hvt 32 (by decide)
              have k33 : vsg 33 = .slice A4 (keys s1).length c4 := hvt 33 (by decide)
              have k34 : vsg 34 = .int .i64 ((keys s1).length : Int) := hvt 34 (by decide)
              have k35 : vsg 35 = .bool false := hvt 35 (by decide)
              have k36 : vsg 36 = .bool false := hvt 36 (by decide)
              replace HE : Own.St _ _ _ ((boxT bx 37 #[.int .i64 r, .slice A4 (keys s1).length c4, .slice A5 s1.freed.length c5, .slice A6 s1.gens.length c6] :: arenaO p s1 :: Dt (.slice A4 (keys s1).length c4) (.slice A5 s1.freed.length c5) (.slice A6 s1.gens.length c6) s1 (Deeds (some ad) l :: []))) wzg := HE
              simp only [putsL, List.toList_toArray, Act.put, List.setIfInBounds_toArray, List.set_cons_zero, List.set_cons_succ, Nat.reduceAdd]
              rw [k0, k1, k2, k3, k4, k5, k6, k7, k8, k9, k10, k11, k12, k13, k14, k15, k16, k17, k18, k19, k20, k21, k22, k23, k24, k25, k26, k27, k28, k29, k30, k31, k32, k33, k34, k35, k36]
              clear hvt k0 k1 k2 k3 k4 k5 k6 k7 k8 k9 k10 k11 k12 k13 k14 k15 k16 k17 k18 k19 k20 k21 k22 k23 k24 k25 k26 k27 k28 k29 k30 k31 k32 k33 k34 k35 k36
              have HE1 := Aside0.mk HE
              clear HE HS7
              go_wp2
              go_roundg k1
              case measure => have := HK.out; omega
              case rel => exact ⟨i + 1, s1, A4, c4, A5, c5, A6, c6, by first | rfl | go_num, ⟨by have := HK.out; omega, by have := HIN.out; omega, by have := HIN.out; omega⟩, HOk1, HE1⟩
          · have d2 : decide ((i : Int) < 300) = false := decide_eq_false (by omega)
            have d2n : decide (i < 300) = false := decide_eq_false hin2
            clear hin hin2
            go_wp2
            go_ret
            exact ⟨rfl, HS.out.bel⟩
        · have d1 : decide ((i : Int) < (l.length : Int)) = false := decide_eq_false (by omega)
          have d1n : decide (i < l.length) = false := decide_eq_false hin
          clear hin
          go_wp2
          go_ret
          exact ⟨rfl, HS.out.bel⟩
  · have hbad : r < 1 ∨ r > 64 := by omega
    have HBAD := Aside0.mk hbad
    clear hok hbad
    go_enter Try.func5, Try.ntmps5
    go_wp2_with (first | (go_at_call 9; (with_reducible refine (shown_calls _).mono ?_); rintro e w1 ⟨rfl, hb⟩; have HS1 := Aside0.mk (HS0.out.below hb); clear hb HS0) | (go_at_call 10; (with_reducible refine (new_bad r HBAD.out _).mono ?_); rintro e w2 ⟨rfl, rfl⟩) | (go_at_call 16; (with_reducible refine (doc_new_bad r HBAD.out _).mono ?_); rintro e w3 ⟨A1, n1, c1, A2, n2, c2, A3, n3, c3, rfl, hb⟩; have HS2 := Aside0.mk (HS1.out.below hb); clear hb HS1))
    have HS3 := Aside0.mk (HS2.out.below (below_alloc (Below.refl _ _) (.cells #[.int .i64 0, .slice A1 n1 c1, .slice A2 n2 c2, .slice A3 n3 c3] 37)))
    clear HS2
    go_loopg [10] 1 (fun kq v10 w' => v10 = .int .i64 0 ∧ Aside0 (Own.St w (fun _ => False) (fun _ => True) [Deeds A l] w'))
    case atStart => exact ⟨rfl, HS3⟩
    case round =>
      clear HS3
      obtain ⟨rfl, HS⟩ := hrel
      by_cases hin : 0 < l.length
      · have d1 : decide ((0 : Int) < (l.length : Int)) = true := decide_eq_true (by omega)
        have d1n : decide (0 < l.length) = true := decide_eq_true hin
        clear hin
        go_wp2
        go_ret
        exact ⟨rfl, HS.out.bel⟩
      · have d1 : decide ((0 : Int) < (l.length : Int)) = false := decide_eq_false (by omega)
        have d1n : decide (0 < l.length) = false := decide_eq_false hin
        clear hin
        go_wp2
        go_ret
        exact ⟨rfl, HS.out.bel⟩
end Go.Proofs.Ytpoecjieagkoaaa.Arena
