/- Arena: the document's Take. No condition. -/
import Derived.Test.YtpoecjieagkoaaaRd1
import Derived.Test.YtpoecjieagkoaaaBb
namespace Go.Proofs.Ytpoecjieagkoaaa.Arena
open Go Go.ChangeMaps Go.RowKit Go.Proofs.YtpoecjieagkoaaaW.PrintWords Go.Proofs.YtpoecjieagkoaaaW.PrintLast Go.Proofs.YtpoecjieagkoaaaW.PrintMore Go.Proofs.Ytpoecjieagkoaaa.PTake Go.Proofs.Ytpoecjieagkoaaa.Own
set_option linter.unusedVariables false
set_option linter.unusedSimpArgs false
theorem take_fin {w0 w : World} {F0 P0 : Nat → Prop} {ts : List Thing} {d : Kd Int} {vg vl vf : Value} {G L Fr : List Int} {b2 bx x y z : Thing} (h : Own.St w0 F0 P0 (rowT d 3 vg G :: b2 :: rowT d 3 vl L :: rowT d 3 vf Fr :: bx :: x :: y :: z :: ts) w) : Own.St w0 F0 P0 (rdT d vl L :: rdT d vf Fr :: rdT d vg G :: ts) w := by
  have h1 := h.rd_of_row
  have h2 := (St.pick (ts1 := [_, _, _, _]) h1).drop
  have h3 := (St.pick (ts1 := [_, _, _, _]) h2).drop
  have h4 := (St.pick (ts1 := [_, _, _, _]) h3).drop
  have h5 := (St.pick (ts1 := [_, _, _, _]) h4).drop
  have h6 := (St.pick (ts1 := [_]) h5).drop
  have h7 := (St.pick (ts1 := [_]) h6).rd_of_row
  have h8 := (St.pick (ts1 := [_, _]) h7).rd_of_row
  exact (h8.perm (List.Perm.swap _ _ _)).perm (by rfl)
theorem size37 : (Try.prog.info? 37).map (·.size) = some 4 := by kernel_rfl
set_option maxHeartbeats 2000000 in
theorem refTake (w0 w : World) (F0 P0 : Nat → Prop) (ts : List Thing) (r g : Int) (L Fr G W : List Int) (vl vf vg : Value) (h : Own.St w0 F0 P0 (rdT (Kd.int .i64) vl L :: rdT (Kd.int .i64) vf Fr :: rdT (Kd.int .i64) vg G :: ts) w) (k : Nat) (hp : catafalqueref08_pick.f k r L Fr G = some g) (hg : g ≠ 0) (hW : catafalqueref08_without.f k Fr g = some W) (hLn : L.length ≤ 100000 ∧ G.length ≤ 100000) (hg0 : 0 ≤ g) (hg1 : g < G.length) (hb : 0 ≤ rd G g ∧ rd G g ≤ 1000000) :
  Calls Try.prog 17 #[.agg #[.int .i64 r, vl, vf, vg]] w fun e w' => ∃ v1 v2 v3, e = .returned (.tuple #[.agg #[.int .i64 r, v1, v2, v3], .int .i64 g, .int .i64 (rd G g + 1), .bool true]) ∧ Own.St w0 F0 P0 (rdT (Kd.int .i64) v1 (L ++ [g]) :: rdT (Kd.int .i64) v2 W :: rdT (Kd.int .i64) v3 (G.set g.toNat (rd G g + 1)) :: ts) w' := by
  obtain ⟨Al, cl, rfl, hcl, hl⟩ := h.rd_open
  obtain ⟨Af, cf, rfl, hcf, hf⟩ := (St.pick (ts1 := [_]) h).rd_open
  obtain ⟨Ag, cg, rfl, hcg, hgn⟩ := (St.pick (ts1 := [_, _]) h).rd_open
  obtain ⟨b, hb⟩ : ∃ b, w.heap.size = b := ⟨_, rfl⟩
  have hb1 : Below w.heap.size w ((w.alloc (.cells #[.int .i64 r, .slice Al L.length cl, .slice Af Fr.length cf, .slice Ag G.length cg] 37)).alloc (.cells #[.int .i64 0, .slice none 0 0, .slice none 0 0, .slice none 0 0] 37)) := below_alloc (below_alloc (Below.refl _ _) _) _
  have hS := ((h.box #[.int .i64 r, .slice Al L.length cl, .slice Af Fr.length cf, .slice Ag G.length cg] 37).box #[.int .i64 0, .slice none 0 0, .slice none 0 0, .slice none 0 0] 37)
  rw [show (w.alloc (.cells #[.int .i64 r, .slice Al L.length cl, .slice Af Fr.length cf, .slice Ag G.length cg] 37)).heap.size = b + 1 from by simp [hb], hb] at hS
  have HS := Aside0.mk hS
  have HW := Aside0.mk hW
  have HP := Aside0.mk hp
  have HC1 := Aside0.mk (Kd.C_below hl hb1)
  have HC2 := Aside0.mk (Kd.C_below hf hb1)
  have HC3 := Aside0.mk (Kd.C_below hgn hb1)
  have HBZ := Aside0.mk hb
  have z : (g == 0) = false := beq_eq_false_iff_ne.mpr hg
  have hg3 : rd (G.set g.toNat (rd G g + 1)) g = rd G g + 1 := by
    show (G.set g.toNat (rd G g + 1)).getD g.toNat 0 = _
    rw [List.getD_eq_getElem?_getD, List.getElem?_set, if_pos rfl, if_pos (by omega)]; rfl
  have hg2 : g < ((G.set g.toNat (rd G g + 1)).length : Int) := by rw [List.length_set]; exact hg1
  have HG3 := Aside0.mk (And.intro hg3 hg2)
  clear hg hS h hl hf hgn hp hW hb1 hb hg3 hg2
  have hwr : IntKind.i64.wrap (rd G g + 1) = rd G g + 1 := Go.IntWalk.i64_in _ (by omega)
  have HWR := Aside0.mk hwr
  clear hwr hb
  go_enter Try.func17, Try.ntmps17
  go_wp2_with (first | (go_at_call 22; (with_reducible refine (catafalqueref08_pick.calls k r Al cl L Af cf Fr Ag cg G g _ HC1.out hcl HC2.out hcf HC3.out hcg HP.out).mono ?_); rintro e w3 ⟨rfl, hb⟩; have HS3 := Aside0.mk (HS.out.below hb); clear HS hb))
  rw [HBZ.out]
  refine region_plan (ts0 := (boxT (b + 1) 37 #[.int .i64 0, .slice none 0 0, .slice none 0 0, .slice none 0 0] :: boxT b 37 #[.int .i64 r, .slice Al L.length cl, .slice Af Fr.length cf, .slice Ag G.length cg] :: rdT (Kd.int .i64) (.slice Al L.length cl) L :: rdT (Kd.int .i64) (.slice Af Fr.length cf) Fr :: rdT (Kd.int .i64) (.slice Ag G.length cg) G :: ts)) (fun i => match i with | 17 => [8, 12, 16] | 19 => [18, 17] | _ => []) (fun i => match i with | 5 => [2] | 8 => [7, 5] | 16 => [13] | 19 => [18] | _ => []) (fun i v l => match i with | 0 => v = .pointer (some ⟨b, 0, none⟩) | 1 => v = .int .i64 r | 3 => v = .pointer (some ⟨b, 1, none⟩) | 4 => v = .slice Al L.length cl | 6 => v = .int .i64 g | 8 => (fun (v : Value) (l : List Value) => ∃ A n c, v = .slice A n c) v l | 9 => v = .pointer (some ⟨b, 2, none⟩) | 10 => v = .slice Af Fr.length cf | 11 => v = .int .i64 g | 12 => (fun (v : Value) (l : List Value) => ∃ A n c, v = .slice A n c) v l | 14 => v = .pointer (some ⟨b, 3, none⟩) | 15 => v = .slice Ag G.length cg | 16 => (fun (v : Value) (l : List Value) => ∃ A n c, v = .slice A n c) v l | 17 => ∃ x0 x1 x2, l = [x0, x1, x2] ∧ v = (fun x y z => .agg #[.int .i64 r, x, y, z]) (x0) (x1) (x2) | 19 => (fun (v : Value) (l : List Value) => ∃ p x, l = [p, x] ∧ v = .tuple #[p, x]) v l | _ => True) (fun i v => match i with | 2 => (fun v => [rowT (Kd.int .i64) 3 v (([] : List Int))]) v | 5 => (fun v => [rowT (Kd.int .i64) 3 v (L)]) v | 7 => (fun v => [rowT (Kd.int .i64) 3 v ([g])]) v | 8 => (fun v => [rowT (Kd.int .i64) 3 v (L ++ [g])]) v | 12 => (fun v => [rowT (Kd.int .i64) 3 v (W)]) v | 13 => (fun v => [rowT (Kd.int .i64) 3 v (([] : List Int))]) v | 16 => (fun v => [rowT (Kd.int .i64) 3 v (G)]) v | 18 => (fun v => [ptrT v 37 #[.int .i64 0, .slice none 0 0, .slice none 0 0, .slice none 0 0]]) v | 19 => (fun v => [ghostT v 37]) v | _ => []) [8, 12, 16, 19] [] (fun _ => []) rfl (by kernel_rfl) (by kernel_rfl) (by kernel_rfl) (by kernel_rfl) (by kernel_rfl) (by kernel_rfl) HS3.out ⟨?_, ?_, ?_, ?_, ?_, ?_, ?_, ?_, ?_, ?_, ?_, ?_, ?_, ?_, ?_, ?_, ?_, ?_, ?_, ?_, trivial⟩ (fun vs wz hvs HE => ?_)
  · intro l a w vs ts hv hu hl hR hS K hK
    have e1 : a.tmps.getD 1 undef = .pointer (some ⟨b, 0, none⟩) := (hu 1 (no_dst (by kernel_rfl) l)).trans rfl
    have f1 := getD_get e1
    exact value_ (v := .pointer (some ⟨b, 0, none⟩)) (w1 := w) rfl rfl (by simp only [execOp, Act.eval, e1]; go_simp) (hK _ _ rfl hS)
  · intro l a w vs ts hv hu hl hR hS K hK
    have e13 : a.tmps.getD 13 undef = .pointer (some ⟨b, 0, none⟩) := (hv 0 13 rfl (hl 0 (by kernel_rfl))).trans (hR 0 (by decide) (hl 0 (by kernel_rfl)))
    have f13 := getD_get e13
    have cc := (St.mem (t := boxT b 37 #[.int .i64 r, .slice Al L.length cl, .slice Af Fr.length cf, .slice Ag G.length cg]) (by simp) hS).box_cell 0 _ rfl
    obtain ⟨cc, -⟩ := cc
    exact value_ (v := .int .i64 r) (w1 := w) rfl rfl (by simp only [execOp, Act.eval, e13]; go_simp) (hK _ _ rfl hS)
  · intro l a w vs ts hv hu hl hR hS K hK
    exact St.ints_step .i64 3 rfl rfl (([] : List Int)) (by simp only [execOp, Act.eval]; go_simp; try rfl) hS (by simp) (fun v1 w1 h1 => hK _ _ trivial h1)
  · intro l a w vs ts hv hu hl hR hS K hK
    have e1 : a.tmps.getD 1 undef = .pointer (some ⟨b, 0, none⟩) := (hu 1 (no_dst (by kernel_rfl) l)).trans rfl
    have f1 := getD_get e1
    exact value_ (v := .pointer (some ⟨b, 1, none⟩)) (w1 := w) rfl rfl (by simp only [execOp, Act.eval, e1]; go_simp) (hK _ _ rfl hS)
  · intro l a w vs ts hv hu hl hR hS K hK
    have e16 : a.tmps.getD 16 undef = .pointer (some ⟨b, 1, none⟩) := (hv 3 16 rfl (hl 3 (by kernel_rfl))).trans (hR 3 (by decide) (hl 3 (by kernel_rfl)))
    have f16 := getD_get e16
    have cc := (St.mem (t := boxT b 37 #[.int .i64 r, .slice Al L.length cl, .slice Af Fr.length cf, .slice Ag G.length cg]) (by simp) hS).box_cell 1 _ rfl
    obtain ⟨cc, -⟩ := cc
    exact value_ (v := .slice Al L.length cl) (w1 := w) rfl rfl (by simp only [execOp, Act.eval, e16]; go_simp) (hK _ _ rfl hS)
  · intro l a w vs ts hv hu hl hR hS K hK
    have e15 : a.tmps.getD 15 undef = vs 2 := hv 2 15 rfl (hl 2 (by kernel_rfl))
    have e17 : a.tmps.getD 17 undef = .slice Al L.length cl := (hv 4 17 rfl (hl 4 (by kernel_rfl))).trans (hR 4 (by decide) (hl 4 (by kernel_rfl)))
    have f15 := getD_get e15
    have f17 := getD_get e17
    exact St.app_step (Kd.int .i64) rfl (.tmp 15) (.tmp 17) 30 3 (.int .i64 0) 8 rfl Try.underlying30 info3 rfl (by decide) (by omega) (ys := L) (xs := []) e15 e17 (St.copy (by simp [rdT]) hS) (by simp; omega) (fun v1 w1 h1 => hK _ _ trivial h1)
  · intro l a w vs ts hv hu hl hR hS K hK
    have e6 : a.tmps.getD 6 undef = .int .i64 g := (hu 6 (no_dst (by kernel_rfl) l)).trans rfl
    have f6 := getD_get e6
    exact value_ (v := .int .i64 g) (w1 := w) rfl rfl (by simp only [execOp, Act.eval, e6]; go_simp) (hK _ _ rfl hS)
  · intro l a w vs ts hv hu hl hR hS K hK
    have e19 : a.tmps.getD 19 undef = .int .i64 g := (hv 6 19 rfl (hl 6 (by kernel_rfl))).trans (hR 6 (by decide) (hl 6 (by kernel_rfl)))
    have f19 := getD_get e19
    exact St.ints_step .i64 3 rfl rfl ([g]) (by simp only [execOp, Act.eval, e19]; go_simp; try rfl) hS (by simp) (fun v1 w1 h1 => hK _ _ trivial h1)
  · intro l a w vs ts hv hu hl hR hS K hK
    have e18 : a.tmps.getD 18 undef = vs 5 := hv 5 18 rfl (hl 5 (by kernel_rfl))
    have e20 : a.tmps.getD 20 undef = vs 7 := hv 7 20 rfl (hl 7 (by kernel_rfl))
    have f18 := getD_get e18
    have f20 := getD_get e20
    exact St.app_step (Kd.int .i64) rfl (.tmp 18) (.tmp 20) 30 3 (.int .i64 0) 8 rfl Try.underlying30 info3 rfl (by decide) (by omega) (ys := [g]) (xs := L) e18 e20 (St.rd_of_row hS) (by simp; omega) (fun v1 w1 h1 => hK _ _ h1.slice_ h1)
  · intro l a w vs ts hv hu hl hR hS K hK
    have e1 : a.tmps.getD 1 undef = .pointer (some ⟨b, 0, none⟩) := (hu 1 (no_dst (by kernel_rfl) l)).trans rfl
    have f1 := getD_get e1
    exact value_ (v := .pointer (some ⟨b, 2, none⟩)) (w1 := w) rfl rfl (by simp only [execOp, Act.eval, e1]; go_simp) (hK _ _ rfl hS)
  · intro l a w vs ts hv hu hl hR hS K hK
    have e22 : a.tmps.getD 22 undef = .pointer (some ⟨b, 2, none⟩) := (hv 9 22 rfl (hl 9 (by kernel_rfl))).trans (hR 9 (by decide) (hl 9 (by kernel_rfl)))
    have f22 := getD_get e22
    have cc := (St.mem (t := boxT b 37 #[.int .i64 r, .slice Al L.length cl, .slice Af Fr.length cf, .slice Ag G.length cg]) (by simp) hS).box_cell 2 _ rfl
    obtain ⟨cc, -⟩ := cc
    exact value_ (v := .slice Af Fr.length cf) (w1 := w) rfl rfl (by simp only [execOp, Act.eval, e22]; go_simp) (hK _ _ rfl hS)
  · intro l a w vs ts hv hu hl hR hS K hK
    have e6 : a.tmps.getD 6 undef = .int .i64 g := (hu 6 (no_dst (by kernel_rfl) l)).trans rfl
    have f6 := getD_get e6
    exact value_ (v := .int .i64 g) (w1 := w) rfl rfl (by simp only [execOp, Act.eval, e6]; go_simp) (hK _ _ rfl hS)
  · intro l a w vs ts hv hu hl hR hS K hK
    have e23 : a.tmps.getD 23 undef = .slice Af Fr.length cf := (hv 10 23 rfl (hl 10 (by kernel_rfl))).trans (hR 10 (by decide) (hl 10 (by kernel_rfl)))
    have e24 : a.tmps.getD 24 undef = .int .i64 g := (hv 11 24 rfl (hl 11 (by kernel_rfl))).trans (hR 11 (by decide) (hl 11 (by kernel_rfl)))
    have f23 := getD_get e23
    have f24 := getD_get e24
    refine goes_ Try.func23 (by kernel_rfl) rfl #[.slice Af Fr.length cf, .int .i64 g] rfl rfl rfl (by simp [Act.eval, e23, e24]) ?_
    have hrf := (St.mem (t := rdT (Kd.int .i64) (.slice Af Fr.length cf) Fr) (by simp) hS).rd_C
    refine (catafalqueref08_without.calls k Af cf Fr g W _ hrf.2.2 hrf.2.1 HW.out).mono ?_
    rintro e w' ⟨v1, rfl, hR1, hb1⟩
    exact ⟨_, rfl, hK _ _ (hS.got hR1 hb1 (Nat.le_refl _)).slice_ (hS.got hR1 hb1 (Nat.le_refl _))⟩
  · intro l a w vs ts hv hu hl hR hS K hK
    exact St.ints_step .i64 3 rfl rfl (([] : List Int)) (by simp only [execOp, Act.eval]; go_simp; try rfl) hS (by simp) (fun v1 w1 h1 => hK _ _ trivial h1)
  · intro l a w vs ts hv hu hl hR hS K hK
    have e1 : a.tmps.getD 1 undef = .pointer (some ⟨b, 0, none⟩) := (hu 1 (no_dst (by kernel_rfl) l)).trans rfl
    have f1 := getD_get e1
    exact value_ (v := .pointer (some ⟨b, 3, none⟩)) (w1 := w) rfl rfl (by simp only [execOp, Act.eval, e1]; go_simp) (hK _ _ rfl hS)
  · intro l a w vs ts hv hu hl hR hS K hK
    have e27 : a.tmps.getD 27 undef = .pointer (some ⟨b, 3, none⟩) := (hv 14 27 rfl (hl 14 (by kernel_rfl))).trans (hR 14 (by decide) (hl 14 (by kernel_rfl)))
    have f27 := getD_get e27
    have cc := (St.mem (t := boxT b 37 #[.int .i64 r, .slice Al L.length cl, .slice Af Fr.length cf, .slice Ag G.length cg]) (by simp) hS).box_cell 3 _ rfl
    obtain ⟨cc, -⟩ := cc
    exact value_ (v := .slice Ag G.length cg) (w1 := w) rfl rfl (by simp only [execOp, Act.eval, e27]; go_simp) (hK _ _ rfl hS)
  · intro l a w vs ts hv hu hl hR hS K hK
    have e26 : a.tmps.getD 26 undef = vs 13 := hv 13 26 rfl (hl 13 (by kernel_rfl))
    have e28 : a.tmps.getD 28 undef = .slice Ag G.length cg := (hv 15 28 rfl (hl 15 (by kernel_rfl))).trans (hR 15 (by decide) (hl 15 (by kernel_rfl)))
    have f26 := getD_get e26
    have f28 := getD_get e28
    exact St.app_step (Kd.int .i64) rfl (.tmp 26) (.tmp 28) 30 3 (.int .i64 0) 8 rfl Try.underlying30 info3 rfl (by decide) (by omega) (ys := G) (xs := []) e26 e28 (St.copy (by simp [rdT]) hS) (by simp; omega) (fun v1 w1 h1 => hK _ _ h1.slice_ h1)
  · intro l a w vs ts hv hu hl hR hS K hK
    have e14 : a.tmps.getD 14 undef = .int .i64 r := (hv 1 14 rfl (hl 1 (by kernel_rfl))).trans (hR 1 (by decide) (hl 1 (by kernel_rfl)))
    have e21 : a.tmps.getD 21 undef = vs 8 := hv 8 21 rfl (hl 8 (by kernel_rfl))
    have e25 : a.tmps.getD 25 undef = vs 12 := hv 12 25 rfl (hl 12 (by kernel_rfl))
    have e29 : a.tmps.getD 29 undef = vs 16 := hv 16 29 rfl (hl 16 (by kernel_rfl))
    have f14 := getD_get e14
    have f21 := getD_get e21
    have f25 := getD_get e25
    have f29 := getD_get e29
    obtain ⟨A8, n8, c8, q8⟩ := hR 8 (by decide) (hl 8 (by kernel_rfl))
    obtain ⟨A12, n12, c12, q12⟩ := hR 12 (by decide) (hl 12 (by kernel_rfl))
    obtain ⟨A16, n16, c16, q16⟩ := hR 16 (by decide) (hl 16 (by kernel_rfl))
    rw [q8] at e21 f21
    rw [q12] at e25 f25
    rw [q16] at e29 f29
    exact value_ (v := (fun x y z => .agg #[.int .i64 r, x, y, z]) (.slice A8 n8 c8) (.slice A12 n12 c12) (.slice A16 n16 c16)) (w1 := w) rfl rfl (by simp only [execOp, Act.eval, e14, e21, e25, e29]; go_simp) (hK _ _ ⟨_, _, _, rfl, by rw [q8, q12, q16]⟩ hS)
  · intro l a w vs ts hv hu hl hR hS K hK
    exact St.alloc_step 37 rfl (by simp only [execOp, Act.eval]; go_simp) hS (fun v1 w1 h1 => hK _ _ trivial h1)
  · intro l a w vs ts hv hu hl hR hS K hK
    have e7 : a.tmps.getD 7 undef = vs 18 := hv 18 7 rfl (hl 18 (by kernel_rfl))
    have e30 : a.tmps.getD 30 undef = vs 17 := hv 17 30 rfl (hl 17 (by kernel_rfl))
    have f7 := getD_get e7
    have f30 := getD_get e30
    obtain ⟨x0, x1, x2, hx, hx30⟩ := hR 17 (by decide) (hl 17 (by kernel_rfl))
    cases hx
    obtain ⟨A8, n8, c8, q8⟩ := hR 8 (by decide) (hl 8 (by kernel_rfl))
    obtain ⟨A12, n12, c12, q12⟩ := hR 12 (by decide) (hl 12 (by kernel_rfl))
    obtain ⟨A16, n16, c16, q16⟩ := hR 16 (by decide) (hl 16 (by kernel_rfl))
    rw [hx30, q8, q12, q16] at e30
    refine St.set_step (cells := #[.int .i64 0, .slice none 0 0, .slice none 0 0, .slice none 0 0]) rfl 37 (.tmp 7) (.tmp 30) rfl rfl e7 e30 size37 rfl (by intro c hc; simp [Value.cells] at hc; rcases hc with rfl | rfl | rfl | rfl <;> rfl) hS (fun w1 h1 => ?_)
    exact hK (.tuple #[vs 18, vs 17]) w1 ⟨_, _, rfl, rfl⟩ (by rw [hx30, q8, q12, q16]; exact St.ghost h1)
  have k0 : vs 0 = .pointer (some ⟨b, 0, none⟩) := hvs 0 (by decide)
  have k1 : vs 1 = .int .i64 r := hvs 1 (by decide)
  have k3 : vs 3 = .pointer (some ⟨b, 1, none⟩) := hvs 3 (by decide)
  have k4 : vs 4 = .slice Al L.length cl := hvs 4 (by decide)
  have k6 : vs 6 = .int .i64 g := hvs 6 (by decide)
  have k8 : (fun (v : Value) (l : List Value) => ∃ A n c, v = .slice A n c) (vs 8) ([] : List Value) := hvs 8 (by decide)
  have k9 : vs 9 = .pointer (some ⟨b, 2, none⟩) := hvs 9 (by decide)
  have k10 : vs 10 = .slice Af Fr.length cf := hvs 10 (by decide)
  have k11 : vs 11 = .int .i64 g := hvs 11 (by decide)
  have k12 : (fun (v : Value) (l : List Value) => ∃ A n c, v = .slice A n c) (vs 12) ([] : List Value) := hvs 12 (by decide)
  have k14 : vs 14 = .pointer (some ⟨b, 3, none⟩) := hvs 14 (by decide)
  have k15 : vs 15 = .slice Ag G.length cg := hvs 15 (by decide)
  have k16 : (fun (v : Value) (l : List Value) => ∃ A n c, v = .slice A n c) (vs 16) ([] : List Value) := hvs 16 (by decide)
  have k17 : vs 17 = (fun x y z => .agg #[.int .i64 r, x, y, z]) (vs 8) (vs 12) (vs 16) := by obtain ⟨x0, x1, x2, h1, h2⟩ := hvs 17 (by decide); cases h1; exact h2
  have k19 : (fun (v : Value) (l : List Value) => ∃ p x, l = [p, x] ∧ v = .tuple #[p, x]) (vs 19) ([vs 18, vs 17] : List Value) := hvs 19 (by decide)
  replace HE : Own.St _ _ _ ([rowT (Kd.int .i64) 3 (vs 8) (L ++ [g])] ++ [rowT (Kd.int .i64) 3 (vs 12) (W)] ++ [rowT (Kd.int .i64) 3 (vs 16) (G)] ++ [ghostT (vs 19) 37] ++ (boxT (b + 1) 37 #[.int .i64 0, .slice none 0 0, .slice none 0 0, .slice none 0 0] :: boxT b 37 #[.int .i64 r, .slice Al L.length cl, .slice Af Fr.length cf, .slice Ag G.length cg] :: rdT (Kd.int .i64) (.slice Al L.length cl) L :: rdT (Kd.int .i64) (.slice Af Fr.length cf) Fr :: rdT (Kd.int .i64) (.slice Ag G.length cg) G :: ts)) wz := HE
  simp only [putsL, List.toList_toArray, Act.put, List.setIfInBounds_toArray, List.set_cons_zero, List.set_cons_succ, Nat.reduceAdd]
  rw [k0, k1, k3, k4, k6, k9, k10, k11, k14, k15, k17]
  clear hvs k0 k1 k3 k4 k6 k9 k10 k11 k14 k15
  generalize vs 2 = z2 at *
  generalize vs 5 = z5 at *
  generalize vs 7 = z7 at *
  generalize vs 8 = z8 at *
  generalize vs 12 = z12 at *
  generalize vs 13 = z13 at *
  generalize vs 16 = z16 at *
  generalize vs 18 = z18 at *
  generalize vs 19 = z19 at *
  obtain ⟨p0, x0, h1, h2⟩ := k19
  cases h1
  subst h2
  have HE1 := (St.pick (ts1 := [_, _, _]) HE).ghost_open
  rw [k17] at HE1
  dsimp only at HE1
  obtain ⟨b2, rfl, HE2⟩ := HE1.ptr_open
  obtain ⟨A8, c8, rfl⟩ := HE2.drop.slice
  obtain ⟨A12, c12, rfl⟩ := HE2.drop.drop.slice
  obtain ⟨gb, c16, rfl⟩ := HE2.drop.drop.drop.form (by omega)
  replace HE2 := Aside0.mk (St.pick (ts1 := [_, _, _]) HE2)
  clear HE HE1 k8 k12 k16 k17 HC1 HC2 HC3 HS3 HP HW
  go_wp2
  have hwr := HWR.out
  refine region_plan (ts0 := (boxT b2 37 #[.int .i64 r, .slice A8 (L ++ [g]).length c8, .slice A12 W.length c12, .slice (some ⟨gb, 0, none⟩) G.length c16] :: rowT (Kd.int .i64) 3 (.slice A8 (L ++ [g]).length c8) (L ++ [g]) :: rowT (Kd.int .i64) 3 (.slice A12 W.length c12) W :: boxT (b + 1) 37 #[.int .i64 0, .slice none 0 0, .slice none 0 0, .slice none 0 0] :: boxT b 37 #[.int .i64 r, .slice Al L.length cl, .slice Af Fr.length cf, .slice Ag G.length cg] :: rdT (Kd.int .i64) (.slice Al L.length cl) L :: rdT (Kd.int .i64) (.slice Af Fr.length cf) Fr :: rdT (Kd.int .i64) (.slice Ag G.length cg) G :: ts)) (fun _ => []) (fun i => match i with | 10 => [7] | _ => []) (fun i v l => match i with | 0 => v = .pointer (some ⟨b2, 3, none⟩) | 1 => v = .slice (some ⟨gb, 0, none⟩) G.length c16 | 2 => v = .int .i64 g | 3 => v = .pointer (some ⟨b2, 3, none⟩) | 4 => v = .slice (some ⟨gb, 0, none⟩) G.length c16 | 5 => v = .int .i64 g | 6 => v = .pointer (some ⟨gb, g.toNat, none⟩) | 7 => (fun (v : Value) (l : List Value) => v = .int .i64 (rd G g)) v l | 8 => v = .int .i64 (rd G g + 1) | 9 => v = .pointer (some ⟨gb, g.toNat, none⟩) | _ => True) (fun i v => match i with | 7 => (fun v => [rowT (Kd.int .i64) 3 (.slice (some ⟨gb, 0, none⟩) G.length c16) (G)]) v | 10 => (fun v => [rowT (Kd.int .i64) 3 (.slice (some ⟨gb, 0, none⟩) G.length c16) (G.set g.toNat (rd G g + 1))]) v | _ => []) [10] [7] (fun i => match i with | 7 => [rowT (Kd.int .i64) 3 (.slice (some ⟨gb, 0, none⟩) G.length c16) (G)] | _ => []) rfl (by kernel_rfl) (by kernel_rfl) (by kernel_rfl) (by kernel_rfl) (by kernel_rfl) (by kernel_rfl) HE2.out ⟨?_, ?_, ?_, ?_, ?_, ?_, ?_, ?_, ?_, ?_, ?_, trivial⟩ (fun vsb wzb hvt HE3 => ?_)
  · intro l a w vs ts hv hu hl hR hS K hK
    have e7 : a.tmps.getD 7 undef = .pointer (some ⟨b2, 0, none⟩) := (hu 7 (no_dst (by kernel_rfl) l)).trans rfl
    have f7 := getD_get e7
    exact value_ (v := .pointer (some ⟨b2, 3, none⟩)) (w1 := w) rfl rfl (by simp only [execOp, Act.eval, e7]; go_simp) (hK _ _ rfl hS)
  · intro l a w vs ts hv hu hl hR hS K hK
    have e31 : a.tmps.getD 31 undef = .pointer (some ⟨b2, 3, none⟩) := (hv 0 31 rfl (hl 0 (by kernel_rfl))).trans (hR 0 (by decide) (hl 0 (by kernel_rfl)))
    have f31 := getD_get e31
    have cc := (St.mem (t := boxT b2 37 #[.int .i64 r, .slice A8 (L ++ [g]).length c8, .slice A12 W.length c12, .slice (some ⟨gb, 0, none⟩) G.length c16]) (by simp) hS).box_cell 3 _ rfl
    obtain ⟨cc, -⟩ := cc
    exact value_ (v := .slice (some ⟨gb, 0, none⟩) G.length c16) (w1 := w) rfl rfl (by simp only [execOp, Act.eval, e31]; go_simp) (hK _ _ rfl hS)
  · intro l a w vs ts hv hu hl hR hS K hK
    have e6 : a.tmps.getD 6 undef = .int .i64 g := (hu 6 (no_dst (by kernel_rfl) l)).trans rfl
    have f6 := getD_get e6
    exact value_ (v := .int .i64 g) (w1 := w) rfl rfl (by simp only [execOp, Act.eval, e6]; go_simp) (hK _ _ rfl hS)
  · intro l a w vs ts hv hu hl hR hS K hK
    have e7 : a.tmps.getD 7 undef = .pointer (some ⟨b2, 0, none⟩) := (hu 7 (no_dst (by kernel_rfl) l)).trans rfl
    have f7 := getD_get e7
    exact value_ (v := .pointer (some ⟨b2, 3, none⟩)) (w1 := w) rfl rfl (by simp only [execOp, Act.eval, e7]; go_simp) (hK _ _ rfl hS)
  · intro l a w vs ts hv hu hl hR hS K hK
    have e34 : a.tmps.getD 34 undef = .pointer (some ⟨b2, 3, none⟩) := (hv 3 34 rfl (hl 3 (by kernel_rfl))).trans (hR 3 (by decide) (hl 3 (by kernel_rfl)))
    have f34 := getD_get e34
    have cc := (St.mem (t := boxT b2 37 #[.int .i64 r, .slice A8 (L ++ [g]).length c8, .slice A12 W.length c12, .slice (some ⟨gb, 0, none⟩) G.length c16]) (by simp) hS).box_cell 3 _ rfl
    obtain ⟨cc, -⟩ := cc
    exact value_ (v := .slice (some ⟨gb, 0, none⟩) G.length c16) (w1 := w) rfl rfl (by simp only [execOp, Act.eval, e34]; go_simp) (hK _ _ rfl hS)
  · intro l a w vs ts hv hu hl hR hS K hK
    have e6 : a.tmps.getD 6 undef = .int .i64 g := (hu 6 (no_dst (by kernel_rfl) l)).trans rfl
    have f6 := getD_get e6
    exact value_ (v := .int .i64 g) (w1 := w) rfl rfl (by simp only [execOp, Act.eval, e6]; go_simp) (hK _ _ rfl hS)
  · intro l a w vs ts hv hu hl hR hS K hK
    have e35 : a.tmps.getD 35 undef = .slice (some ⟨gb, 0, none⟩) G.length c16 := (hv 4 35 rfl (hl 4 (by kernel_rfl))).trans (hR 4 (by decide) (hl 4 (by kernel_rfl)))
    have e36 : a.tmps.getD 36 undef = .int .i64 g := (hv 5 36 rfl (hl 5 (by kernel_rfl))).trans (hR 5 (by decide) (hl 5 (by kernel_rfl)))
    have f35 := getD_get e35
    have f36 := getD_get e36
    exact value_ (v := .pointer (some ⟨gb, g.toNat, none⟩)) (w1 := w) rfl rfl (by simp only [execOp, Act.eval, e35, e36]; go_simp) (hK _ _ rfl hS)
  · intro l a w vs ts hv hu hl hR hS K hK
    have e37 : a.tmps.getD 37 undef = .pointer (some ⟨gb, g.toNat, none⟩) := (hv 6 37 rfl (hl 6 (by kernel_rfl))).trans (hR 6 (by decide) (hl 6 (by kernel_rfl)))
    have f37 := getD_get e37
    have cc := St.int_cell hS g hg0 hg1
    exact value_ (v := .int .i64 (rd G g)) (w1 := w) rfl rfl (by simp only [execOp, Act.eval, e37]; go_simp) (hK _ _ rfl hS)
  · intro l a w vs ts hv hu hl hR hS K hK
    have e38 : a.tmps.getD 38 undef = .int .i64 (rd G g) := (hv 7 38 rfl (hl 7 (by kernel_rfl))).trans (hR 7 (by decide) (hl 7 (by kernel_rfl)))
    have f38 := getD_get e38
    exact value_ (v := .int .i64 (rd G g + 1)) (w1 := w) rfl rfl (by simp only [execOp, Act.eval, e38]; go_simp) (hK _ _ rfl hS)
  · intro l a w vs ts hv hu hl hR hS K hK
    have e32 : a.tmps.getD 32 undef = .slice (some ⟨gb, 0, none⟩) G.length c16 := (hv 1 32 rfl (hl 1 (by kernel_rfl))).trans (hR 1 (by decide) (hl 1 (by kernel_rfl)))
    have e33 : a.tmps.getD 33 undef = .int .i64 g := (hv 2 33 rfl (hl 2 (by kernel_rfl))).trans (hR 2 (by decide) (hl 2 (by kernel_rfl)))
    have f32 := getD_get e32
    have f33 := getD_get e33
    exact value_ (v := .pointer (some ⟨gb, g.toNat, none⟩)) (w1 := w) rfl rfl (by simp only [execOp, Act.eval, e32, e33]; go_simp) (hK _ _ rfl hS)
  · intro l a w vs ts hv hu hl hR hS K hK
    have e40 : a.tmps.getD 40 undef = .pointer (some ⟨gb, g.toNat, none⟩) := (hv 9 40 rfl (hl 9 (by kernel_rfl))).trans (hR 9 (by decide) (hl 9 (by kernel_rfl)))
    have e39 : a.tmps.getD 39 undef = .int .i64 (rd G g + 1) := (hv 8 39 rfl (hl 8 (by kernel_rfl))).trans (hR 8 (by decide) (hl 8 (by kernel_rfl)))
    have f40 := getD_get e40
    have f39 := getD_get e39
    refine St.store_step (Kd.int .i64) (i := g.toNat) rfl 3 (.tmp 40) (.tmp 39) rfl rfl G (rd G g + 1) (.int .i64 (rd G g + 1)) e40 (by simp [Kd.int, Kd.scalar]) e39 (by kernel_rfl) (hS.pure (fun _ => rfl)) (by omega) (fun w1 h1 => ?_)
    exact hK undef w1 trivial h1
  have k0 : vsb 0 = .pointer (some ⟨b2, 3, none⟩) := hvt 0 (by decide)
  have k1 : vsb 1 = .slice (some ⟨gb, 0, none⟩) G.length c16 := hvt 1 (by decide)
  have k2 : vsb 2 = .int .i64 g := hvt 2 (by decide)
  have k3 : vsb 3 = .pointer (some ⟨b2, 3, none⟩) := hvt 3 (by decide)
  have k4 : vsb 4 = .slice (some ⟨gb, 0, none⟩) G.length c16 := hvt 4 (by decide)
  have k5 : vsb 5 = .int .i64 g := hvt 5 (by decide)
  have k6 : vsb 6 = .pointer (some ⟨gb, g.toNat, none⟩) := hvt 6 (by decide)
  have k7 : vsb 7 = .int .i64 (rd G g) := hvt 7 (by decide)
  have k8 : vsb 8 = .int .i64 (rd G g + 1) := hvt 8 (by decide)
  have k9 : vsb 9 = .pointer (some ⟨gb, g.toNat, none⟩) := hvt 9 (by decide)
  replace HE3 : Own.St _ _ _ ([rowT (Kd.int .i64) 3 (.slice (some ⟨gb, 0, none⟩) G.length c16) (G.set g.toNat (rd G g + 1))] ++ (boxT b2 37 #[.int .i64 r, .slice A8 (L ++ [g]).length c8, .slice A12 W.length c12, .slice (some ⟨gb, 0, none⟩) G.length c16] :: rowT (Kd.int .i64) 3 (.slice A8 (L ++ [g]).length c8) (L ++ [g]) :: rowT (Kd.int .i64) 3 (.slice A12 W.length c12) W :: boxT (b + 1) 37 #[.int .i64 0, .slice none 0 0, .slice none 0 0, .slice none 0 0] :: boxT b 37 #[.int .i64 r, .slice Al L.length cl, .slice Af Fr.length cf, .slice Ag G.length cg] :: rdT (Kd.int .i64) (.slice Al L.length cl) L :: rdT (Kd.int .i64) (.slice Af Fr.length cf) Fr :: rdT (Kd.int .i64) (.slice Ag G.length cg) G :: ts)) wzb := HE3
  simp only [putsL, List.toList_toArray, Act.put, List.setIfInBounds_toArray, List.set_cons_zero, List.set_cons_succ, Nat.reduceAdd]
  rw [k0, k1, k2, k3, k4, k5, k6, k7, k8, k9]
  clear hvt k0 k1 k2 k3 k4 k5 k6 k8 k9
  generalize vsb 7 = zb7 at *
  generalize vsb 10 = zb10 at *
  have HE4 := Aside0.mk ((St.pick (ts1 := [_, _, _, _]) HE3).ptr_of_box)
  clear HE3 HE2 hwr
  go_wp2
  obtain ⟨hg3, hg2⟩ := HG3.out
  refine region_plan (ts0 := (rowT (Kd.int .i64) 3 (.slice (some ⟨gb, 0, none⟩) G.length c16) (G.set g.toNat (rd G g + 1)) :: boxT b2 37 #[.int .i64 r, .slice A8 (L ++ [g]).length c8, .slice A12 W.length c12, .slice (some ⟨gb, 0, none⟩) G.length c16] :: rowT (Kd.int .i64) 3 (.slice A8 (L ++ [g]).length c8) (L ++ [g]) :: rowT (Kd.int .i64) 3 (.slice A12 W.length c12) W :: boxT b 37 #[.int .i64 r, .slice Al L.length cl, .slice Af Fr.length cf, .slice Ag G.length cg] :: rdT (Kd.int .i64) (.slice Al L.length cl) L :: rdT (Kd.int .i64) (.slice Af Fr.length cf) Fr :: rdT (Kd.int .i64) (.slice Ag G.length cg) G :: ts)) (fun _ => []) (fun _ => []) (fun i v l => match i with | 0 => v = .agg #[.int .i64 r, .slice A8 (L ++ [g]).length c8, .slice A12 W.length c12, .slice (some ⟨gb, 0, none⟩) G.length c16] | 1 => v = .int .i64 g | 2 => v = .pointer (some ⟨b2, 3, none⟩) | 3 => v = .slice (some ⟨gb, 0, none⟩) G.length c16 | 4 => v = .int .i64 g | 5 => v = .pointer (some ⟨gb, g.toNat, none⟩) | 6 => v = .int .i64 (rd G g + 1) | 8 => v = .int .i64 g | 9 => v = .int .i64 (rd G g + 1) | 10 => v = .bool true | _ => True) (fun i v => match i with | 7 => (fun v => [ptrT (.pointer (some ⟨b + 1, 0, none⟩)) 37 (Value.agg #[.int .i64 r, .slice A8 (L ++ [g]).length c8, .slice A12 W.length c12, .slice (some ⟨gb, 0, none⟩) G.length c16]).cells]) v | _ => []) [7] [7] (fun i => match i with | 7 => [ptrT (.pointer (some ⟨b + 1, 0, none⟩)) 37 #[.int .i64 0, .slice none 0 0, .slice none 0 0, .slice none 0 0]] | _ => []) rfl (by kernel_rfl) (by kernel_rfl) (by kernel_rfl) (by kernel_rfl) (by kernel_rfl) (by kernel_rfl) HE4.out ⟨?_, ?_, ?_, ?_, ?_, ?_, ?_, ?_, ?_, ?_, ?_, trivial⟩ (fun vsc wzc hvu HE5 => ?_)
  · intro l a w vs ts hv hu hl hR hS K hK
    have e7 : a.tmps.getD 7 undef = .pointer (some ⟨b2, 0, none⟩) := (hu 7 (no_dst (by kernel_rfl) l)).trans rfl
    have f7 := getD_get e7
    have hbx := St.mem (t := boxT b2 37 #[.int .i64 r, .slice A8 (L ++ [g]).length c8, .slice A12 W.length c12, .slice (some ⟨gb, 0, none⟩) G.length c16]) (by simp) hS
    have c0_ := (hbx.box_cell 0 _ rfl).1
    have c1_ := (hbx.box_cell 1 _ rfl).1
    have c2_ := (hbx.box_cell 2 _ rfl).1
    have c3_ := (hbx.box_cell 3 _ rfl).1
    exact value_ (v := .agg #[.int .i64 r, .slice A8 (L ++ [g]).length c8, .slice A12 W.length c12, .slice (some ⟨gb, 0, none⟩) G.length c16]) (w1 := w) rfl rfl (by simp only [execOp, Act.eval, e7]; go_simp) (hK _ _ rfl hS)
  · intro l a w vs ts hv hu hl hR hS K hK
    have e6 : a.tmps.getD 6 undef = .int .i64 g := (hu 6 (no_dst (by kernel_rfl) l)).trans rfl
    have f6 := getD_get e6
    exact value_ (v := .int .i64 g) (w1 := w) rfl rfl (by simp only [execOp, Act.eval, e6]; go_simp) (hK _ _ rfl hS)
  · intro l a w vs ts hv hu hl hR hS K hK
    have e7 : a.tmps.getD 7 undef = .pointer (some ⟨b2, 0, none⟩) := (hu 7 (no_dst (by kernel_rfl) l)).trans rfl
    have f7 := getD_get e7
    exact value_ (v := .pointer (some ⟨b2, 3, none⟩)) (w1 := w) rfl rfl (by simp only [execOp, Act.eval, e7]; go_simp) (hK _ _ rfl hS)
  · intro l a w vs ts hv hu hl hR hS K hK
    have e43 : a.tmps.getD 43 undef = .pointer (some ⟨b2, 3, none⟩) := (hv 2 43 rfl (hl 2 (by kernel_rfl))).trans (hR 2 (by decide) (hl 2 (by kernel_rfl)))
    have f43 := getD_get e43
    have cc := (St.mem (t := boxT b2 37 #[.int .i64 r, .slice A8 (L ++ [g]).length c8, .slice A12 W.length c12, .slice (some ⟨gb, 0, none⟩) G.length c16]) (by simp) hS).box_cell 3 _ rfl
    obtain ⟨cc, -⟩ := cc
    exact value_ (v := .slice (some ⟨gb, 0, none⟩) G.length c16) (w1 := w) rfl rfl (by simp only [execOp, Act.eval, e43]; go_simp) (hK _ _ rfl hS)
  · intro l a w vs ts hv hu hl hR hS K hK
    have e6 : a.tmps.getD 6 undef = .int .i64 g := (hu 6 (no_dst (by kernel_rfl) l)).trans rfl
    have f6 := getD_get e6
    exact value_ (v := .int .i64 g) (w1 := w) rfl rfl (by simp only [execOp, Act.eval, e6]; go_simp) (hK _ _ rfl hS)
  · intro l a w vs ts hv hu hl hR hS K hK
    have e44 : a.tmps.getD 44 undef = .slice (some ⟨gb, 0, none⟩) G.length c16 := (hv 3 44 rfl (hl 3 (by kernel_rfl))).trans (hR 3 (by decide) (hl 3 (by kernel_rfl)))
    have e45 : a.tmps.getD 45 undef = .int .i64 g := (hv 4 45 rfl (hl 4 (by kernel_rfl))).trans (hR 4 (by decide) (hl 4 (by kernel_rfl)))
    have f44 := getD_get e44
    have f45 := getD_get e45
    exact value_ (v := .pointer (some ⟨gb, g.toNat, none⟩)) (w1 := w) rfl rfl (by simp only [execOp, Act.eval, e44, e45]; go_simp) (hK _ _ rfl hS)
  · intro l a w vs ts hv hu hl hR hS K hK
    have e46 : a.tmps.getD 46 undef = .pointer (some ⟨gb, g.toNat, none⟩) := (hv 5 46 rfl (hl 5 (by kernel_rfl))).trans (hR 5 (by decide) (hl 5 (by kernel_rfl)))
    have f46 := getD_get e46
    have cc := St.int_cell (St.mem (t := rowT (Kd.int .i64) 3 (.slice (some ⟨gb, 0, none⟩) G.length c16) (G.set g.toNat (rd G g + 1))) (by simp) hS) g hg0 hg2
    rw [hg3] at cc
    exact value_ (v := .int .i64 (rd G g + 1)) (w1 := w) rfl rfl (by simp only [execOp, Act.eval, e46]; go_simp) (hK _ _ rfl hS)
  · intro l a w vs ts hv hu hl hR hS K hK
    have e2 : a.tmps.getD 2 undef = .pointer (some ⟨b + 1, 0, none⟩) := (hu 2 (no_dst (by kernel_rfl) l)).trans rfl
    have e41 : a.tmps.getD 41 undef = .agg #[.int .i64 r, .slice A8 (L ++ [g]).length c8, .slice A12 W.length c12, .slice (some ⟨gb, 0, none⟩) G.length c16] := (hv 0 41 rfl (hl 0 (by kernel_rfl))).trans (hR 0 (by decide) (hl 0 (by kernel_rfl)))
    have f2 := getD_get e2
    have f41 := getD_get e41
    refine St.set_step (cells := #[.int .i64 0, .slice none 0 0, .slice none 0 0, .slice none 0 0]) rfl 37 (.tmp 2) (.tmp 41) rfl rfl e2 e41 size37 rfl (by intro c hc; simp [Value.cells] at hc; rcases hc with rfl | rfl | rfl | rfl <;> rfl) hS (fun w1 h1 => hK undef w1 trivial h1)
  · intro l a w vs ts hv hu hl hR hS K hK
    have e42 : a.tmps.getD 42 undef = .int .i64 g := (hv 1 42 rfl (hl 1 (by kernel_rfl))).trans (hR 1 (by decide) (hl 1 (by kernel_rfl)))
    have f42 := getD_get e42
    exact value_ (v := .int .i64 g) (w1 := w) rfl rfl (by simp only [execOp, Act.eval, e42]; go_simp) (hK _ _ rfl hS)
  · intro l a w vs ts hv hu hl hR hS K hK
    have e47 : a.tmps.getD 47 undef = .int .i64 (rd G g + 1) := (hv 6 47 rfl (hl 6 (by kernel_rfl))).trans (hR 6 (by decide) (hl 6 (by kernel_rfl)))
    have f47 := getD_get e47
    exact value_ (v := .int .i64 (rd G g + 1)) (w1 := w) rfl rfl (by simp only [execOp, Act.eval, e47]; go_simp) (hK _ _ rfl hS)
  · intro l a w vs ts hv hu hl hR hS K hK
    exact value_ (v := .bool true) (w1 := w) rfl rfl (by simp only [execOp, Act.eval]; go_simp) (hK _ _ rfl hS)
  have k0 : vsc 0 = .agg #[.int .i64 r, .slice A8 (L ++ [g]).length c8, .slice A12 W.length c12, .slice (some ⟨gb, 0, none⟩) G.length c16] := hvu 0 (by decide)
  have k1 : vsc 1 = .int .i64 g := hvu 1 (by decide)
  have k2 : vsc 2 = .pointer (some ⟨b2, 3, none⟩) := hvu 2 (by decide)
  have k3 : vsc 3 = .slice (some ⟨gb, 0, none⟩) G.length c16 := hvu 3 (by decide)
  have k4 : vsc 4 = .int .i64 g := hvu 4 (by decide)
  have k5 : vsc 5 = .pointer (some ⟨gb, g.toNat, none⟩) := hvu 5 (by decide)
  have k6 : vsc 6 = .int .i64 (rd G g + 1) := hvu 6 (by decide)
  have k8 : vsc 8 = .int .i64 g := hvu 8 (by decide)
  have k9 : vsc 9 = .int .i64 (rd G g + 1) := hvu 9 (by decide)
  have k10 : vsc 10 = .bool true := hvu 10 (by decide)
  replace HE5 : Own.St _ _ _ ([ptrT (.pointer (some ⟨b + 1, 0, none⟩)) 37 (Value.agg #[.int .i64 r, .slice A8 (L ++ [g]).length c8, .slice A12 W.length c12, .slice (some ⟨gb, 0, none⟩) G.length c16]).cells] ++ (rowT (Kd.int .i64) 3 (.slice (some ⟨gb, 0, none⟩) G.length c16) (G.set g.toNat (rd G g + 1)) :: boxT b2 37 #[.int .i64 r, .slice A8 (L ++ [g]).length c8, .slice A12 W.length c12, .slice (some ⟨gb, 0, none⟩) G.length c16] :: rowT (Kd.int .i64) 3 (.slice A8 (L ++ [g]).length c8) (L ++ [g]) :: rowT (Kd.int .i64) 3 (.slice A12 W.length c12) W :: boxT b 37 #[.int .i64 r, .slice Al L.length cl, .slice Af Fr.length cf, .slice Ag G.length cg] :: rdT (Kd.int .i64) (.slice Al L.length cl) L :: rdT (Kd.int .i64) (.slice Af Fr.length cf) Fr :: rdT (Kd.int .i64) (.slice Ag G.length cg) G :: ts)) wzc := HE5
  simp only [putsL, List.toList_toArray, Act.put, List.setIfInBounds_toArray, List.set_cons_zero, List.set_cons_succ, Nat.reduceAdd]
  rw [k0, k1, k2, k3, k4, k5, k6, k8, k9, k10]
  clear hvu k0 k1 k2 k3 k4 k5 k6 k8 k9 k10
  generalize vsc 7 = zc7 at *
  obtain ⟨br, hbr, HE6⟩ := HE5.ptr_open
  obtain rfl : b + 1 = br := by injection hbr with h1; injection h1 with h1; injection h1
  have c0 := (HE6.box_cell 0 _ rfl).1
  have c1 := (HE6.box_cell 1 _ rfl).1
  have c2 := (HE6.box_cell 2 _ rfl).1
  have c3 := (HE6.box_cell 3 _ rfl).1
  have HE7 := Aside0.mk HE6.drop
  clear hbr HE5 HE6 HE4 HG3 hg3 hg2
  go_wp2
  exact bodyPost_ret (v := .tuple #[.agg #[.int .i64 r, .slice A8 (L ++ [g]).length c8, .slice A12 W.length c12, .slice (some ⟨gb, 0, none⟩) G.length c16], .int .i64 g, .int .i64 (rd G g + 1), .bool true]) (by simp [results, Try.results17, go_sem, c0, c1, c2, c3]) rfl ⟨_, _, _, rfl, take_fin HE7.out⟩
end Go.Proofs.Ytpoecjieagkoaaa.Arena
