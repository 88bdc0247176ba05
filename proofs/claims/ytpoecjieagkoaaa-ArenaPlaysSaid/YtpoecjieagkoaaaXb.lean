/- Arena: the document's Free. No condition. -/
import Derived.Test.YtpoecjieagkoaaaXa
namespace Go.Proofs.Ytpoecjieagkoaaa.Arena
open Go Go.ChangeMaps Go.RowKit Go.Proofs.YtpoecjieagkoaaaW.PrintWords Go.Proofs.YtpoecjieagkoaaaW.PrintLast Go.Proofs.YtpoecjieagkoaaaW.PrintMore Go.Proofs.Ytpoecjieagkoaaa.PTake Go.Proofs.Ytpoecjieagkoaaa.Own
set_option linter.unusedVariables false
set_option linter.unusedSimpArgs false
theorem free_fin {w0 w : World} {F0 P0 : Nat → Prop} {ts : List Thing} {d : Kd Int} {vg vl vf : Value} {G W F : List Int} {b2 x y z : Thing} (h : Own.St w0 F0 P0 (b2 :: rowT d 3 vl W :: rowT d 3 vf F :: x :: y :: z :: rdT d vg G :: ts) w) : Own.St w0 F0 P0 (rdT d vl W :: rdT d vf F :: rdT d vg G :: ts) w := by
  have h1 := h.drop.rd_of_row
  have h2 := (St.pick (ts1 := [_]) h1).rd_of_row
  have h3 := (St.pick (ts1 := [_, _]) h2).drop
  have h4 := (St.pick (ts1 := [_, _]) h3).drop
  have h5 := (St.pick (ts1 := [_, _]) h4).drop
  exact h5.perm (List.Perm.swap _ _ _)
set_option maxHeartbeats 2000000 in
theorem refFree (w0 w : World) (F0 P0 : Nat → Prop) (ts : List Thing) (r g : Int) (L Fr G W : List Int) (vl vf vg : Value) (h : Own.St w0 F0 P0 (rdT (Kd.int .i64) vl L :: rdT (Kd.int .i64) vf Fr :: rdT (Kd.int .i64) vg G :: ts) w) (k : Nat) (hp : catafalqueref01_In.f k L g = some true) (hW : catafalqueref08_without.f k L g = some W) (hLn : Fr.length ≤ 100000) :
  Calls Try.prog 18 #[.agg #[.int .i64 r, vl, vf, vg], .int .i64 g] w fun e w' => ∃ v1 v2, e = .returned (.tuple #[.agg #[.int .i64 r, v1, v2, vg], .bool true]) ∧ Own.St w0 F0 P0 (rdT (Kd.int .i64) v1 W :: rdT (Kd.int .i64) v2 (Fr ++ [g]) :: rdT (Kd.int .i64) vg G :: ts) w' := by
  obtain ⟨Al, cl, rfl, hcl, hl⟩ := h.rd_open
  obtain ⟨Af, cf, rfl, hcf, hf⟩ := (St.pick (ts1 := [_]) h).rd_open
  obtain ⟨Ag, cg, rfl, hcg, hgn⟩ := (St.pick (ts1 := [_, _]) h).rd_open
  obtain ⟨b, hb⟩ : ∃ b, w.heap.size = b := ⟨_, rfl⟩
  have hb1 : Below w.heap.size w ((w.alloc (.cells #[.int .i64 r, .slice Al L.length cl, .slice Af Fr.length cf, .slice Ag G.length cg] 37)).alloc (.cells #[.int .i64 0, .slice none 0 0, .slice none 0 0, .slice none 0 0] 37)) := below_alloc (below_alloc (Below.refl _ _) _) _
  have hS := ((h.box #[.int .i64 r, .slice Al L.length cl, .slice Af Fr.length cf, .slice Ag G.length cg] 37).box #[.int .i64 0, .slice none 0 0, .slice none 0 0, .slice none 0 0] 37)
  rw [show (w.alloc (.cells #[.int .i64 r, .slice Al L.length cl, .slice Af Fr.length cf, .slice Ag G.length cg] 37)).heap.size = b + 1 from by simp [hb], hb] at hS
  have HS := Aside0.mk hS
  have HW := Aside0.mk hW
  have HP := Aside0.mk hp
  have HC1 := Aside0.mk (Kd.C_below hl hb1)
  have HBZ := Aside0.mk hb
  clear hS h hl hf hgn hp hW hb1 hb
  go_enter Try.func18, Try.ntmps18
  go_wp2_with (first | (go_at_call 13; (with_reducible refine (catafalqueref01_In.calls k Al cl L g true _ HC1.out hcl HP.out).mono ?_); rintro e w3 ⟨rfl, hb⟩; have HS3 := Aside0.mk (HS.out.below hb.below); clear HS hb))
  have HS4 := Aside0.mk HS3.out.ptr_of_box
  rw [HBZ.out]
  refine region_plan (ts0 := (boxT b 37 #[.int .i64 r, .slice Al L.length cl, .slice Af Fr.length cf, .slice Ag G.length cg] :: rdT (Kd.int .i64) (.slice Al L.length cl) L :: rdT (Kd.int .i64) (.slice Af Fr.length cf) Fr :: rdT (Kd.int .i64) (.slice Ag G.length cg) G :: ts)) (fun i => match i with | 15 => [5, 12] | 16 => [15] | _ => []) (fun i => match i with | 9 => [6] | 12 => [11, 9] | _ => []) (fun i v l => match i with | 0 => v = .pointer (some ⟨b, 0, none⟩) | 1 => v = .int .i64 r | 2 => v = .pointer (some ⟨b, 1, none⟩) | 3 => v = .slice Al L.length cl | 4 => v = .int .i64 g | 5 => (fun (v : Value) (l : List Value) => ∃ A n c, v = .slice A n c) v l | 7 => v = .pointer (some ⟨b, 2, none⟩) | 8 => v = .slice Af Fr.length cf | 10 => v = .int .i64 g | 12 => (fun (v : Value) (l : List Value) => ∃ A n c, v = .slice A n c) v l | 13 => v = .pointer (some ⟨b, 3, none⟩) | 14 => v = .slice Ag G.length cg | 15 => ∃ x0 x1, l = [x0, x1] ∧ v = (fun x y => .agg #[.int .i64 r, x, y, .slice Ag G.length cg]) (x0) (x1) | 16 => (fun (v : Value) (l : List Value) => ∃ x, l = [x] ∧ v = .tuple #[.pointer (some ⟨b + 1, 0, none⟩), x]) v l | 17 => v = .bool true | _ => True) (fun i v => match i with | 5 => (fun v => [rowT (Kd.int .i64) 3 v (W)]) v | 6 => (fun v => [rowT (Kd.int .i64) 3 v (([] : List Int))]) v | 9 => (fun v => [rowT (Kd.int .i64) 3 v (Fr)]) v | 11 => (fun v => [rowT (Kd.int .i64) 3 v ([g])]) v | 12 => (fun v => [rowT (Kd.int .i64) 3 v (Fr ++ [g])]) v | 16 => (fun v => [ghostT v 37]) v | _ => []) [5, 12, 16] [16] (fun i => match i with | 16 => [ptrT (.pointer (some ⟨b + 1, 0, none⟩)) 37 #[.int .i64 0, .slice none 0 0, .slice none 0 0, .slice none 0 0]] | _ => []) rfl (by kernel_rfl) (by kernel_rfl) (by kernel_rfl) (by kernel_rfl) (by kernel_rfl) (by kernel_rfl) HS4.out ⟨?_, ?_, ?_, ?_, ?_, ?_, ?_, ?_, ?_, ?_, ?_, ?_, ?_, ?_, ?_, ?_, ?_, ?_, trivial⟩ (fun vs wz hvs HE => ?_)
  · intro l a w vs ts hv hu hl hR hS K hK
    have e2 : a.tmps.getD 2 undef = .pointer (some ⟨b, 0, none⟩) := (hu 2 (no_dst (by kernel_rfl) l)).trans rfl
    have f2 := getD_get e2
    exact value_ (v := .pointer (some ⟨b, 0, none⟩)) (w1 := w) rfl rfl (by simp only [execOp, Act.eval, e2]; go_simp) (hK _ _ rfl hS)
  · intro l a w vs ts hv hu hl hR hS K hK
    have e12 : a.tmps.getD 12 undef = .pointer (some ⟨b, 0, none⟩) := (hv 0 12 rfl (hl 0 (by kernel_rfl))).trans (hR 0 (by decide) (hl 0 (by kernel_rfl)))
    have f12 := getD_get e12
    have cc := (St.mem (t := boxT b 37 #[.int .i64 r, .slice Al L.length cl, .slice Af Fr.length cf, .slice Ag G.length cg]) (by simp) hS).box_cell 0 _ rfl
    obtain ⟨cc, -⟩ := cc
    exact value_ (v := .int .i64 r) (w1 := w) rfl rfl (by simp only [execOp, Act.eval, e12]; go_simp) (hK _ _ rfl hS)
  · intro l a w vs ts hv hu hl hR hS K hK
    have e2 : a.tmps.getD 2 undef = .pointer (some ⟨b, 0, none⟩) := (hu 2 (no_dst (by kernel_rfl) l)).trans rfl
    have f2 := getD_get e2
    exact value_ (v := .pointer (some ⟨b, 1, none⟩)) (w1 := w) rfl rfl (by simp only [execOp, Act.eval, e2]; go_simp) (hK _ _ rfl hS)
  · intro l a w vs ts hv hu hl hR hS K hK
    have e14 : a.tmps.getD 14 undef = .pointer (some ⟨b, 1, none⟩) := (hv 2 14 rfl (hl 2 (by kernel_rfl))).trans (hR 2 (by decide) (hl 2 (by kernel_rfl)))
    have f14 := getD_get e14
    have cc := (St.mem (t := boxT b 37 #[.int .i64 r, .slice Al L.length cl, .slice Af Fr.length cf, .slice Ag G.length cg]) (by simp) hS).box_cell 1 _ rfl
    obtain ⟨cc, -⟩ := cc
    exact value_ (v := .slice Al L.length cl) (w1 := w) rfl rfl (by simp only [execOp, Act.eval, e14]; go_simp) (hK _ _ rfl hS)
  · intro l a w vs ts hv hu hl hR hS K hK
    have e1 : a.tmps.getD 1 undef = .int .i64 g := (hu 1 (no_dst (by kernel_rfl) l)).trans rfl
    have f1 := getD_get e1
    exact value_ (v := .int .i64 g) (w1 := w) rfl rfl (by simp only [execOp, Act.eval, e1]; go_simp) (hK _ _ rfl hS)
  · intro l a w vs ts hv hu hl hR hS K hK
    have e15 : a.tmps.getD 15 undef = .slice Al L.length cl := (hv 3 15 rfl (hl 3 (by kernel_rfl))).trans (hR 3 (by decide) (hl 3 (by kernel_rfl)))
    have e16 : a.tmps.getD 16 undef = .int .i64 g := (hv 4 16 rfl (hl 4 (by kernel_rfl))).trans (hR 4 (by decide) (hl 4 (by kernel_rfl)))
    have f15 := getD_get e15
    have f16 := getD_get e16
    refine goes_ Try.func23 (by kernel_rfl) rfl #[.slice Al L.length cl, .int .i64 g] rfl rfl rfl (by simp [Act.eval, e15, e16]) ?_
    have hrf := (St.mem (t := rdT (Kd.int .i64) (.slice Al L.length cl) L) (by simp) hS).rd_C
    refine (catafalqueref08_without.calls k Al cl L g W _ hrf.2.2 hrf.2.1 HW.out).mono ?_
    rintro e w' ⟨v1, rfl, hR1, hb1⟩
    exact ⟨_, rfl, hK _ _ (hS.got hR1 hb1 (Nat.le_refl _)).slice_ (hS.got hR1 hb1 (Nat.le_refl _))⟩
  · intro l a w vs ts hv hu hl hR hS K hK
    exact St.ints_step .i64 3 rfl rfl (([] : List Int)) (by simp only [execOp, Act.eval]; go_simp; try rfl) hS (by simp) (fun v1 w1 h1 => hK _ _ trivial h1)
  · intro l a w vs ts hv hu hl hR hS K hK
    have e2 : a.tmps.getD 2 undef = .pointer (some ⟨b, 0, none⟩) := (hu 2 (no_dst (by kernel_rfl) l)).trans rfl
    have f2 := getD_get e2
    exact value_ (v := .pointer (some ⟨b, 2, none⟩)) (w1 := w) rfl rfl (by simp only [execOp, Act.eval, e2]; go_simp) (hK _ _ rfl hS)
  · intro l a w vs ts hv hu hl hR hS K hK
    have e19 : a.tmps.getD 19 undef = .pointer (some ⟨b, 2, none⟩) := (hv 7 19 rfl (hl 7 (by kernel_rfl))).trans (hR 7 (by decide) (hl 7 (by kernel_rfl)))
    have f19 := getD_get e19
    have cc := (St.mem (t := boxT b 37 #[.int .i64 r, .slice Al L.length cl, .slice Af Fr.length cf, .slice Ag G.length cg]) (by simp) hS).box_cell 2 _ rfl
    obtain ⟨cc, -⟩ := cc
    exact value_ (v := .slice Af Fr.length cf) (w1 := w) rfl rfl (by simp only [execOp, Act.eval, e19]; go_simp) (hK _ _ rfl hS)
  · intro l a w vs ts hv hu hl hR hS K hK
    have e18 : a.tmps.getD 18 undef = vs 6 := hv 6 18 rfl (hl 6 (by kernel_rfl))
    have e20 : a.tmps.getD 20 undef = .slice Af Fr.length cf := (hv 8 20 rfl (hl 8 (by kernel_rfl))).trans (hR 8 (by decide) (hl 8 (by kernel_rfl)))
    have f18 := getD_get e18
    have f20 := getD_get e20
    exact St.app_step (Kd.int .i64) rfl (.tmp 18) (.tmp 20) 30 3 (.int .i64 0) 8 rfl Try.underlying30 info3 rfl (by decide) (by omega) (ys := Fr) (xs := []) e18 e20 (St.copy (by simp [rdT]) hS) (by simp; omega) (fun v1 w1 h1 => hK _ _ trivial h1)
  · intro l a w vs ts hv hu hl hR hS K hK
    have e1 : a.tmps.getD 1 undef = .int .i64 g := (hu 1 (no_dst (by kernel_rfl) l)).trans rfl
    have f1 := getD_get e1
    exact value_ (v := .int .i64 g) (w1 := w) rfl rfl (by simp only [execOp, Act.eval, e1]; go_simp) (hK _ _ rfl hS)
  · intro l a w vs ts hv hu hl hR hS K hK
    have e22 : a.tmps.getD 22 undef = .int .i64 g := (hv 10 22 rfl (hl 10 (by kernel_rfl))).trans (hR 10 (by decide) (hl 10 (by kernel_rfl)))
    have f22 := getD_get e22
    exact St.ints_step .i64 3 rfl rfl ([g]) (by simp only [execOp, Act.eval, e22]; go_simp; try rfl) hS (by simp) (fun v1 w1 h1 => hK _ _ trivial h1)
  · intro l a w vs ts hv hu hl hR hS K hK
    have e21 : a.tmps.getD 21 undef = vs 9 := hv 9 21 rfl (hl 9 (by kernel_rfl))
    have e23 : a.tmps.getD 23 undef = vs 11 := hv 11 23 rfl (hl 11 (by kernel_rfl))
    have f21 := getD_get e21
    have f23 := getD_get e23
    exact St.app_step (Kd.int .i64) rfl (.tmp 21) (.tmp 23) 30 3 (.int .i64 0) 8 rfl Try.underlying30 info3 rfl (by decide) (by omega) (ys := [g]) (xs := Fr) e21 e23 (St.rd_of_row hS) (by simp; omega) (fun v1 w1 h1 => hK _ _ h1.slice_ h1)
  · intro l a w vs ts hv hu hl hR hS K hK
    have e2 : a.tmps.getD 2 undef = .pointer (some ⟨b, 0, none⟩) := (hu 2 (no_dst (by kernel_rfl) l)).trans rfl
    have f2 := getD_get e2
    exact value_ (v := .pointer (some ⟨b, 3, none⟩)) (w1 := w) rfl rfl (by simp only [execOp, Act.eval, e2]; go_simp) (hK _ _ rfl hS)
  · intro l a w vs ts hv hu hl hR hS K hK
    have e25 : a.tmps.getD 25 undef = .pointer (some ⟨b, 3, none⟩) := (hv 13 25 rfl (hl 13 (by kernel_rfl))).trans (hR 13 (by decide) (hl 13 (by kernel_rfl)))
    have f25 := getD_get e25
    have cc := (St.mem (t := boxT b 37 #[.int .i64 r, .slice Al L.length cl, .slice Af Fr.length cf, .slice Ag G.length cg]) (by simp) hS).box_cell 3 _ rfl
    obtain ⟨cc, -⟩ := cc
    exact value_ (v := .slice Ag G.length cg) (w1 := w) rfl rfl (by simp only [execOp, Act.eval, e25]; go_simp) (hK _ _ rfl hS)
  · intro l a w vs ts hv hu hl hR hS K hK
    have e13 : a.tmps.getD 13 undef = .int .i64 r := (hv 1 13 rfl (hl 1 (by kernel_rfl))).trans (hR 1 (by decide) (hl 1 (by kernel_rfl)))
    have e17 : a.tmps.getD 17 undef = vs 5 := hv 5 17 rfl (hl 5 (by kernel_rfl))
    have e24 : a.tmps.getD 24 undef = vs 12 := hv 12 24 rfl (hl 12 (by kernel_rfl))
    have e26 : a.tmps.getD 26 undef = .slice Ag G.length cg := (hv 14 26 rfl (hl 14 (by kernel_rfl))).trans (hR 14 (by decide) (hl 14 (by kernel_rfl)))
    have f13 := getD_get e13
    have f17 := getD_get e17
    have f24 := getD_get e24
    have f26 := getD_get e26
    obtain ⟨A5, n5, c5, q5⟩ := hR 5 (by decide) (hl 5 (by kernel_rfl))
    obtain ⟨A12, n12, c12, q12⟩ := hR 12 (by decide) (hl 12 (by kernel_rfl))
    rw [q5] at e17 f17
    rw [q12] at e24 f24
    exact value_ (v := (fun x y => .agg #[.int .i64 r, x, y, .slice Ag G.length cg]) (.slice A5 n5 c5) (.slice A12 n12 c12)) (w1 := w) rfl rfl (by simp only [execOp, Act.eval, e13, e17, e24, e26]; go_simp) (hK _ _ ⟨_, _, rfl, by rw [q5, q12]⟩ hS)
  · intro l a w vs ts hv hu hl hR hS K hK
    have e4 : a.tmps.getD 4 undef = .pointer (some ⟨b + 1, 0, none⟩) := (hu 4 (no_dst (by kernel_rfl) l)).trans rfl
    have e27 : a.tmps.getD 27 undef = vs 15 := hv 15 27 rfl (hl 15 (by kernel_rfl))
    have f4 := getD_get e4
    have f27 := getD_get e27
    obtain ⟨x0, x1, hx, hx30⟩ := hR 15 (by decide) (hl 15 (by kernel_rfl))
    cases hx
    obtain ⟨A5, n5, c5, q5⟩ := hR 5 (by decide) (hl 5 (by kernel_rfl))
    obtain ⟨A12, n12, c12, q12⟩ := hR 12 (by decide) (hl 12 (by kernel_rfl))
    rw [hx30, q5, q12] at e27
    refine St.set_step (cells := #[.int .i64 0, .slice none 0 0, .slice none 0 0, .slice none 0 0]) rfl 37 (.tmp 4) (.tmp 27) rfl rfl e4 e27 size37 rfl (by intro c hc; simp [Value.cells] at hc; rcases hc with rfl | rfl | rfl | rfl <;> rfl) hS (fun w1 h1 => ?_)
    exact hK (.tuple #[.pointer (some ⟨b + 1, 0, none⟩), vs 15]) w1 ⟨_, rfl, rfl⟩ (by rw [hx30, q5, q12]; exact St.ghost h1)
  · intro l a w vs ts hv hu hl hR hS K hK
    exact value_ (v := .bool true) (w1 := w) rfl rfl (by simp only [execOp, Act.eval]; go_simp) (hK _ _ rfl hS)
  have k0 : vs 0 = .pointer (some ⟨b, 0, none⟩) := hvs 0 (by decide)
  have k1 : vs 1 = .int .i64 r := hvs 1 (by decide)
  have k2 : vs 2 = .pointer (some ⟨b, 1, none⟩) := hvs 2 (by decide)
  have k3 : vs 3 = .slice Al L.length cl := hvs 3 (by decide)
  have k4 : vs 4 = .int .i64 g := hvs 4 (by decide)
  have k5 : (fun (v : Value) (l : List Value) => ∃ A n c, v = .slice A n c) (vs 5) ([] : List Value) := hvs 5 (by decide)
  have k7 : vs 7 = .pointer (some ⟨b, 2, none⟩) := hvs 7 (by decide)
  have k8 : vs 8 = .slice Af Fr.length cf := hvs 8 (by decide)
  have k10 : vs 10 = .int .i64 g := hvs 10 (by decide)
  have k12 : (fun (v : Value) (l : List Value) => ∃ A n c, v = .slice A n c) (vs 12) ([] : List Value) := hvs 12 (by decide)
  have k13 : vs 13 = .pointer (some ⟨b, 3, none⟩) := hvs 13 (by decide)
  have k14 : vs 14 = .slice Ag G.length cg := hvs 14 (by decide)
  have k15 : vs 15 = (fun x y => .agg #[.int .i64 r, x, y, .slice Ag G.length cg]) (vs 5) (vs 12) := by obtain ⟨x0, x1, h1, h2⟩ := hvs 15 (by decide); cases h1; exact h2
  have k16 : (fun (v : Value) (l : List Value) => ∃ x, l = [x] ∧ v = .tuple #[.pointer (some ⟨b + 1, 0, none⟩), x]) (vs 16) ([vs 15] : List Value) := hvs 16 (by decide)
  have k17 : vs 17 = .bool true := hvs 17 (by decide)
  replace HE : Own.St _ _ _ ([rowT (Kd.int .i64) 3 (vs 5) (W)] ++ [rowT (Kd.int .i64) 3 (vs 12) (Fr ++ [g])] ++ [ghostT (vs 16) 37] ++ (boxT b 37 #[.int .i64 r, .slice Al L.length cl, .slice Af Fr.length cf, .slice Ag G.length cg] :: rdT (Kd.int .i64) (.slice Al L.length cl) L :: rdT (Kd.int .i64) (.slice Af Fr.length cf) Fr :: rdT (Kd.int .i64) (.slice Ag G.length cg) G :: ts)) wz := HE
  simp only [putsL, List.toList_toArray, Act.put, List.setIfInBounds_toArray, List.set_cons_zero, List.set_cons_succ, Nat.reduceAdd]
  rw [k0, k1, k2, k3, k4, k7, k8, k10, k13, k14, k15, k17]
  clear hvs k0 k1 k2 k3 k4 k7 k8 k10 k13 k14 k17
  generalize vs 5 = z5 at *
  generalize vs 6 = z6 at *
  generalize vs 9 = z9 at *
  generalize vs 11 = z11 at *
  generalize vs 12 = z12 at *
  generalize vs 16 = z16 at *
  obtain ⟨x0, h1, h2⟩ := k16
  cases h1
  subst h2
  have HE1 := (St.pick (ts1 := [_, _]) HE).ghost_open
  rw [k15] at HE1
  dsimp only at HE1
  obtain ⟨br, hbr, HE6⟩ := HE1.ptr_open
  obtain rfl : b + 1 = br := by injection hbr with h1; injection h1 with h1; injection h1
  obtain ⟨A5, c5, rfl⟩ := HE6.drop.slice
  obtain ⟨A12, c12, rfl⟩ := HE6.drop.drop.slice
  have c0 := (HE6.box_cell 0 _ rfl).1
  have c1 := (HE6.box_cell 1 _ rfl).1
  have c2 := (HE6.box_cell 2 _ rfl).1
  have c3 := (HE6.box_cell 3 _ rfl).1
  have HE7 := Aside0.mk HE6
  clear hbr HE HE1 HE6 HS3 HS4 HC1 HP HW k5 k12 k15
  go_wp2
  exact bodyPost_ret (v := .tuple #[.agg #[.int .i64 r, .slice A5 W.length c5, .slice A12 (Fr ++ [g]).length c12, .slice Ag G.length cg], .bool true]) (by simp [results, Try.results18, go_sem, c0, c1, c2, c3]) rfl ⟨_, _, rfl, free_fin HE7.out⟩
end Go.Proofs.Ytpoecjieagkoaaa.Arena
