/- Who is near: the walk, in memory. No condition. -/
import Derived.Test.YtjfaafnngloblaaNear2
import Derived.OwnWalk
import Derived.WalkKit
import Derived.KernelRfl
import Derived.Deep.LoopGhost
import Derived.Deep.QuietTactic
import Derived.BigQuiet
import Derived.Tactics
import Derived.Deep.DeepCutAuto
import Derived.Deep.CutBlock
namespace Go.Proofs.Ytjfaafnngloblaa.Ev
open Go Go.Proofs
set_option linter.unusedVariables false
set_option linter.unusedSimpArgs false
open Go.RowKit (Below)
set_option maxRecDepth 100000
/-- A fact that the walk's simp doesn't look into. -/
structure Aside0 (p : Prop) : Prop where mk :: (out : p)
section
variable {P : Program} {ops : Array Oper} {rest : List Oper} {o : Oper} {a : Act} {Q : Exit → Act → World → Prop} {W : World}
theorem gate_builtin {b : Builtin} {xs : Array Operand} {ts : Array TypeId} (_ho : o.op = .call { callee := .builtin b, args := xs, argTypes := ts }) (h : wpList P ops Q (o :: rest) a W) : wpList P ops Q (o :: rest) a W := h
end
theorem below_alloc' {w W : World} (h : Below w.heap.size w W) (o : Obj) : Below w.heap.size w (W.alloc o) := h.alloc h.size o
theorem below_step' {w W w2 : World} (h : Below w.heap.size w W) (k : Below W.heap.size W w2) : Below w.heap.size w w2 :=
  ⟨k.os.trans h.os, k.tape.trans h.tape, k.output.trans h.output, Nat.le_trans h.size k.size, fun i hi => (k.block i (Nat.lt_of_lt_of_le hi h.size)).trans (h.block i hi)⟩
theorem cell_below' {w w1 : World} (h : Below w.heap.size w w1) {a : Addr} {v : Value} (hc : w.cell? a = some v) : w1.cell? a = some v :=
  (World.cell?_of_block (w := w) (h.block a.block (World.block_lt_of_cell? w a hc))).trans hc
theorem DR.under {Z : Zs} {w W : World} {a : AV} {v : Value} (hz : ∀ b o, Z b o → b < w.heap.size) (h : DR Z w a v) (hB : Below w.heap.size w W) : DR Z W a v :=
  DR.ext ⟨fun _ _ h => h, fun b o hb => World.cell?_of_block (w := w) (hB.block b (hz b o hb))⟩ h
theorem pcI_at {f : FuncId} {args : List AV} {x : Value} {Z : Zs} {w W : World} {vs : Array Value} (hpc : PC P f args (.v x)) (hz : ∀ b o, Z b o → b < w.heap.size) (hl : args.length = vs.size) (hR : ∀ i, i < args.length → DR Z w (args.getD i .dead) (vs.getD i undef)) (hB : Below w.heap.size w W) :
    Calls P f vs W fun e w' => e = .returned x ∧ Below W.heap.size W w' := by
  refine (hpc Z W vs (fun b o h => Nat.lt_of_lt_of_le (hz b o h) hB.size) hl (fun i hi => (hR i hi).under hz hB)).mono ?_
  rintro e w' ⟨v, Z', rfl, G, _, _, _, hv⟩
  cases hv
  exact ⟨rfl, ⟨G.os, G.tape, G.output, G.size, fun k hk => G.old hk⟩⟩
theorem Gv.pcS {P : Program} {X : Prims} (hX : OKX P X) {f : FuncId} {args : List AV} {l : List AV} (h : Gv P X f args (.sl .no l)) (ha : args.all d2 = true) (hs : args.map s2 = args) : ∃ o, PC P f args (.sl o l) := by
  obtain ⟨k, hk⟩ := h
  obtain ⟨r0, S, T, h0, hd, hr⟩ := hk k (Nat.le_refl _)
  obtain ⟨o, rfl⟩ : ∃ o, r0 = .sl o l := by
    cases r0 with
    | sl o m => simp only [s3, s2, s1, s0, AV.sl.injEq, true_and] at hr; exact ⟨o, by rw [hr]⟩
    | _ => simp [s3, s2, s1, s0] at hr
  exact ⟨o, FC.pure (evF_sound hX k f args [] [] _ S T h0).2 ha (fun i hi => by
    have h2 := congrArg (fun l => l.getD i .dead) hs
    simpa [List.getD_eq_getElem?_getD, hi] using h2) hd⟩
theorem len_at {f : FuncId} {args : List AV} {o : Tok} {l : List AV} {Z : Zs} {w W : World} {vs : Array Value} (hpc : PC P f args (.sl o l)) (hz : ∀ b o, Z b o → b < w.heap.size) (hl : args.length = vs.size) (hR : ∀ i, i < args.length → DR Z w (args.getD i .dead) (vs.getD i undef)) (hB : Below w.heap.size w W) :
    Calls P f vs W fun e w' => (∃ A c, e = .returned (.slice A l.length c)) ∧ Below W.heap.size W w' := by
  refine (hpc Z W vs (fun b o h => Nat.lt_of_lt_of_le (hz b o h) hB.size) hl (fun i hi => (hR i hi).under hz hB)).mono ?_
  rintro e w' ⟨v, Z', rfl, G, _, _, _, hv⟩
  refine ⟨?_, ⟨G.os, G.tape, G.output, G.size, fun k hk => G.old hk⟩⟩
  rcases hv.sl_inv with ⟨rfl, A, c, rfl, _⟩ | ⟨b, p, c, k, xs, rfl, _⟩
  · exact ⟨A, c, rfl⟩
  · exact ⟨_, c, rfl⟩
theorem own_move' {w w1 : World} {base : Nat} {e : TypeId} {size n : Nat} {v : Value} {xs : List Value} (h : w.ownsRow base e size v n xs) (hm : ∀ k, v.ownBlock = some k → w1.heap[k]? = w.heap[k]?) : w1.ownsRow base e size v n xs :=
  ⟨h.1, h.2.imp id fun ⟨g, cap, cur, hv, hb, hg, hr⟩ => ⟨g, cap, cur, hv, hb, (hm g (by rw [hv]; rfl)).trans hg, hr⟩⟩
theorem own_low {W : World} {b base n : Nat} {e : TypeId} {size : Nat} {v : Value} {xs : List Value} (h : W.ownsRow b e size v n xs) (hle : base ≤ b) : W.ownsRow base e size v n xs :=
  ⟨h.1, h.2.imp id fun ⟨g, cap, cur, he, hb, hr⟩ => ⟨g, cap, cur, he, Nat.le_trans hle hb, hr⟩⟩
theorem below_grown' {B : Nat} {W5 wr w8 : World} {u : Value} {o : Obj} {e : TypeId} {size n : Nat} {xs : List Value} (h : Below B W5 wr) (hB : B ≤ W5.heap.size) (hr : wr.ownsRow B e size u n xs) (hg : (wr.alloc o).grownBy w8 u.ownBlock) : Below B W5 w8 := by
  have hs : (wr.alloc o).heap.size = wr.heap.size + 1 := by simp
  refine ⟨hg.os.trans h.os, hg.tape.trans h.tape, hg.output.trans h.output, by have := hg.size; have := h.size; omega, fun k hk => ?_⟩
  have h1 := h.size
  rw [hg.block k (by omega) (fun he => ?_), heap_alloc_old _ _ (by omega)]
  · exact h.block k hk
  · rcases hr.2 with ⟨rfl, _⟩ | ⟨g, cap, cur, rfl, hb, _⟩
    · cases he
    · simp only [Value.ownBlock, Option.some.injEq] at he; omega
theorem own_base {W wr : World} {b B n : Nat} {e : TypeId} {size : Nat} {v : Value} {xs ys : List Value} (h : W.ownsRow b e size v n xs) (h2 : wr.ownsRow B e size v n ys) : W.ownsRow B e size v n xs := by
  refine ⟨h.1, ?_⟩
  rcases h.2 with h1 | ⟨g, cap, cur, rfl, hb, hr⟩
  · exact .inl h1
  · rcases h2.2 with ⟨h1, _⟩ | ⟨g', cap', cur', h1, hb', _⟩
    · cases h1
    · cases h1; exact .inr ⟨g, cap, cur, rfl, hb', hr⟩
theorem below_keep {W5 w' wr : World} {B n0 : Nat} {e : TypeId} {size n : Nat} {v : Value} {xs : List Value} {w : World} (h : Below w.heap.size w wr) (hr : wr.ownsRow B e size v n xs) (hB : w.heap.size ≤ B) (hk : Keep (fun k => v.ownBlock = some k) wr w') : Below w.heap.size w w' := by
  refine ⟨hk.os.trans h.os, hk.tape.trans h.tape, hk.output.trans h.output, Nat.le_trans h.size hk.size, fun k hlt => ?_⟩
  have h1 := h.size
  rw [hk.block k (by omega) (fun he => ?_)]
  · exact h.block k hlt
  · rcases hr.2 with ⟨rfl, _⟩ | ⟨g, cap, cur, rfl, hb, _⟩
    · cases he
    · simp only [Value.ownBlock, Option.some.injEq] at he; omega
theorem infoI : (P.info? 3).map (fun i => (i.zero, i.size, i.bytes)) = some (some (.int .i64 0), 1, 8) := by kernel_rfl
set_option maxHeartbeats 2000000 in
theorem near_run {t : List SVtx} {p : Int} {Z : Zs} {w : World} {A0 : Option Addr} {c0 : Nat} (ht : t.length ≤ 1000) (hin : inP t p) (hz : ∀ b o, Z b o → b < w.heap.size) (hD : DR Z w (encT t) (.slice A0 t.length c0)) :
    Calls P 16 #[.slice A0 t.length c0, .int .i64 p] w fun e w' => ∃ v : Value, e = .returned v ∧ w'.ownsRow w.heap.size 3 1 v (others p (procN t)).length ((sorted (procN t) p t).map (Value.int .i64)) ∧ Below w.heap.size w w' := by
  have hN := procN_of hin.valid
  have h32 := procN_le t
  obtain ⟨hp0, hp1⟩ := hin
  have hin : inP t p := ⟨hp0, hp1⟩
  have HPROC : Aside0 (∀ W, Below w.heap.size w W → Calls P 24 #[.slice A0 t.length c0, .int .i64 p] W fun e w' => e = .returned (.int .i64 (vx t p : Int)) ∧ Below W.heap.size W w') := ⟨fun W hB => by
    have h := (proc_g low0 t p ht).pcI okx0 rfl rfl
    rw [if_pos hin] at h
    exact pcI_at h hz rfl (fun i hi => match i, hi with
      | 0, _ => hD
      | 1, _ => .v _ rfl) hB⟩
  have HPROCS : Aside0 (∀ W, Below w.heap.size w W → Calls P 28 #[.slice A0 t.length c0] W fun e w' => (∃ A c, e = .returned (.slice A (procN t) c)) ∧ Below W.heap.size W w') := ⟨fun W hB => by
    obtain ⟨o, h⟩ := (procs_g low0 t ht).pcS okx0 rfl rfl
    have h2 := len_at h hz rfl (vs := #[.slice A0 t.length c0]) (fun i hi => match i, hi with | 0, _ => hD) hB
    rw [List.length_map, ← hN] at h2
    exact h2⟩
  have HK := Aside0.mk (And.intro hp0 (And.intro hp1 h32))
  have HZD := Aside0.mk (And.intro hz hD)
  clear hz hD hp0 hp1 h32 hN hin
  have hneg' : decide ((vx t p : Int) < 0) = false := decide_eq_false (by omega)
  generalize (vx t p : Int) = v at *
  have Hb1 : Below w.heap.size w ((w.alloc (.cells #[.slice A0 t.length c0] 22)).alloc (.cells #[.int .i64 p] 3)) := below_alloc' (below_alloc' (Below.refl _ _) _) _
  have HT1 := Aside0.mk (show ((w.alloc (.cells #[.slice A0 t.length c0] 22)).alloc (.cells #[.int .i64 p] 3)).cell? ⟨w.heap.size, 0, none⟩ = some (.slice A0 t.length c0) by simp)
  have HP1 := Aside0.mk (show ((w.alloc (.cells #[.slice A0 t.length c0] 22)).alloc (.cells #[.int .i64 p] 3)).cell? ⟨w.heap.size + 1, 0, none⟩ = some (.int .i64 p) by simp)
  go_enter Try.func16, Try.ntmps16
  go_wp2_with (first | (go_at_call 24; (with_reducible refine (HPROC.out _ Hb1).mono ?_); rintro e w3 ⟨rfl, hb⟩; have HB := Aside0.mk (below_step' Hb1 hb); have ct3 := cell_below' hb HT1.out; have cp3 := cell_below' hb HP1.out; clear hb HT1 HP1 Hb1) | (go_at_call 28; (with_reducible refine (HPROCS.out _ HB.out).mono ?_); rintro e w4 ⟨⟨A4, c4, rfl⟩, hb⟩; have HB4 := Aside0.mk (below_step' HB.out hb); have ct4 := cell_below' hb ct3; have cp4 := cell_below' hb cp3; clear hb ct3 cp3))
  have z1 : w.heap.size < w4.heap.size := World.block_lt_of_cell? w4 _ ct4
  have z2 : w.heap.size + 1 < w4.heap.size := World.block_lt_of_cell? w4 _ cp4
  have ct5 : (w4.alloc (.cells #[.int .i64 (procN t : Int)] 3)).cell? ⟨w.heap.size, 0, none⟩ = some (.slice A0 t.length c0) := cell_below' (below_alloc' (Below.refl _ _) _) ct4
  have cp5 : (w4.alloc (.cells #[.int .i64 (procN t : Int)] 3)).cell? ⟨w.heap.size + 1, 0, none⟩ = some (.int .i64 p) := cell_below' (below_alloc' (Below.refl _ _) _) cp4
  have cn5 : (w4.alloc (.cells #[.int .i64 (procN t : Int)] 3)).cell? ⟨w4.heap.size, 0, none⟩ = some (.int .i64 (procN t : Int)) := by simp
  have hz5 : (w4.alloc (.cells #[.int .i64 (procN t : Int)] 3)).heap.size = w4.heap.size + 1 := by simp
  have HB5 := Aside0.mk (below_alloc' HB4.out (.cells #[.int .i64 (procN t : Int)] 3))
  clear HB4 ct4 cp4 HB
  generalize w4.alloc (.cells #[.int .i64 (procN t : Int)] 3) = W5 at ct5 cp5 cn5 hz5 HB5 ⊢
  generalize w4.heap.size = b4 at z1 z2 cn5 hz5 ⊢
  have HT := Aside0.mk ct5
  have HN := Aside0.mk cn5
  have HPc := Aside0.mk cp5
  have Z5 := Aside0.mk (And.intro z1 (And.intro z2 hz5))
  clear ct5 cn5 cp5 z1 z2 hz5 HPROC HPROCS
  have HQ : Aside0 (∃ n, n = procN t) := ⟨_, rfl⟩
  go_loopg [6, 7, 16] (procN t + 1) (fun kq v6 v7 v16 w' => ∃ i : Nat, v16 = .int .i64 (i : Int) ∧ Aside0 (i + kq = procN t + 1 ∧ 1 ≤ kq) ∧ Aside0 (w'.ownsRow (b4 + 1) 3 1 v6 (others p i).length ((others p i).map (Value.int .i64))) ∧ Aside0 (Below (b4 + 1) W5 w'))
  case atStart => exact ⟨0, rfl, ⟨by omega, by omega⟩, ⟨⟨rfl, .inl ⟨rfl, rfl⟩⟩⟩, ⟨Below.refl _ _⟩⟩
  case round =>
    obtain ⟨i, rfl, HA, HO, HBw⟩ := hrel
    cases gk with
    | zero => exact absurd HA.out.2 (by omega)
    | succ k1 =>
      have cpw : wr.cell? ⟨w.heap.size + 1, 0, none⟩ = some (.int .i64 p) := (HBw.out.cell (p := ⟨w.heap.size + 1, 0, none⟩) (by show w.heap.size + 1 < b4 + 1; have := Z5.out.2.1; omega)).trans HPc.out
      by_cases hin : i < procN t
      · have hnext : Value.int .i64 (Go.RowKit.wrap64 ((i : Int) + 1)) = Value.int .i64 ((i + 1 : Nat) : Int) := by rw [show Go.RowKit.wrap64 ((i : Int) + 1) = ((i + 1 : Nat) : Int) by have := HK.out; unfold Go.RowKit.wrap64; omega]
        have c1 : decide ((i : Int) < (procN t : Int)) = true := decide_eq_true (by omega)
        by_cases hne : (i : Int) = p
        · have c2 : ((i : Int) != p) = false := bne_eq_false_iff_eq.mpr hne
          go_wp2
          go_roundg k1
          case measure => have := HA.out; omega
          case rel => exact ⟨i + 1, by first | exact hnext | (rw [← hne]; exact hnext), ⟨by have := HA.out; omega, by have := HA.out; omega⟩, ⟨by rw [others, if_neg (by omega)]; exact HO.out⟩, HBw⟩
        · have c2 : ((i : Int) != p) = true := bne_iff_ne.mpr hne
          obtain ⟨ii, hi0, hi1, hi2, hi3⟩ := info_parts infoI
          have HO1 : Aside0 (∀ b, (wr.alloc (.cells #[.int .i64 b] 3)).ownsRow (b4 + 1) 3 1 u6 (others p i).length ((others p i).map (Value.int .i64))) := ⟨fun b => HO.out.alloc _⟩
          have HN1 : Aside0 (∀ j u, ([.int .i64 (i : Int)] : List Value)[j]? = some u → (wr.alloc (.cells #[.int .i64 (i : Int)] 3)).cell? ((⟨wr.heap.size, 0, none⟩ : Addr).add j) = some u) := ⟨fun j u hj => by
            obtain ⟨hj0, rfl⟩ := List.getElem?_eq_some_iff.1 hj
            obtain rfl : j = 0 := by simpa using hj0
            simp [Addr.add]⟩
          have HU1 : Aside0 (∀ u ∈ ([.int .i64 (i : Int)] : List Value), u.oneCell' = true) := ⟨fun u hu => by simp at hu; subst hu; rfl⟩
          have HM1 : Aside0 ((others p i).length + 1 ≤ maxLen ∧ ((others p i).length + 1) * 8 ≤ 140737488355328 ∧ b4 + 1 ≤ (wr.alloc (.cells #[.int .i64 (i : Int)] 3)).heap.size) := ⟨by
            have h1 := @others_len p i
            have h2 := HBw.out.size
            have h3 := Z5.out
            have h4 := HK.out
            refine ⟨by simp only [maxLen]; omega, by omega, by simp; omega⟩⟩
          go_wp2_with (first | ((with_reducible refine gate_builtin (b := .append) (xs := #[.tmp 22, .tmp 24]) rfl ?_); at_builtin; refine wpList_append_own _ rfl (.tmp 22) (.tmp 24) 27 rfl (b4 + 1) 3 ii (.int .i64 0) 1 8 Try.underlying27 hi0 hi1 hi2 hi3 rfl (by decide) u6 (others p i).length ((others p i).map (Value.int .i64)) rfl (HO1.out _) ⟨wr.heap.size, 0, none⟩ 1 1 [.int .i64 (i : Int)] rfl rfl ?aN ?aU ?aM ?aL ?aS ?_; (case aN => exact HN1.out); (case aU => exact HU1.out); (case aM => exact HM1.out.1); (case aL => exact HM1.out.2.1); (case aS => exact HM1.out.2.2); intro v103 w8 ho hg hat; have HO2 := Aside0.mk ho; have HG2 := Aside0.mk hg; clear ho hg hat))
          go_roundg k1
          case measure => have := HA.out; omega
          case rel => exact ⟨i + 1, hnext, ⟨by have := HA.out; omega, by have := HA.out; omega⟩, ⟨by have := HO2.out; rw [others, if_pos hne, List.map_append, List.length_append]; exact this⟩, ⟨below_grown' HBw.out (by have := Z5.out; omega) HO.out HG2.out⟩⟩
      · have c1 : decide ((i : Int) < (procN t : Int)) = false := decide_eq_false (by omega)
        have hi : i = procN t := by have := HA.out; omega
        subst hi
        have hBW : Below w.heap.size w wr := HB5.out.trans (HBw.out.mono (by have := Z5.out; omega))
        have HS := Aside0.mk (sort_run (Z := Z) (W := wr) (bt := w.heap.size) (bp := w.heap.size + 1) (bn := b4) (v := u6) ht ⟨HK.out.1, HK.out.2.1⟩ (by have := HK.out; omega) (fun b o h => Nat.lt_of_lt_of_le (HZD.out.1 b o h) hBW.size) (DR.under HZD.out.1 HZD.out.2 hBW)
          ((HBw.out.cell (p := ⟨w.heap.size, 0, none⟩) (by show w.heap.size < b4 + 1; have := Z5.out; omega)).trans HT.out) cpw ((HBw.out.cell (p := ⟨b4, 0, none⟩) (by show b4 < b4 + 1; omega)).trans HN.out) (own_low HO.out (Nat.zero_le _))
          (fun g c k hv hk => by
            have hg : b4 + 1 ≤ g := by
              rcases HO.out.2 with ⟨h, h2⟩ | ⟨g', cap, cur, h, h2, _⟩
              · rw [hv] at h; cases h
              · rw [hv] at h; cases h; exact h2
            have := Z5.out
            exact ⟨fun o h => by have := HZD.out.1 g o h; omega, by omega, by omega, by omega⟩))
        have HBW := Aside0.mk hBW
        clear hBW
        go_wp2_with (go_at_call 29; (with_reducible refine (HS.out).mono ?_); rintro e w' ⟨rfl, hR, hb⟩; have HR9 := Aside0.mk hR; have HB9 := Aside0.mk hb; clear hR hb)
        go_ret
        refine ⟨_, rfl, ?_, ?_⟩
        · exact own_low (own_base HR9.out HO.out) (by have := Z5.out; omega)
        · exact below_keep (W5 := W5) (n0 := 0) HBW.out HO.out (by have := Z5.out; omega) HB9.out
theorem near_no {t : List SVtx} {p : Int} (ht : t.length ≤ 1000) (hin : ¬ inP t p) : Gv P X0 16 [encT t, I p] (L []) := by
  refine gv_of (X := X0) rfl fun16 rfl ?_
  simp +decide only [Try.f16, encT, go_sem, Nat.reduceAdd]
  refine WO_call rfl rfl rfl rfl rfl (proc_g low0 t p ht) ?_
  rw [if_neg hin]
  simp +decide only [go_sem]
  exact ⟨_, rfl, rfl, rfl⟩
/-- dist.Near, on values. -/
theorem near_pc {t : List SVtx} {p : Int} {o : Tok} (ht : t.length ≤ 1000) : PC P 16 [.sl o (t.map encV), I p] (L (nearOf t p)) := by
  by_cases hin : inP t p
  · intro Z w vs hz hl hR
    obtain ⟨v0, v1, rfl⟩ : ∃ a b, vs = #[a, b] := by
      obtain ⟨l⟩ := vs
      match l, hl with
      | [a, b], _ => exact ⟨a, b, rfl⟩
    have h0 : DR Z w (encT t) v0 := (hR 0 (by simp)).tok
    have h1 := hR 1 (by simp)
    obtain ⟨A0, c0, rfl⟩ : ∃ A c, v0 = .slice A t.length c := by
      rcases h0.sl_inv with ⟨h, A, c, rfl, _⟩ | ⟨b, q, c, k, xs, rfl, _⟩
      · have : t.length = 0 := by simpa using congrArg List.length h
        rw [this]; exact ⟨A, c, rfl⟩
      · exact ⟨_, c, by rw [List.length_map]⟩
    obtain rfl : v1 = .int .i64 p := by cases h1; rfl
    refine (near_run ht hin hz h0).mono ?_
    rintro e w' ⟨v, rfl, hrow, hB⟩
    have hs : sorted (procN t) p t = nearOf t p := sorted_near hin
    have hlen : (others p (procN t)).length = (nearOf t p).length := by rw [← hs]; simp [sorted]
    rw [hs, hlen] at hrow
    refine ⟨v, fun b o => Z b o ∨ (v.ownBlock = some b ∧ o < (nearOf t p).length ∧ w.heap.size ≤ b ∧ b < w'.heap.size), rfl, ⟨hB.os, hB.tape, hB.output, hB.size, fun k hk _ => hB.block k hk⟩, ⟨fun b o h => .inl h, fun b o h => World.cell?_of_block (w := w) (hB.block b (hz b o h))⟩, ?_, ?_, ?_⟩
    · rintro b o (h | h)
      · exact .inl h
      · exact .inr h.2.2.1
    · rintro b o (h | h)
      · exact Nat.lt_of_lt_of_le (hz b o h) hB.size
      · exact h.2.2.2
    · rcases hrow.2 with ⟨rfl, h0⟩ | ⟨g, cap, cur, rfl, hb, hg, hn, hm, hsz, htk⟩
      · rw [List.eq_nil_of_length_eq_zero h0]; exact .nil _ none 0 (fun _ => rfl)
      · have hgl : g < w'.heap.size := by
          rcases Nat.lt_or_ge g w'.heap.size with h | h
          · exact h
          · rw [Array.getElem?_eq_none h] at hg; cases hg
        have hget : ∀ i, i < (nearOf t p).length → w'.cell? ⟨g, i, none⟩ = some (.int .i64 ((nearOf t p).getD i 0)) := by
          intro i hi
          have h2 : (cur.toList.take ((nearOf t p).length * 1))[i]? = some (.int .i64 ((nearOf t p).getD i 0)) := by
            rw [htk]; simp [List.getD_eq_getElem?_getD, hi]
          rw [List.getElem?_take, if_pos (by omega)] at h2
          simpa [World.cell?, hg] using h2
        have := DR.sl (Z := fun b o => Z b o ∨ ((Value.slice (some ⟨g, 0, none⟩) (nearOf t p).length cap).ownBlock = some b ∧ o < (nearOf t p).length ∧ w.heap.size ≤ b ∧ b < w'.heap.size)) (w := w') .no ((nearOf t p).map I) g 0 cap 1 (fun i _ => .int .i64 ((nearOf t p).getD i 0)) (by simpa using hn)
          (fun i hi => by
            have hi' : i < (nearOf t p).length := by simpa using hi
            simp [List.getD_eq_getElem?_getD, hi', AV.cells])
          (fun i j hi hj => by
            have hi' : i < (nearOf t p).length := by simpa using hi
            obtain rfl : j = 0 := by omega
            exact ⟨.inr ⟨rfl, by omega, hb, hgl⟩, by have := hget i hi'; simpa using this⟩)
          (fun i j hi hj => by
            have hi' : i < (nearOf t p).length := by simpa using hi
            obtain rfl : j = 0 := by omega
            have e : (((nearOf t p).map I).getD i .dead) = I ((nearOf t p).getD i 0) := by simp [List.getD_eq_getElem?_getD, hi']
            rw [e]
            exact .v _ rfl)
        rw [List.length_map] at this
        exact this
  · rw [nearOf, if_neg hin]
    obtain ⟨o', h⟩ := (near_no ht hin).pcS okx0 rfl rfl
    intro Z w vs hz hl hR
    refine (h Z w vs hz hl (fun i hi => ?_)).mono ?_
    · match i, hi with
      | 0, _ => exact (hR 0 (by simp)).tok
      | 1, _ => exact hR 1 (by simp)
    · rintro e w' ⟨v, Z', h1, h2, h3, h4, h5, h6⟩
      exact ⟨v, Z', h1, h2, h3, h4, h5, h6.tok⟩
def decV : AV → Option SVtx
  | .agg [.v (.int .i64 a), .v (.int .i64 b)] => some ⟨a, b⟩
  | _ => none
def decT : List AV → Option (List SVtx)
  | [] => some []
  | a :: l => match decV a, decT l with
    | some x, some t => some (x :: t)
    | _, _ => none
theorem decV_ok {a : AV} {x : SVtx} (h : decV a = some x) : a = encV x := by
  unfold decV at h
  split at h
  · cases h; rfl
  · cases h
theorem decT_ok : ∀ {l : List AV} {t : List SVtx}, decT l = some t → l = t.map encV
  | [], t, h => by cases h; rfl
  | a :: l, t, h => by
    unfold decT at h
    split at h
    · rename_i x t' h1 h2
      cases h
      rw [decV_ok h1, decT_ok h2]; rfl
    · cases h
theorem decT_enc : ∀ t : List SVtx, decT (t.map encV) = some t
  | [] => rfl
  | x :: t => by rw [List.map_cons, decT, decT_enc t]; rfl
def nearG : List AV → Option AV
  | [.sl _ l, .v (.int .i64 p)] => match decT l with
    | some t => if t.length ≤ 1000 then some (L (nearOf t p)) else none
    | none => none
  | _ => none
/-- What is known otherwise: dist.Near. -/
def XN : Prims := fun f => if f = 16 then some nearG else none
theorem lowN : Low XN := fun f h => if_neg h
theorem okxN : OKX P XN := by
  intro f g args r hf hg
  unfold XN at hf
  split at hf
  case isFalse => cases hf
  rename_i he
  subst he
  cases hf
  unfold nearG at hg
  split at hg
  case h_2 => cases hg
  rename_i o l p
  split at hg
  case h_2 => cases hg
  rename_i t ht
  split at hg
  case isFalse => cases hg
  rename_i hle
  cases hg
  obtain rfl := decT_ok ht
  exact ⟨⟨_, Try.func16, by decide, rfl⟩, near_pc hle⟩
theorem near_g (t : List SVtx) (p : Int) (ht : t.length ≤ 1000) : Gv P XN 16 [encT t, I p] (L (nearOf t p)) := by
  refine ⟨1, fun k hk => ?_⟩
  obtain ⟨j, rfl⟩ : ∃ j, k = j + 1 := ⟨k - 1, by omega⟩
  refine ⟨L (nearOf t p), [], [], ?_, rfl, ?_⟩
  · have e1 : XN 16 = some nearG := rfl
    have e2 : nearG ([encT t, I p].map s2) = some (L (nearOf t p)) := by
      show (match decT (t.map encV) with | some t => if t.length ≤ 1000 then some (L (nearOf t p)) else none | none => none) = _
      rw [decT_enc]
      exact if_pos ht
    simp only [evF, e1, e2]
    rfl
  · rfl
end Go.Proofs.Ytjfaafnngloblaa.Ev
