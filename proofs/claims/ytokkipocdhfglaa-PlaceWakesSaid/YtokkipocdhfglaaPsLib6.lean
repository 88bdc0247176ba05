/- A law's arguments as values: runs. No condition. -/
import Derived.Test.YtokkipocdhfglaaPsLib5
import Derived.OwnWalk
import Derived.WalkKit
import Derived.KernelRfl
import Derived.Deep.LoopGhost
import Derived.Deep.QuietTactic
import Derived.BigQuiet
import Derived.Tactics
import Derived.Deep.DeepCutAuto
import Derived.Deep.CutBlock
import Derived.Test.YtokkipocdhfglaaProg
import Derived.Shelf.Spec.SlicesGrow
import Derived.Ground.Names8Prog
import Derived.Test.YtokkipocdhfglaaPsLib4
namespace Go.Proofs.Ytokkipocdhfglaa.Ev
open Go Go.Proofs
set_option linter.unusedVariables false
set_option linter.unusedSimpArgs false
open Go.RowKit (Below)
set_option maxRecDepth 100000
/-- A fact that the walk's simp doesn't look into. -/
structure Aside0 (p : Prop) : Prop where mk :: (out : p)
section
variable {P : Program} {ops : Array Oper} {rest : List Oper} {o : Oper} {a : Act} {Q : Exit → Act → World → Prop} {W : World}
theorem gate_builtin {b : Builtin} {xs : Array Operand} {ts : Array TypeId} (_ho : o.op = .call { callee := .builtin b, args := xs, argTypes := ts }) (h : wpList P ops Q (o :: rest) a W) : wpList P ops Q (o :: rest) a W := h
end
theorem below_alloc' {w W : World} (h : Below w.heap.size w W) (o : Obj) : Below w.heap.size w (W.alloc o) := h.alloc h.size o
theorem below_step' {w W w2 : World} (h : Below w.heap.size w W) (k : Below W.heap.size W w2) : Below w.heap.size w w2 :=
  ⟨k.os.trans h.os, k.tape.trans h.tape, k.output.trans h.output, Nat.le_trans h.size k.size, fun i hi => (k.block i (Nat.lt_of_lt_of_le hi h.size)).trans (h.block i hi)⟩
theorem cell_below' {w w1 : World} (h : Below w.heap.size w w1) {a : Addr} {v : Value} (hc : w.cell? a = some v) : w1.cell? a = some v :=
  (World.cell?_of_block (w := w) (h.block a.block (World.block_lt_of_cell? w a hc))).trans hc
theorem DR.under {Z : Zs} {w W : World} {a : AV} {v : Value} (hz : ∀ b o, Z b o → b < w.heap.size) (h : DR Z w a v) (hB : Below w.heap.size w W) : DR Z W a v :=
  DR.ext ⟨fun _ _ h => h, fun b o hb => World.cell?_of_block (w := w) (hB.block b (hz b o hb))⟩ h
theorem pcI_at {f : FuncId} {args : List AV} {x : Value} {Z : Zs} {w W : World} {vs : Array Value} (hpc : PC P f args (.v x)) (hz : ∀ b o, Z b o → b < w.heap.size) (hl : args.length = vs.size) (hR : ∀ i, i < args.length → DR Z w (args.getD i .dead) (vs.getD i undef)) (hB : Below w.heap.size w W) :
    Calls P f vs W fun e w' => e = .returned x ∧ Below W.heap.size W w' := by
  refine (hpc Z W vs (fun b o h => Nat.lt_of_lt_of_le (hz b o h) hB.size) hl (fun i hi => (hR i hi).under hz hB)).mono ?_
  rintro e w' ⟨v, Z', rfl, G, _, _, _, hv⟩
  cases hv
  exact ⟨rfl, ⟨G.os, G.tape, G.output, G.size, fun k hk => G.old hk⟩⟩
theorem Gv.pcS {P : Program} {X : Prims} (hX : OKX P X) {f : FuncId} {args : List AV} {l : List AV} (h : Gv P X f args (.sl .no l)) (ha : args.all d2 = true) (hs : args.map s2 = args) : ∃ o, PC P f args (.sl o l) := by
  obtain ⟨r0, hr, hp⟩ := h.pc hX ha hs
  obtain ⟨o, rfl⟩ : ∃ o, r0 = .sl o l := by
    cases r0 with
    | sl o m => simp only [s3, s2, s1, s0, AV.sl.injEq, true_and] at hr; exact ⟨o, by rw [hr]⟩
    | _ => simp [s3, s2, s1, s0] at hr
  exact ⟨o, hp⟩
theorem len_at {f : FuncId} {args : List AV} {o : Tok} {l : List AV} {Z : Zs} {w W : World} {vs : Array Value} (hpc : PC P f args (.sl o l)) (hz : ∀ b o, Z b o → b < w.heap.size) (hl : args.length = vs.size) (hR : ∀ i, i < args.length → DR Z w (args.getD i .dead) (vs.getD i undef)) (hB : Below w.heap.size w W) :
    Calls P f vs W fun e w' => (∃ A c, e = .returned (.slice A l.length c)) ∧ Below W.heap.size W w' := by
  refine (hpc Z W vs (fun b o h => Nat.lt_of_lt_of_le (hz b o h) hB.size) hl (fun i hi => (hR i hi).under hz hB)).mono ?_
  rintro e w' ⟨v, Z', rfl, G, _, _, _, hv⟩
  refine ⟨?_, ⟨G.os, G.tape, G.output, G.size, fun k hk => G.old hk⟩⟩
  rcases hv.sl_inv with ⟨rfl, A, c, rfl, _⟩ | ⟨b, p, c, k, xs, rfl, _⟩
  · exact ⟨A, c, rfl⟩
  · exact ⟨_, c, rfl⟩
theorem own_move' {w w1 : World} {base : Nat} {e : TypeId} {size n : Nat} {v : Value} {xs : List Value} (h : w.ownsRow base e size v n xs) (hm : ∀ k, v.ownBlock = some k → w1.heap[k]? = w.heap[k]?) : w1.ownsRow base e size v n xs :=
  ⟨h.1, h.2.imp id fun ⟨g, cap, cur, hv, hb, hg, hr⟩ => ⟨g, cap, cur, hv, hb, (hm g (by rw [hv]; rfl)).trans hg, hr⟩⟩
theorem own_low {W : World} {b base n : Nat} {e : TypeId} {size : Nat} {v : Value} {xs : List Value} (h : W.ownsRow b e size v n xs) (hle : base ≤ b) : W.ownsRow base e size v n xs :=
  ⟨h.1, h.2.imp id fun ⟨g, cap, cur, he, hb, hr⟩ => ⟨g, cap, cur, he, Nat.le_trans hle hb, hr⟩⟩
theorem below_grown' {B : Nat} {W5 wr w8 : World} {u : Value} {o : Obj} {e : TypeId} {size n : Nat} {xs : List Value} (h : Below B W5 wr) (hB : B ≤ W5.heap.size) (hr : wr.ownsRow B e size u n xs) (hg : (wr.alloc o).grownBy w8 u.ownBlock) : Below B W5 w8 := by
  have hs : (wr.alloc o).heap.size = wr.heap.size + 1 := by simp
  refine ⟨hg.os.trans h.os, hg.tape.trans h.tape, hg.output.trans h.output, by have := hg.size; have := h.size; omega, fun k hk => ?_⟩
  have h1 := h.size
  rw [hg.block k (by omega) (fun he => ?_), heap_alloc_old _ _ (by omega)]
  · exact h.block k hk
  · rcases hr.2 with ⟨rfl, _⟩ | ⟨g, cap, cur, rfl, hb, _⟩
    · cases he
    · simp only [Value.ownBlock, Option.some.injEq] at he; omega
theorem own_base {W wr : World} {b B n : Nat} {e : TypeId} {size : Nat} {v : Value} {xs ys : List Value} (h : W.ownsRow b e size v n xs) (h2 : wr.ownsRow B e size v n ys) : W.ownsRow B e size v n xs := by
  refine ⟨h.1, ?_⟩
  rcases h.2 with h1 | ⟨g, cap, cur, rfl, hb, hr⟩
  · exact .inl h1
  · rcases h2.2 with ⟨h1, _⟩ | ⟨g', cap', cur', h1, hb', _⟩
    · cases h1
    · cases h1; exact .inr ⟨g, cap, cur, rfl, hb', hr⟩
theorem below_keep {W5 w' wr : World} {B n0 : Nat} {e : TypeId} {size n : Nat} {v : Value} {xs : List Value} {w : World} (h : Below w.heap.size w wr) (hr : wr.ownsRow B e size v n xs) (hB : w.heap.size ≤ B) (hk : Keep (fun k => v.ownBlock = some k) wr w') : Below w.heap.size w w' := by
  refine ⟨hk.os.trans h.os, hk.tape.trans h.tape, hk.output.trans h.output, Nat.le_trans h.size hk.size, fun k hlt => ?_⟩
  have h1 := h.size
  rw [hk.block k (by omega) (fun he => ?_)]
  · exact h.block k hlt
  · rcases hr.2 with ⟨rfl, _⟩ | ⟨g, cap, cur, rfl, hb, _⟩
    · cases he
    · simp only [Value.ownBlock, Option.some.injEq] at he; omega
theorem infoI : (P.info? 3).map (fun i => (i.zero, i.size, i.bytes)) = some (some (.int .i64 0), 1, 8) := by kernel_rfl
set_option maxHeartbeats 2000000 in
theorem near_run {t : List SVtx} {p : Int} {Z : Zs} {w : World} {A0 : Option Addr} {c0 : Nat} (ht : t.length ≤ 1000) (hin : inP t p) (hz : ∀ b o, Z b o → b < w.heap.size) (hD : DR Z w (encT t) (.slice A0 t.length c0)) :
    Calls P 45 #[.slice A0 t.length c0, .int .i64 p] w fun e w' => ∃ v : Value, e = .returned v ∧ w'.ownsRow w.heap.size 3 1 v (others p (procN t)).length ((sorted (procN t) p t).map (Value.int .i64)) ∧ Below w.heap.size w w' := by
  have hN := procN_of hin.valid
  have h32 := procN_le t
  obtain ⟨hp0, hp1⟩ := hin
  have hin : inP t p := ⟨hp0, hp1⟩
  have HPROC : Aside0 (∀ W, Below w.heap.size w W → Calls P 47 #[.slice A0 t.length c0, .int .i64 p] W fun e w' => e = .returned (.int .i64 (vx t p : Int)) ∧ Below W.heap.size W w') := ⟨fun W hB => by
    have h := (proc_g low0 t p ht).pcI okx0 rfl rfl
    rw [if_pos hin] at h
    exact pcI_at h hz rfl (fun i hi => match i, hi with
      | 0, _ => hD
      | 1, _ => .v _ rfl) hB⟩
  have HPROCS : Aside0 (∀ W, Below w.heap.size w W → Calls P 71 #[.slice A0 t.length c0] W fun e w' => (∃ A c, e = .returned (.slice A (procN t) c)) ∧ Below W.heap.size W w') := ⟨fun W hB => by
    obtain ⟨o, h⟩ := (procs_g low0 t ht).pcS okx0 rfl rfl
    have h2 := len_at h hz rfl (vs := #[.slice A0 t.length c0]) (fun i hi => match i, hi with | 0, _ => hD) hB
    rw [List.length_map, ← hN] at h2
    exact h2⟩
  have HK := Aside0.mk (And.intro hp0 (And.intro hp1 h32))
  have HZD := Aside0.mk (And.intro hz hD)
  clear hz hD hp0 hp1 h32 hN hin
  have hneg' : decide ((vx t p : Int) < 0) = false := decide_eq_false (by omega)
  generalize (vx t p : Int) = v at *
  have Hb1 : Below w.heap.size w ((w.alloc (.cells #[.slice A0 t.length c0] 22)).alloc (.cells #[.int .i64 p] 3)) := below_alloc' (below_alloc' (Below.refl _ _) _) _
  have HT1 := Aside0.mk (show ((w.alloc (.cells #[.slice A0 t.length c0] 22)).alloc (.cells #[.int .i64 p] 3)).cell? ⟨w.heap.size, 0, none⟩ = some (.slice A0 t.length c0) by simp)
  have HP1 := Aside0.mk (show ((w.alloc (.cells #[.slice A0 t.length c0] 22)).alloc (.cells #[.int .i64 p] 3)).cell? ⟨w.heap.size + 1, 0, none⟩ = some (.int .i64 p) by simp)
  go_enter Try.func45, Try.ntmps45
  go_wp2_with (first | (go_at_call 47; (with_reducible refine (HPROC.out _ Hb1).mono ?_); rintro e w3 ⟨rfl, hb⟩; have HB := Aside0.mk (below_step' Hb1 hb); have ct3 := cell_below' hb HT1.out; have cp3 := cell_below' hb HP1.out; clear hb HT1 HP1 Hb1) | (go_at_call 71; (with_reducible refine (HPROCS.out _ HB.out).mono ?_); rintro e w4 ⟨⟨A4, c4, rfl⟩, hb⟩; have HB4 := Aside0.mk (below_step' HB.out hb); have ct4 := cell_below' hb ct3; have cp4 := cell_below' hb cp3; clear hb ct3 cp3))
  have z1 : w.heap.size < w4.heap.size := World.block_lt_of_cell? w4 _ ct4
  have z2 : w.heap.size + 1 < w4.heap.size := World.block_lt_of_cell? w4 _ cp4
  have ct5 : (w4.alloc (.cells #[.int .i64 (procN t : Int)] 3)).cell? ⟨w.heap.size, 0, none⟩ = some (.slice A0 t.length c0) := cell_below' (below_alloc' (Below.refl _ _) _) ct4
  have cp5 : (w4.alloc (.cells #[.int .i64 (procN t : Int)] 3)).cell? ⟨w.heap.size + 1, 0, none⟩ = some (.int .i64 p) := cell_below' (below_alloc' (Below.refl _ _) _) cp4
  have cn5 : (w4.alloc (.cells #[.int .i64 (procN t : Int)] 3)).cell? ⟨w4.heap.size, 0, none⟩ = some (.int .i64 (procN t : Int)) := by simp
  have hz5 : (w4.alloc (.cells #[.int .i64 (procN t : Int)] 3)).heap.size = w4.heap.size + 1 := by simp
  have HB5 := Aside0.mk (below_alloc' HB4.out (.cells #[.int .i64 (procN t : Int)] 3))
  clear HB4 ct4 cp4 HB
  generalize w4.alloc (.cells #[.int .i64 (procN t : Int)] 3) = W5 at ct5 cp5 cn5 hz5 HB5 ⊢
  generalize w4.heap.size = b4 at z1 z2 cn5 hz5 ⊢
  have HT := Aside0.mk ct5
  have HN := Aside0.mk cn5
  have HPc := Aside0.mk cp5
  have Z5 := Aside0.mk (And.intro z1 (And.intro z2 hz5))
  clear ct5 cn5 cp5 z1 z2 hz5 HPROC HPROCS
  have HQ : Aside0 (∃ n, n = procN t) := ⟨_, rfl⟩
  go_loopg [6, 7, 16] (procN t + 1) (fun kq v6 v7 v16 w' => ∃ i : Nat, v16 = .int .i64 (i : Int) ∧ Aside0 (i + kq = procN t + 1 ∧ 1 ≤ kq) ∧ Aside0 (w'.ownsRow (b4 + 1) 3 1 v6 (others p i).length ((others p i).map (Value.int .i64))) ∧ Aside0 (Below (b4 + 1) W5 w'))
  case atStart => exact ⟨0, rfl, ⟨by omega, by omega⟩, ⟨⟨rfl, .inl ⟨rfl, rfl⟩⟩⟩, ⟨Below.refl _ _⟩⟩
  case round =>
    obtain ⟨i, rfl, HA, HO, HBw⟩ := hrel
    cases gk with
    | zero => exact absurd HA.out.2 (by omega)
    | succ k1 =>
      have cpw : wr.cell? ⟨w.heap.size + 1, 0, none⟩ = some (.int .i64 p) := (HBw.out.cell (p := ⟨w.heap.size + 1, 0, none⟩) (by show w.heap.size + 1 < b4 + 1; have := Z5.out.2.1; omega)).trans HPc.out
      by_cases hin : i < procN t
      · have hnext : Value.int .i64 (Go.RowKit.wrap64 ((i : Int) + 1)) = Value.int .i64 ((i + 1 : Nat) : Int) := by rw [show Go.RowKit.wrap64 ((i : Int) + 1) = ((i + 1 : Nat) : Int) by have := HK.out; unfold Go.RowKit.wrap64; omega]
        have c1 : decide ((i : Int) < (procN t : Int)) = true := decide_eq_true (by omega)
        by_cases hne : (i : Int) = p
        · have c2 : ((i : Int) != p) = false := bne_eq_false_iff_eq.mpr hne
          go_wp2
          go_roundg k1
          case measure => have := HA.out; omega
          case rel => exact ⟨i + 1, by first | exact hnext | (rw [← hne]; exact hnext), ⟨by have := HA.out; omega, by have := HA.out; omega⟩, ⟨by rw [others, if_neg (by omega)]; exact HO.out⟩, HBw⟩
        · have c2 : ((i : Int) != p) = true := bne_iff_ne.mpr hne
          obtain ⟨ii, hi0, hi1, hi2, hi3⟩ := info_parts infoI
          have HO1 : Aside0 (∀ b, (wr.alloc (.cells #[.int .i64 b] 3)).ownsRow (b4 + 1) 3 1 u6 (others p i).length ((others p i).map (Value.int .i64))) := ⟨fun b => HO.out.alloc _⟩
          have HN1 : Aside0 (∀ j u, ([.int .i64 (i : Int)] : List Value)[j]? = some u → (wr.alloc (.cells #[.int .i64 (i : Int)] 3)).cell? ((⟨wr.heap.size, 0, none⟩ : Addr).add j) = some u) := ⟨fun j u hj => by
            obtain ⟨hj0, rfl⟩ := List.getElem?_eq_some_iff.1 hj
            obtain rfl : j = 0 := by simpa using hj0
            simp [Addr.add]⟩
          have HU1 : Aside0 (∀ u ∈ ([.int .i64 (i : Int)] : List Value), u.oneCell' = true) := ⟨fun u hu => by simp at hu; subst hu; rfl⟩
          have HM1 : Aside0 ((others p i).length + 1 ≤ maxLen ∧ ((others p i).length + 1) * 8 ≤ 140737488355328 ∧ b4 + 1 ≤ (wr.alloc (.cells #[.int .i64 (i : Int)] 3)).heap.size) := ⟨by
            have h1 := @others_len p i
            have h2 := HBw.out.size
            have h3 := Z5.out
            have h4 := HK.out
            refine ⟨by simp only [maxLen]; omega, by omega, by simp; omega⟩⟩
          go_wp2_with (first | ((with_reducible refine gate_builtin (b := .append) (xs := #[.tmp 22, .tmp 24]) rfl ?_); at_builtin; refine wpList_append_own _ rfl (.tmp 22) (.tmp 24) 48 rfl (b4 + 1) 3 ii (.int .i64 0) 1 8 Try.underlying48 hi0 hi1 hi2 hi3 rfl (by decide) u6 (others p i).length ((others p i).map (Value.int .i64)) rfl (HO1.out _) ⟨wr.heap.size, 0, none⟩ 1 1 [.int .i64 (i : Int)] rfl rfl ?aN ?aU ?aM ?aL ?aS ?_; (case aN => exact HN1.out); (case aU => exact HU1.out); (case aM => exact HM1.out.1); (case aL => exact HM1.out.2.1); (case aS => exact HM1.out.2.2); intro v103 w8 ho hg hat; have HO2 := Aside0.mk ho; have HG2 := Aside0.mk hg; clear ho hg hat))
          go_roundg k1
          case measure => have := HA.out; omega
          case rel => exact ⟨i + 1, hnext, ⟨by have := HA.out; omega, by have := HA.out; omega⟩, ⟨by have := HO2.out; rw [others, if_pos hne, List.map_append, List.length_append]; exact this⟩, ⟨below_grown' HBw.out (by have := Z5.out; omega) HO.out HG2.out⟩⟩
      · have c1 : decide ((i : Int) < (procN t : Int)) = false := decide_eq_false (by omega)
        have hi : i = procN t := by have := HA.out; omega
        subst hi
        have hBW : Below w.heap.size w wr := HB5.out.trans (HBw.out.mono (by have := Z5.out; omega))
        have HS := Aside0.mk (sort_run (Z := Z) (W := wr) (bt := w.heap.size) (bp := w.heap.size + 1) (bn := b4) (v := u6) ht ⟨HK.out.1, HK.out.2.1⟩ (by have := HK.out; omega) (fun b o h => Nat.lt_of_lt_of_le (HZD.out.1 b o h) hBW.size) (DR.under HZD.out.1 HZD.out.2 hBW)
          ((HBw.out.cell (p := ⟨w.heap.size, 0, none⟩) (by show w.heap.size < b4 + 1; have := Z5.out; omega)).trans HT.out) cpw ((HBw.out.cell (p := ⟨b4, 0, none⟩) (by show b4 < b4 + 1; omega)).trans HN.out) (own_low HO.out (Nat.zero_le _))
          (fun g c k hv hk => by
            have hg : b4 + 1 ≤ g := by
              rcases HO.out.2 with ⟨h, h2⟩ | ⟨g', cap, cur, h, h2, _⟩
              · rw [hv] at h; cases h
              · rw [hv] at h; cases h; exact h2
            have := Z5.out
            exact ⟨fun o h => by have := HZD.out.1 g o h; omega, by omega, by omega, by omega⟩))
        have HBW := Aside0.mk hBW
        clear hBW
        go_wp2_with (go_at_call 73; (with_reducible refine (HS.out).mono ?_); rintro e w' ⟨rfl, hR, hb⟩; have HR9 := Aside0.mk hR; have HB9 := Aside0.mk hb; clear hR hb)
        go_ret
        refine ⟨_, rfl, ?_, ?_⟩
        · exact own_low (own_base HR9.out HO.out) (by have := Z5.out; omega)
        · exact below_keep (W5 := W5) (n0 := 0) HBW.out HO.out (by have := Z5.out; omega) HB9.out
theorem near_no {t : List SVtx} {p : Int} (ht : t.length ≤ 1000) (hin : ¬ inP t p) (S : Obs) : Gs P X0 45 [encT t, I p] S fun r S' => r = .sl .nil [] ∧ S' = S ++ [.var false [encT t], .var false [I p]] := by
  refine gs_of (X := X0) (rw := false) (kf := true) ⟨rfl, rfl, rfl⟩ fun45 rfl ?_
  simp +decide only [Try.f45, encT, go_sem, Nat.reduceAdd, List.append_assoc, List.length_append]
  refine WO_call rfl rfl rfl rfl rfl (proc_g low0 t p ht) ?_
  rw [if_neg hin]
  simp +decide only [go_sem]
  exact ⟨_, rfl, rfl⟩
def decV : AV → Option SVtx
  | .agg [.v (.int .i64 a), .v (.int .i64 b)] => some ⟨a, b⟩
  | _ => none
def decT : List AV → Option (List SVtx)
  | [] => some []
  | a :: l => match decV a, decT l with
    | some x, some t => some (x :: t)
    | _, _ => none
theorem decV_ok {a : AV} {x : SVtx} (h : decV a = some x) : a = encV x := by
  unfold decV at h
  split at h
  · cases h; rfl
  · cases h
theorem decT_ok : ∀ {l : List AV} {t : List SVtx}, decT l = some t → l = t.map encV
  | [], t, h => by cases h; rfl
  | a :: l, t, h => by
    unfold decT at h
    split at h
    · rename_i x t' h1 h2
      cases h
      rw [decV_ok h1, decT_ok h2]; rfl
    · cases h
theorem decT_enc : ∀ t : List SVtx, decT (t.map encV) = some t
  | [] => rfl
  | x :: t => by rw [List.map_cons, decT, decT_enc t]; rfl
/-- dist.Near: a new row, where there is anybody. -/
def nearR (t : List SVtx) (p : Int) (S : Obs) : AV × Obs :=
  if inP t p then (if nearOf t p = [] then (.sl .no [], S) else (.ms S.length 0 (nearOf t p).length, S ++ [.row true 0 1 3 ((nearOf t p).map I)]))
  else (.sl .nil [], S ++ [.var false [encT t], .var false [I p]])
def nearG : List AV → Obs → Option (AV × Obs)
  | [.sl _ l, .v (.int .i64 p)], S => match decT l with
    | some t => if t.length ≤ 1000 then some (nearR t p S) else none
    | none => none
  | _, _ => none
theorem near_fc {t : List SVtx} {p : Int} {o : Tok} (ht : t.length ≤ 1000) (S : Obs) : FC P 45 [.sl o (t.map encV), I p] S (nearR t p S).1 (nearR t p S).2 := by
  by_cases hin : inP t p
  · intro w0 Z0 M0 Z β w vs E hl hR
    obtain ⟨v0, v1, rfl⟩ : ∃ a b, vs = #[a, b] := by
      obtain ⟨l⟩ := vs
      match l, hl with
      | [a, b], _ => exact ⟨a, b, rfl⟩
    have h0 : DR Z w (encT t) v0 := (show R3 Z β [] [] w P (.sl o (t.map encV)) v0 from hR 0 (by simp)).1.tok
    obtain ⟨rfl, _⟩ := (show R3 Z β [] [] w P (I p) v1 from hR 1 (by simp)).v_inv
    obtain ⟨A0, c0, rfl⟩ : ∃ A c, v0 = .slice A t.length c := by
      rcases h0.sl_inv with ⟨h, A, c, rfl, _⟩ | ⟨b, q, c, k, xs, rfl, _⟩
      · have : t.length = 0 := by simpa using congrArg List.length h
        rw [this]; exact ⟨A, c, rfl⟩
      · exact ⟨_, c, by rw [List.length_map]⟩
    refine (near_run ht hin E.zs h0).mono ?_
    rintro e w' ⟨v, rfl, hrow, hB⟩
    have hs : sorted (procN t) p t = nearOf t p := sorted_near hin
    have hlen : (others p (procN t)).length = (nearOf t p).length := by rw [← hs]; simp [sorted]
    rw [hs, hlen] at hrow
    have G : Grow w w' := ⟨hB.os, hB.tape, hB.output, hB.size, fun k hk _ => hB.block k hk⟩
    by_cases hn : nearOf t p = []
    · rw [nearR, if_pos hin, if_pos hn]
      obtain ⟨E', X'⟩ := E.grow (Z' := Z) G (fun _ _ h => h) (fun _ _ h => .inl h) (fun b q h => Nat.lt_of_lt_of_le (E.zs b q h) G.size)
      refine ⟨v, Z, β, rfl, E', X', ?_⟩
      rw [hn] at hrow
      rcases hrow.2 with ⟨rfl, _⟩ | ⟨g, cap, cur, rfl, _⟩
      · exact ⟨.nil _ none 0 (fun _ => rfl), trivial⟩
      · exact ⟨.nil _ _ cap (fun h => by cases h), trivial⟩
    · rw [nearR, if_pos hin, if_neg hn]
      rcases hrow.2 with ⟨_, h⟩ | ⟨g, cap, cur, rfl, hb, hg, hn1, hm, hsz, htk⟩
      · exact absurd (List.eq_nil_of_length_eq_zero h) hn
      · have hgl := lt_of_heap hg
        obtain ⟨E', X'⟩ := E.new' (o := .row true 0 1 3 ((nearOf t p).map I)) (bk := ⟨g, 0, cap, 1⟩) G ⟨hb, hgl⟩ (fun X => by
          refine ⟨rfl, rfl, by decide, ty3.1, by simpa using hn1, hm, fun x hx => ?_, fun _ => ?_, cur, hg, by simpa using hsz, fun i j hi hj => ?_⟩
          · obtain ⟨y, _, rfl⟩ := List.mem_map.1 hx; rfl
          · rw [List.all_map]; exact List.all_eq_true.mpr fun _ _ => rfl
          · have hi' : i < (nearOf t p).length := by simpa using hi
            obtain rfl : j = 0 := by omega
            have h2 : (cur.toList.take ((nearOf t p).length * 1))[i]? = some (.int .i64 ((nearOf t p).getD i 0)) := by
              rw [htk]; simp [List.getD_eq_getElem?_getD, hi']
            rw [List.getElem?_take, if_pos (by omega)] at h2
            have h3 : cur.getD (i * 1 + 0) undef = .int .i64 ((nearOf t p).getD i 0) := by
              rw [← getD_toList]; simp [List.getD_eq_getElem?_getD, h2]
            have e : (((nearOf t p).map I).getD i .dead) = I ((nearOf t p).getD i 0) := by simp [List.getD_eq_getElem?_getD, hi']
            rw [h3, e]
            exact DR.v _ rfl)
        refine ⟨_, Z, _, rfl, E', X', ⟨⟨g, 0, cap, 1⟩, _, cap, ?_, Nat.le_refl _, rfl, hn1, (fun h => by cases h), fun _ => ⟨rfl, rfl⟩⟩⟩
        rw [← E.bl, List.getElem?_append_right (Nat.le_refl _)]; simp
  · rw [nearR, if_neg hin]
    obtain ⟨k, r, S', h1, h2, h3⟩ := near_no ht hin S
    subst h2 h3
    have h4 := (evB_sound okx0 (h1 k (Nat.le_refl _))).2
    intro w0 Z0 M0 Z β w vs E hl hR
    refine h4 w0 Z0 M0 Z β w vs E hl (fun i hi => ?_)
    match i, hi with
    | 0, _ =>
      have := (show R3 Z β [] [] w P (.sl o (t.map encV)) (vs.getD 0 undef) from hR 0 (by simp)).1
      exact ⟨this.tok, trivial⟩
    | 1, _ => exact hR 1 (by simp)
end Go.Proofs.Ytokkipocdhfglaa.Ev
namespace Go.Proofs.Ytokkipocdhfglaa.Ev
open Go Go.Proofs
set_option linter.unusedVariables false
set_option linter.unusedSimpArgs false
set_option maxRecDepth 100000
/-- A copy: where there is nothing, there is nothing behind it. -/
def cloneG (k b : Nat) (e : TypeId) : List AV → Obs → Option (AV × Obs)
  | [.sl _ l], S => if l = [] then some (.sl .full [], S) else if uni k l = true ∧ l.all d2 = true ∧ l.length * b ≤ 140737488355328 ∧ l.length ≤ maxLen then some (.ms S.length 0 l.length, S ++ [.row true 0 k e (l.map s2)]) else none
  | _, _ => none
theorem clone_ok {f : FuncId} {k b : Nat} {e : TypeId} (h1 : ∀ S, Gs P X0 f [.sl .nil []] S fun r S' => r = .sl .nil [] ∧ S' = S) (h2 : ∀ S, Gs P X0 f [.sl .sm []] S fun r S' => r = .sl .full [] ∧ S' = S)
    (h3 : ∀ o l S, l ≠ [] → uni k l = true ∧ l.all d2 = true ∧ l.length * b ≤ 140737488355328 ∧ l.length ≤ maxLen → Gs P X0 f [.sl o l] S fun r S' => r = .ms S.length 0 l.length ∧ S' = S ++ [.row true 0 k e (l.map s2)]) :
    ∀ a S r S', cloneG k b e a S = some (r, S') → Fun P f ∧ FC P f a S r S' := by
  intro a S r S' h
  unfold cloneG at h
  split at h
  case h_2 => cases h
  rename_i x2 o l
  split at h
  · rename_i hl
    subst hl
    simp only [Option.some.injEq, Prod.mk.injEq] at h
    obtain ⟨rfl, rfl⟩ := h
    obtain ⟨n1, r1, S1, e1, rfl, rfl⟩ := h1 S
    obtain ⟨n2, r2, S2, e2, rfl, e3⟩ := h2 S1
    have f1 := evB_sound okx0 (e1 n1 (Nat.le_refl _))
    have f2 := evB_sound okx0 (e2 n2 (Nat.le_refl _))
    rw [e3] at f2
    refine ⟨f1.1, fun w0 Z0 M0 Z β w vs E hl hR => ?_⟩
    obtain ⟨v0, rfl⟩ : ∃ a, vs = #[a] := by
      obtain ⟨l⟩ := vs
      match l, hl with
      | [a], _ => exact ⟨a, rfl⟩
    have h0 : DR Z w (.sl o []) v0 := (show R3 Z β [] [] w P (.sl o []) v0 from hR 0 (by simp)).1
    have one : ∀ y, R3 Z β [] [] w P y v0 → ∀ i, i < [y].length → R3 Z β [] [] w P ([y].getD i .dead) ((#[v0] : Array Value).getD i undef) := fun y hy i hi => by
      obtain rfl : i = 0 := by simpa using hi
      exact hy
    rcases h0.sl_inv with ⟨_, A, c, rfl, hA⟩ | ⟨b, p, c, k, xs, rfl, _⟩
    · cases A with
      | none =>
        obtain rfl := hA rfl
        refine (f1.2 w0 Z0 M0 Z β w _ E rfl (one (.sl .nil []) ⟨.nil _ _ _ (fun _ => rfl), rfl⟩)).mono ?_
        rintro e w' ⟨v, Z', β', rfl, E', X', hv⟩
        have hvn : v = .slice none 0 0 := (show R3 Z' β' [] [] w' P (.sl .nil []) v from hv).2
        subst hvn
        exact ⟨_, Z', β', rfl, E', X', .nil _ _ _ (fun _ => rfl), none, rfl⟩
      | some a => exact f2.2 w0 Z0 M0 Z β w _ E rfl (one (.sl .sm []) ⟨.nil _ _ _ (fun h => by cases h), a, 0, c, rfl⟩)
    · exact f2.2 w0 Z0 M0 Z β w _ E rfl (one (.sl .sm []) ⟨h0.tok, _, _, _, rfl⟩)
  · rename_i hl
    split at h
    case isFalse => cases h
    rename_i hc
    simp only [Option.some.injEq, Prod.mk.injEq] at h
    obtain ⟨rfl, rfl⟩ := h
    obtain ⟨n1, r1, S1, e1, rfl, rfl⟩ := h3 o l S hl hc
    exact evB_sound okx0 (e1 n1 (Nat.le_refl _))
theorem clone69_ok : ∀ a S r S', cloneG 2 16 61 a S = some (r, S') → Fun P 69 ∧ FC P 69 a S r S' := by
  refine clone_ok (fun S => ?_) (fun S => ?_) (fun o l S hl hc => ?_)
  · refine gs_of (X := X0) (rw := true) (kf := true) ⟨rfl, rfl, rfl⟩ fun69 rfl ?_
    simp +decide only [Try.f69, go_sem, rwO, lit, usesT, appsT, isT, Nat.reduceBEq, List.any_cons, List.any_nil, Option.isSome_some]
    exact ⟨_, rfl, rfl⟩
  · refine gs_of (X := X0) (rw := true) (kf := true) ⟨rfl, rfl, rfl⟩ fun69 rfl ?_
    simp +decide only [Try.f69, go_sem, rwO, lit, usesT, appsT, isT, Nat.reduceBEq, List.any_cons, List.any_nil, Option.isSome_some, appX, appR, srcL, uni, maxLen]
    exact ⟨_, rfl, rfl⟩
  · refine gs_of (X := X0) (rw := true) (kf := true) ⟨rfl, rfl, rfl⟩ fun69 rfl ?_
    obtain ⟨h1, h2, h3, h4⟩ := hc
    obtain ⟨y, l, rfl⟩ := List.exists_cons_of_ne_nil hl
    have h5 : (0 + (y :: l).length) * 16 ≤ 140737488355328 := by rw [Nat.zero_add]; exact h3
    have h6 : 0 + (y :: l).length ≤ maxLen := by rw [Nat.zero_add]; exact h4
    have happ : ∀ S, appX P true 22 (.sl .full []) (.sl o (y :: l)) S [] = some (.ms S.length 0 (y :: l).length, S ++ [.row true 0 2 61 ((y :: l).map s2)], []) := fun S => by
      have h7 : uni 2 [] = true := rfl
      simp only [appX, appR, srcL, ty22, ty61, h1, h2, h5, h6, h7, List.all_nil, List.length_nil, List.nil_append, if_true, and_self, or_true, Option.map_some]
      simp +decide only [if_true, Nat.zero_add, Option.map_some]
    simp +decide only [Try.f69, go_sem, rwO, lit, usesT, appsT, isT, Nat.reduceBEq, List.any_cons, List.any_nil, Option.isSome_some, happ]
    exact ⟨_, rfl, rfl⟩
theorem clone85_ok : ∀ a S r S', cloneG 2 32 56 a S = some (r, S') → Fun P 85 ∧ FC P 85 a S r S' := by
  refine clone_ok (fun S => ?_) (fun S => ?_) (fun o l S hl hc => ?_)
  · refine gs_of (X := X0) (rw := true) (kf := true) ⟨rfl, rfl, rfl⟩ fun85 rfl ?_
    simp +decide only [Try.f85, go_sem, rwO, lit, usesT, appsT, isT, Nat.reduceBEq, List.any_cons, List.any_nil, Option.isSome_some]
    exact ⟨_, rfl, rfl⟩
  · refine gs_of (X := X0) (rw := true) (kf := true) ⟨rfl, rfl, rfl⟩ fun85 rfl ?_
    simp +decide only [Try.f85, go_sem, rwO, lit, usesT, appsT, isT, Nat.reduceBEq, List.any_cons, List.any_nil, Option.isSome_some, appX, appR, srcL, uni, maxLen]
    exact ⟨_, rfl, rfl⟩
  · refine gs_of (X := X0) (rw := true) (kf := true) ⟨rfl, rfl, rfl⟩ fun85 rfl ?_
    obtain ⟨h1, h2, h3, h4⟩ := hc
    obtain ⟨y, l, rfl⟩ := List.exists_cons_of_ne_nil hl
    have h5 : (0 + (y :: l).length) * 32 ≤ 140737488355328 := by rw [Nat.zero_add]; exact h3
    have h6 : 0 + (y :: l).length ≤ maxLen := by rw [Nat.zero_add]; exact h4
    have happ : ∀ S, appX P true 30 (.sl .full []) (.sl o (y :: l)) S [] = some (.ms S.length 0 (y :: l).length, S ++ [.row true 0 2 56 ((y :: l).map s2)], []) := fun S => by
      have h7 : uni 2 [] = true := rfl
      simp only [appX, appR, srcL, ty30, ty56, h1, h2, h5, h6, h7, List.all_nil, List.length_nil, List.nil_append, if_true, and_self, or_true, Option.map_some]
      simp +decide only [if_true, Nat.zero_add, Option.map_some]
    simp +decide only [Try.f85, go_sem, rwO, lit, usesT, appsT, isT, Nat.reduceBEq, List.any_cons, List.any_nil, Option.isSome_some, happ]
    exact ⟨_, rfl, rfl⟩
theorem clone86_ok : ∀ a S r S', cloneG 1 24 48 a S = some (r, S') → Fun P 86 ∧ FC P 86 a S r S' := by
  refine clone_ok (fun S => ?_) (fun S => ?_) (fun o l S hl hc => ?_)
  · refine gs_of (X := X0) (rw := true) (kf := true) ⟨rfl, rfl, rfl⟩ fun86 rfl ?_
    simp +decide only [Try.f86, go_sem, rwO, lit, usesT, appsT, isT, Nat.reduceBEq, List.any_cons, List.any_nil, Option.isSome_some]
    exact ⟨_, rfl, rfl⟩
  · refine gs_of (X := X0) (rw := true) (kf := true) ⟨rfl, rfl, rfl⟩ fun86 rfl ?_
    simp +decide only [Try.f86, go_sem, rwO, lit, usesT, appsT, isT, Nat.reduceBEq, List.any_cons, List.any_nil, Option.isSome_some, appX, appR, srcL, uni, maxLen]
    exact ⟨_, rfl, rfl⟩
  · refine gs_of (X := X0) (rw := true) (kf := true) ⟨rfl, rfl, rfl⟩ fun86 rfl ?_
    obtain ⟨h1, h2, h3, h4⟩ := hc
    obtain ⟨y, l, rfl⟩ := List.exists_cons_of_ne_nil hl
    have h5 : (0 + (y :: l).length) * 24 ≤ 140737488355328 := by rw [Nat.zero_add]; exact h3
    have h6 : 0 + (y :: l).length ≤ maxLen := by rw [Nat.zero_add]; exact h4
    have happ : ∀ S, appX P true 24 (.sl .full []) (.sl o (y :: l)) S [] = some (.ms S.length 0 (y :: l).length, S ++ [.row true 0 1 48 ((y :: l).map s2)], []) := fun S => by
      have h7 : uni 1 [] = true := rfl
      simp only [appX, appR, srcL, ty24, ty48, h1, h2, h5, h6, h7, List.all_nil, List.length_nil, List.nil_append, if_true, and_self, or_true, Option.map_some]
      simp +decide only [if_true, Nat.zero_add, Option.map_some]
    simp +decide only [Try.f86, go_sem, rwO, lit, usesT, appsT, isT, Nat.reduceBEq, List.any_cons, List.any_nil, Option.isSome_some, happ]
    exact ⟨_, rfl, rfl⟩
theorem clone88_ok : ∀ a S r S', cloneG 1 8 3 a S = some (r, S') → Fun P 88 ∧ FC P 88 a S r S' := by
  refine clone_ok (fun S => ?_) (fun S => ?_) (fun o l S hl hc => ?_)
  · refine gs_of (X := X0) (rw := true) (kf := true) ⟨rfl, rfl, rfl⟩ fun88 rfl ?_
    simp +decide only [Try.f88, go_sem, rwO, lit, usesT, appsT, isT, Nat.reduceBEq, List.any_cons, List.any_nil, Option.isSome_some]
    exact ⟨_, rfl, rfl⟩
  · refine gs_of (X := X0) (rw := true) (kf := true) ⟨rfl, rfl, rfl⟩ fun88 rfl ?_
    simp +decide only [Try.f88, go_sem, rwO, lit, usesT, appsT, isT, Nat.reduceBEq, List.any_cons, List.any_nil, Option.isSome_some, appX, appR, srcL, uni, maxLen]
    exact ⟨_, rfl, rfl⟩
  · refine gs_of (X := X0) (rw := true) (kf := true) ⟨rfl, rfl, rfl⟩ fun88 rfl ?_
    obtain ⟨h1, h2, h3, h4⟩ := hc
    obtain ⟨y, l, rfl⟩ := List.exists_cons_of_ne_nil hl
    have h5 : (0 + (y :: l).length) * 8 ≤ 140737488355328 := by rw [Nat.zero_add]; exact h3
    have h6 : 0 + (y :: l).length ≤ maxLen := by rw [Nat.zero_add]; exact h4
    have happ : ∀ S, appX P true 48 (.sl .full []) (.sl o (y :: l)) S [] = some (.ms S.length 0 (y :: l).length, S ++ [.row true 0 1 3 ((y :: l).map s2)], []) := fun S => by
      have h7 : uni 1 [] = true := rfl
      simp only [appX, appR, srcL, ty48, ty3, h1, h2, h5, h6, h7, List.all_nil, List.length_nil, List.nil_append, if_true, and_self, or_true, Option.map_some]
      simp +decide only [if_true, Nat.zero_add, Option.map_some]
    simp +decide only [Try.f88, go_sem, rwO, lit, usesT, appsT, isT, Nat.reduceBEq, List.any_cons, List.any_nil, Option.isSome_some, happ]
    exact ⟨_, rfl, rfl⟩
/-- Which functions copy, and what. -/
def cloneP (f : FuncId) : Option (List AV → Obs → Option (AV × Obs)) :=
  if f = 69 then some (cloneG 2 16 61) else
  if f = 85 then some (cloneG 2 32 56) else
  if f = 86 then some (cloneG 1 24 48) else
  if f = 88 then some (cloneG 1 8 3) else
  none
theorem cloneP_ok : ∀ f g a S r S', cloneP f = some g → g a S = some (r, S') → Fun P f ∧ FC P f a S r S' := by
  intro f g a S r S' h hg
  unfold cloneP at h
  by_cases h69 : f = 69
  · subst h69; cases h; exact clone69_ok a S r S' hg
  rw [if_neg h69] at h
  by_cases h85 : f = 85
  · subst h85; cases h; exact clone85_ok a S r S' hg
  rw [if_neg h85] at h
  by_cases h86 : f = 86
  · subst h86; cases h; exact clone86_ok a S r S' hg
  rw [if_neg h86] at h
  by_cases h88 : f = 88
  · subst h88; cases h; exact clone88_ok a S r S' hg
  rw [if_neg h88] at h
  cases h
end Go.Proofs.Ytokkipocdhfglaa.Ev
namespace Go.Proofs
open Go.Shelf
def Try.growL_ren : Go.Shelf.Ren := ⟨fun | 4 => 103 | n => n, fun | 22 => 48 | 25 => 3 | 3 => 3 | 4 => 4 | 9 => 9 | 20 => 20 | 0 => 0 | n => n, fun | n => n⟩
theorem Try.growL : Go.Proofs.Lays8.n4 Try.prog Try.growL_ren := {
  mixed := by kernel_rfl
  f4 := ⟨Try.f103.name, by decide, Try.func103.trans (congrArg some (by kernel_rfl))⟩
  t0 := Try.underlying0
  a0 := Try.isAgg0
  z0 := Try.sizeOf0
  v0 := Try.zeroValue0
  t3 := Try.underlying3
  a3 := Try.isAgg3
  z3 := Try.sizeOf3
  v3 := Try.zeroValue3
  t4 := Try.underlying4
  a4 := Try.isAgg4
  z4 := Try.sizeOf4
  v4 := Try.zeroValue4
  t9 := Try.underlying9
  a9 := Try.isAgg9
  z9 := Try.sizeOf9
  v9 := Try.zeroValue9
  t20 := Try.underlying20
  a20 := Try.isAgg20
  z20 := Try.sizeOf20
  v20 := Try.zeroValue20
  t22 := Try.underlying48
  a22 := Try.isAgg48
  z22 := Try.sizeOf48
  v22 := Try.zeroValue48 }
end Go.Proofs
namespace Go.Proofs.Ytokkipocdhfglaa.Ev
open Go Go.Proofs
set_option linter.unusedVariables false
set_option linter.unusedSimpArgs false
set_option maxRecDepth 100000
def growG : List AV → Obs → Option (AV × Obs)
  | [.sl .nil [], .v (.int .i64 n)], S => if n = 0 then some (.sl .nil [], S) else if 0 < n ∧ n ≤ 1000000 then some (.ms S.length 0 0, S ++ [.row true 0 1 3 []]) else none
  | _, _ => none
theorem fun_of {f : FuncId} {fn : Func} (h : P.funcs[f]? = some fn) (hn : fn.name ≠ "runtime.NumGoroutine") (hb : fn.body.isSome = true) : Fun P f := ⟨fn, h, hn, hb⟩
theorem growG_ok : ∀ a S r S', growG a S = some (r, S') → Fun P 103 ∧ FC P 103 a S r S' := by
  intro a S r S' h
  refine ⟨⟨_, Try.func103, by decide, rfl⟩, ?_⟩
  unfold growG at h
  split at h
  case h_2 => cases h
  rename_i x2 n
  intro w0 Z0 M0 Z β w vs E hl hR
  obtain ⟨v0, v1, rfl⟩ : ∃ a b, vs = #[a, b] := by
    obtain ⟨l⟩ := vs
    match l, hl with
    | [a, b], _ => exact ⟨a, b, rfl⟩
  have h0 : v0 = .slice none 0 0 := (show R3 Z β [] [] w P (.sl .nil []) v0 from hR 0 (by simp)).2
  obtain ⟨h1, _⟩ := (show R3 Z β [] [] w P (.v (.int .i64 n)) v1 from hR 1 (by simp)).v_inv
  subst h0 h1
  by_cases hn : n = 0
  · subst hn
    rw [if_pos rfl] at h
    simp only [Option.some.injEq, Prod.mk.injEq] at h
    obtain ⟨rfl, rfl⟩ := h
    refine (Any8.slices_Grow_room Try.growL none 0 0 0 w (by decide) (by decide) (by decide) (by decide)).mono ?_
    rintro e w' ⟨rfl, rfl⟩
    exact ⟨_, Z, β, rfl, E, .refl _ _ _ _ _, .nil _ _ _ (fun _ => rfl), rfl⟩
  · rw [if_neg hn] at h
    split at h
    case isFalse => cases h
    rename_i hc
    simp only [Option.some.injEq, Prod.mk.injEq] at h
    obtain ⟨rfl, rfl⟩ := h
    obtain ⟨m, rfl⟩ : ∃ m : Nat, n = m := ⟨n.toNat, by omega⟩
    have hm : 0 < m := by omega
    obtain ⟨i, z0, hi, hsz, hby, hz0, hzs⟩ := tby_inv ty3.1 ty3.2.2.1 ty3.2.2.2
    have hg := grownCap_ge w (0 + m) 0 3
    refine (Any8.slices_Grow_grow Try.growL i z0 hi hz0 (by omega) none 0 0 m [] w (by decide) (by omega) (by rw [hby]; omega) (by omega) (by simp) (fun _ => rfl) (fun a h => by cases h)).mono ?_
    rintro e w' ⟨rfl, rfl⟩
    have G : Grow w (w.drew.alloc (.cells (([] : List Value).toArray ++ Builtin.zeroCells z0.cells (0 + m - 0) ++ Builtin.zeroCells z0.cells (grownCap w (0 + m) 0 3 - (0 + m))) 3)) :=
      ⟨rfl, rfl, rfl, by simp, fun k hk _ => heap_alloc_old w.drew _ hk⟩
    have hzc : z0.cells.size = 1 := by rw [hzs]; rfl
    obtain ⟨E', X'⟩ := E.new' (o := .row true 0 1 3 []) (bk := ⟨w.heap.size, 0, grownCap w (0 + m) 0 3, 1⟩) G ⟨Nat.le_refl _, by simp⟩ (fun X => by
      refine ⟨rfl, rfl, by decide, ty3.1, Nat.zero_le _, grownCap_le_maxLen w (0 + m) 0 3 (by simp only [maxLen]; omega), fun x hx => absurd hx (by simp), fun _ => rfl, _, heap_alloc_new w.drew _, ?_, fun i j hi => absurd hi (by simp)⟩
      simp only [Array.size_append, size_zeroCells, hzc]
      generalize grownCap w (0 + m) 0 3 = q at hg ⊢
      simp; omega)
    refine ⟨_, Z, _, rfl, E', X', ⟨⟨w.heap.size, 0, grownCap w (0 + m) 0 3, 1⟩, _, _, ?_, Nat.le_refl _, rfl, Nat.zero_le _, (fun h => by cases h), fun _ => ⟨rfl, rfl⟩⟩⟩
    rw [← E.bl, List.getElem?_append_right (Nat.le_refl _)]; simp
/-- The functions that are known otherwise. -/
def primX (f : FuncId) : Option (List AV → Obs → Option (AV × Obs)) :=
  if f = 45 then some nearG else if f = 103 then some growG else cloneP f
abbrev XN : Prims := ⟨primX, keepF, rowsF⟩
theorem lowN : Low XN := by
  intro f h
  refine ⟨?_, rfl, rfl⟩
  have hne : ∀ n, primF n = true → f ≠ n := fun n hn e => by rw [e, hn] at h; cases h
  show primX f = none
  unfold primX cloneP
  repeat (first | rw [if_neg (hne _ (by decide))])
theorem okxN : OKX P XN := by
  intro f g a S r S' hf hg
  change primX f = some g at hf
  unfold primX at hf
  split at hf
  · rename_i he
    subst he
    cases hf
    unfold nearG at hg
    split at hg
    case h_2 => cases hg
    rename_i x2 o l p
    split at hg
    case h_2 => cases hg
    rename_i t ht
    split at hg
    case isFalse => cases hg
    rename_i hle
    simp only [Option.some.injEq] at hg
    obtain rfl := decT_ok ht
    have := near_fc (o := o) hle S (p := p)
    rw [hg] at this
    exact ⟨⟨_, Try.func45, by decide, rfl⟩, this⟩
  · split at hf
    · rename_i he
      subst he
      cases hf
      exact growG_ok a S r S' hg
    · exact cloneP_ok f g a S r S' hf hg
/-- dist.Near. -/
theorem near_gs (o : Tok) (t : List SVtx) (p : Int) (ht : t.length ≤ 1000) (S : Obs) : Gs P XN 45 [.sl o (t.map encV), I p] S fun r S' => r = t3 (nearR t p S).1 ∧ S' = (nearR t p S).2 := by
  refine ⟨0, _, _, fun k _ => ?_, rfl, rfl⟩
  have e1 : XN.prim 45 = some nearG := rfl
  unfold evB
  rw [e1]
  show (nearG [.sl o (t.map encV), I p] S).map _ = _
  simp only [nearG, decT_enc, if_pos ht, Option.map_some]
theorem grow_gs (n : Int) (h : 0 ≤ n ∧ n ≤ 1000000) (S : Obs) : Gs P XN 103 [.sl .nil [], I n] S fun r S' => (n = 0 ∧ r = .sl .nil [] ∧ S' = S) ∨ (n ≠ 0 ∧ r = .ms S.length 0 0 ∧ S' = S ++ [.row true 0 1 3 []]) := by
  have e1 : XN.prim 103 = some growG := rfl
  by_cases hn : n = 0
  · refine ⟨0, _, _, fun k _ => ?_, .inl ⟨hn, rfl, rfl⟩⟩
    unfold evB
    rw [e1]
    simp [growG, hn, t3, t2, t1, t0]
  · refine ⟨0, _, _, fun k _ => ?_, .inr ⟨hn, rfl, rfl⟩⟩
    unfold evB
    rw [e1]
    have : 0 < n ∧ n ≤ 1000000 := by omega
    simp [growG, hn, this, t3, t2, t1, t0]
end Go.Proofs.Ytokkipocdhfglaa.Ev
namespace Go.Proofs.Ytokkipocdhfglaa.Ev
open Go Go.Proofs
open Go.RowKit (wrap64)
set_option linter.unusedVariables false
set_option linter.unusedSimpArgs false
set_option maxRecDepth 100000
set_option maxHeartbeats 2000000
theorem nearOf_len {t : List SVtx} {p : Int} : (nearOf t p).length ≤ 96 := by
  have h32 := procN_le t
  have key : ∀ (q : Int) (n : Nat) (far : Int) (m i : Nat), (rowN t q n far m i).length ≤ m := by
    intro q n far m
    induction m with
    | zero => intro i; exact Nat.le_refl 0
    | succ m ih =>
      intro i
      have := ih (i + 1)
      unfold rowN
      split
      · simp; omega
      · omega
  unfold nearOf
  split
  · have h1 := key p (procN t) 1 (procN t - 1) 1
    have h2 := key p (procN t) 2 (procN t - 1) 1
    have h3 := key p (procN t) 3 (procN t - 1) 1
    simp only [rowOf, List.length_append]
    omega
  · simp

def scanB (s : Int) : List Int → Int
  | [] => -1
  | q :: r => if tb s q = true then q else scanB s r
theorem scanB_mem {s : Int} : ∀ {l : List Int}, scanB s l = -1 ∨ scanB s l ∈ l
  | [] => .inl rfl
  | q :: r => by
    rw [scanB]
    split
    · exact .inr (by simp)
    · exact (scanB_mem (l := r)).imp id (List.mem_cons_of_mem _)
theorem scanB_congr {s s' : Int} : ∀ {l : List Int}, (∀ x ∈ l, tb s x = tb s' x) → scanB s l = scanB s' l
  | [], _ => rfl
  | q :: r, h => by
    rw [scanB, scanB, h q (by simp), scanB_congr fun x hx => h x (List.mem_cons_of_mem _ hx)]
theorem app_near (t : List SVtx) (p : Int) (S : Obs) (T : Toks) : appX P false 48 (.sl .full [I p]) (t3 (nearR t p S).1) (nearR t p S).2 T = some (.sl (.own T.length) ((p :: nearOf t p).map I), (nearR t p S).2, T ++ [some 3]) := by
  have h1 := ty48.2.2.2.2
  have h2 := ty3.1
  have h3 := ty3.2.2.1
  have h4 := ty3.2.2.2
  have hn := @nearOf_len t p
  have key : ∀ l : List Int, l.length ≤ 96 → appA P 48 (.sl .full [I p]) (.sl .no (l.map I)) T = some (.sl (.own T.length) ((p :: l).map I), T ++ [some 3]) := fun l hl => by
    have hu : uni 1 [I p] = true := rfl
    simp only [appA, h1, h2, h3, h4]
    rw [if_pos ⟨by decide, rfl, uniI l, allI l, by simp; omega, by simp [maxLen]; omega⟩, if_pos hu]
    rfl
  unfold nearR
  by_cases hp : inP t p
  · rw [if_pos hp]
    by_cases h0 : nearOf t p = []
    · rw [if_pos h0]
      have := key [] (by simp)
      rw [h0]
      simp only [appX, Bool.false_eq_true, if_false, isSl, t3, t2, t1, t0, Bool.and_self, if_true]
      rw [show (AV.sl .no [] : AV) = .sl .no (([] : List Int).map I) from rfl, this]; rfl
    · rw [if_neg h0]
      have := key _ hn
      simp only [appX, Bool.false_eq_true, if_false, isSl, t3, t2, t1, t0, Bool.and_false, srcL, rowA]
      simp only [List.getElem?_append_right (Nat.le_refl _), Nat.sub_self, List.getElem?_cons_zero, if_true, List.length_map, Nat.le_refl]
      rw [List.take_of_length_le (by simp), this]; rfl
  · rw [if_neg hp]
    have h0 : nearOf t p = [] := by unfold nearOf; rw [if_neg hp]
    have := key [] (by simp)
    rw [h0]
    simp only [appX, Bool.false_eq_true, if_false, isSl, t3, t2, t1, t0, Bool.and_self, if_true]
    have e : appA P 48 (.sl .full [I p]) (.sl .nil []) T = appA P 48 (.sl .full [I p]) (.sl .no []) T := rfl
    rw [e, show (AV.sl .no [] : AV) = .sl .no (([] : List Int).map I) from rfl, this]; rfl
theorem near_app (o : Tok) (t : List SVtx) (p : Int) (ht : t.length ≤ 1000) (S : Obs) : Gs P XN 45 [.sl o (t.map encV), I p] S fun r S' => ∀ T, appX P false 48 (.sl .full [I p]) r S' T = some (.sl (.own T.length) ((p :: nearOf t p).map I), S', T ++ [some 3]) :=
  (near_gs o t p ht S).mono fun r S' h T => by rw [h.1, h.2]; exact app_near t p S T
theorem scan_drop {w : Int} {l : List Int} {i : Nat} {x : Int} (h : l[i]? = some x) : scanB w (l.drop i) = if tb w x = true then x else scanB w (l.drop (i + 1)) := by
  obtain ⟨hi, rfl⟩ := List.getElem?_eq_some_iff.mp h
  rw [List.drop_eq_getElem_cons hi, scanB]
theorem wake_g (t : List SVtx) (a : Int) (R : List SRr) (H : List (List Int)) (s i p : Int) (ht : t.length ≤ 64) (hs : U64 s) (hi : U64 i) (f : Fw R H) (hM : mayB t a R H s = true) (h0 : 0 ≤ p) (h1 : p < (R.length : Int)) : Gv P XN 15 [encRR t a R H s, U i, I p] (I (scanB (Go.bits .and .u64 i s) (p :: nearOf t p))) := by
  refine gv_of (lowN _ (by decide)) fun15 rfl ?_
  have n0 : ¬ p < 0 := by omega
  have n1 : ¬ (R.length : Int) ≤ p := by omega
  have hmay := runs_may_g lowN t a R H s ht hs f
  rw [hM] at hmay
  simp +decide only [Try.f15, encRR, go_sem, Nat.reduceAdd]
  refine WO_call rfl rfl rfl rfl rfl hmay ?_
  simp +decide only [go_sem, n0, n1, and_eq]
  refine WO_calls rfl rfl rfl rfl rfl rfl ((near_app .no t p (by omega) _).mono fun r S' h => ?_)
  have happ := h []
  have hlen := @nearOf_len t p
  clear h
  have hand := and_tb hi hs
  simp +decide only [go_sem, happ, and_eq, Nat.reduceAdd]
  change W P XN _ _ ⟨[_, _, _, _, _, _, _, _, U (Go.bits .and .u64 i s), _, _, _, _, _, _, _, _, _, _, _, _, _, _, _, _, _, _, _, _, _, _, _, _, _, _, _, _, _, _, _, _, _, _, _, _, _, _], _, _⟩ _
  generalize Go.bits .and .u64 i s = w at hand
  generalize hl : p :: nearOf t p = l
  have hll : l.length ≤ 97 := by rw [← hl, List.length_cons]; omega
  refine W_ind (fun k st => ∃ i : Nat, i + k = l.length ∧ FrIs 47 [(7, I (-1)), (8, U w), (35, .sl (.own 0) (l.map I)), (36, I l.length), (37, I i)] st.fr ∧ scanB w l = scanB w (l.drop i)) ?_ (n := l.length) ⟨0, by omega, ⟨rfl, rfl, rfl, by rw [← hl]; rfl, by rw [← hl]; rfl, rfl, trivial⟩, rfl⟩
  rintro k ⟨L', S, T⟩ ih ⟨i, hi, hF, hsc⟩
  obtain ⟨j, rfl⟩ := hF.ex
  have hw := wrap_nat i (by omega)
  simp +decide only [fr, jl, Nat.reduceAdd, go_sem]
  refine Wif_of (fun h => ?_) (fun h => ?_)
  · have hlt : i < l.length := by simpa using h
    obtain ⟨x, hx, hm⟩ := getE hlt
    rw [scan_drop hx] at hsc
    simp +decide only [go_sem, hx]
    refine WO_call rfl rfl rfl rfl rfl (has_g lowN hand.1 x) ?_
    simp +decide only [go_sem]
    refine Wif_of (fun h => ?_) (fun h => ?_)
    · rw [if_pos h] at hsc
      simp +decide only [go_sem]
      exact ⟨_, rfl, rfl, by rw [hsc]⟩
    · rw [if_neg (by rw [h]; decide)] at hsc
      simp +decide only [go_sem, hw]
      exact ih (k - 1) _ (by omega) ⟨i + 1, by omega, ⟨rfl, rfl, rfl, rfl, rfl, rfl, trivial⟩, hsc⟩
  · have hi' : i = l.length := by simp at h; omega
    subst hi'
    rw [List.drop_length] at hsc
    simp +decide only [go_sem]
    exact ⟨_, rfl, rfl, by rw [hsc]; rfl⟩
end Go.Proofs.Ytokkipocdhfglaa.Ev
namespace Go.Proofs.Ytokkipocdhfglaa.Ev
open Go Go.Proofs
open Go.RowKit (wrap64)
set_option linter.unusedVariables false
set_option linter.unusedSimpArgs false
set_option maxRecDepth 100000
set_option maxHeartbeats 2000000
theorem Left.row {e e' : TypeId} (hne : e' ≠ e) {S S' : Obs} (h : Left e S S') {j : Nat} {d : Bool} {ver n : Nat} {l : List AV} (hj : S[j]? = some (.row d ver n e' l)) : S'[j]? = some (.row d ver n e' l) := by
  rw [h.2 j (List.getElem?_eq_some_iff.mp hj).1 (fun ver n l e => by rw [hj] at e; cases e; exact hne rfl)]; exact hj
/-- The first k. -/
def setN : Nat → Int
  | 0 => 0
  | k + 1 => Go.bits .or .u64 (setN k) (bitv k)
theorem or_tb {s : Int} (hs : U64 s) (n : Int) : U64 (Go.bits .or .u64 s (bitv n)) ∧ ∀ m, tb (Go.bits .or .u64 s (bitv n)) m = (tb s m || decide (0 ≤ n ∧ n < 64 ∧ m = n)) := by
  obtain ⟨S, rfl, hS⟩ := hs.nat
  obtain ⟨B, e, hB, hb⟩ := bit_lt n
  unfold bitv
  rw [e, or_nat hS hB]
  have hlt : S ||| B < 2 ^ 64 := Nat.or_lt_two_pow hS hB
  refine ⟨⟨by omega, by have : (2 : Nat) ^ 64 = 18446744073709551616 := by decide
                        omega⟩, fun m => ?_⟩
  unfold tb
  by_cases h : 0 ≤ m ∧ m < 64
  · rw [if_pos h, if_pos h, Int.toNat_natCast, Int.toNat_natCast, Nat.testBit_or, hb]
    congr 1
    exact decide_eq_decide.mpr (by omega)
  · rw [if_neg h, if_neg h, decide_eq_false (by omega)]; rfl
theorem setN_u : ∀ k, U64 (setN k)
  | 0 => ⟨by decide, by decide⟩
  | k + 1 => (or_tb (setN_u k) k).1
section
variable {X : Prims} (hX : Low X)
include hX
theorem withb_g {s : Int} (n : Int) : Gv P X 18 [U s, I n] (U (Go.bits .or .u64 s (bitv n))) := by
  refine gv_of (hX _ (by decide)) fun18 rfl ?_
  simp +decide only [Try.f18, go_sem]
  refine WO_call rfl rfl rfl rfl rfl (bit_g hX n) ?_
  simp +decide only [go_sem, or_eq]
  exact ⟨_, rfl, rfl, rfl⟩
end
theorem cloneV_gs (t : List SVtx) (h0 : t ≠ []) (ht : t.length ≤ 1000) (S : Obs) : Gs P XN 69 [encT t] S fun r S' => r = .ms S.length 0 t.length ∧ S' = S ++ [.row true 0 2 61 (t.map encV)] := by
  have e1 : XN.prim 69 = some (cloneG 2 16 61) := rfl
  refine ⟨0, _, _, fun k _ => ?_, rfl, rfl⟩
  unfold evB
  rw [e1]
  have hn : t.map encV ≠ [] := by simpa using h0
  have hu : uni 2 (t.map encV) = true := by simp [uni, encV, AV.cells]
  have hd : (t.map encV).all d2 = true := by simp [encV]; intro x _; rfl
  have hs : (t.map encV).map s2 = t.map encV := by rw [List.map_map]; rfl
  show (cloneG 2 16 61 [.sl .no (t.map encV)] S).map _ = _
  simp only [cloneG]
  rw [if_neg hn, if_pos ⟨hu, hd, by simp; omega, by simp [maxLen]; omega⟩, hs]
  simp [t3, t2, t1, t0]
theorem new_g (t : List SVtx) (a : Int) (hV : Valid t) (h1 : ¬ a < 2) (h2 : ¬ 16 < a) : Gv P XN 36 [encT t, I a] (.tup [encRR t a (List.replicate (vsOf t 3).length ⟨0, []⟩) (List.replicate (vsOf t 1).length []) (setN (vsOf t 3).length), I 0]) := by
  refine gm_of (rw := true) (lowN _ (by decide)) fun36 rfl ?_
  have ht : t.length ≤ 64 := hV.2.1
  have hne : t ≠ [] := fun e => by have := hV.1; rw [e] at this; simp at this
  have hp32 := hV.2.2.1
  have hck := check_g lowN t (by omega)
  rw [if_pos hV] at hck
  have hml : (vsOf t 1).length ≤ 64 := Nat.le_trans pick_len ht
  simp +decide only [Try.f36, go_sem, Nat.reduceAdd]
  refine WO_call rfl rfl rfl rfl rfl hck ?_
  simp +decide only [go_sem, h1, h2, Nat.reduceAdd]
  refine Wif_of (fun h => absurd h (by decide)) (fun _ => ?_)
  simp +decide only [go_sem, h1, h2, Nat.reduceAdd]
  refine WO_calls rfl rfl rfl rfl rfl rfl ((cloneV_gs t hne (by omega) _).mono fun r S' h => ?_)
  obtain ⟨rfl, rfl⟩ := h
  simp +decide only [go_sem, fillA, places, splice, rwO, lit, qO, Nat.reduceAdd]
  refine WO_call rfl rfl rfl rfl rfl (nodes_g lowN t (by omega)) ?_
  have b1 : (0 : Int) ≤ ((vsOf t 1).length : Int) := by omega
  have b2 : ((vsOf t 1).length : Int) * ((24 : Nat) : Int) ≤ 140737488355328 := by omega
  have b3 : ((vsOf t 1).length : Int) ≤ (maxLen : Int) := by unfold maxLen; omega
  have hzu : (AV.v (Value.int IntKind.u64 0)) = U (setN 0) := rfl
  simp +decide only [go_sem, fillA, places, splice, rwO, lit, qO, Nat.reduceAdd, b1, b2, b3]
  refine WO_call rfl rfl rfl rfl rfl (procs_g lowN t (by omega)) ?_
  simp +decide only [go_sem, Nat.reduceAdd]
  generalize hn : (vsOf t 3).length = n at hp32
  generalize hm : (vsOf t 1).length = m at hml b1 b2 b3
  refine W_ind (fun k st => ∃ (i : Nat) (v : AV), i + k = n ∧ FrIs 50 [(4, .ptr 0 0), (7, .ptr 2 0), (33, I n), (34, I i)] st.fr ∧ st.S[0]? = some (.var false [.sl .nil [], I 0, .sl .nil [], .sl .nil [], U 0]) ∧ st.S[1]? = some (.row true 0 2 61 (t.map encV)) ∧ st.S[2]? = some (.var false [.ms 1 0 t.length, I a, v, .ms 3 0 m, U (setN i)]) ∧ st.S[3]? = some (.row true 0 1 48 (List.replicate m (L []))) ∧ Gro P 56 st.S v ((List.replicate i (⟨0, []⟩ : SRr)).map encG)) ?_ (n := n) ⟨0, .sl .nil [], by omega, ⟨rfl, rfl, rfl, by rw [← hn]; rfl, rfl, trivial⟩, rfl, rfl, rfl, rfl, .nil⟩
  rintro k ⟨L', S, T⟩ ih ⟨i, v, hi, hF, hS0, hS1, hS2, hS3, hA⟩
  obtain ⟨j, rfl⟩ := hF.ex
  have hw := wrap_nat i (by omega)
  have hv := hA.one
  simp only [one, t0, t1, AV.cells, nt] at hv
  simp +decide only [fr, jl, Nat.reduceAdd, go_sem]
  refine Wif_of (fun h => ?_) (fun h => ?_)
  · have hlt : i < n := by simpa using h
    obtain ⟨v', S1, happ, hA', hL⟩ := gro_ring hA ⟨0, []⟩ (by simp; omega) T
    have hv' := hA'.one
    simp only [one, t0, t1, AV.cells, nt] at hv'
    have g0 := hL.var hS0
    have g1 := hL.row (by decide) hS1
    have g2 := hL.var hS2
    have g3 := hL.row (by decide) hS3
    have hset : ∀ cs, (S1.set 2 (.var false cs))[2]? = some (.var false cs) := fun cs => List.getElem?_set_self (List.getElem?_eq_some_iff.mp g2).1
    change appX P true _ _ (.sl .full [.agg [I 0, .sl .no []]]) S _ = _ at happ
    simp +decide only [go_sem, hS2, happ, fillA, places, splice, rwO, lit, qO, usesT, appsT, isT, Nat.reduceBEq, stf, List.any_cons, List.any_nil, Option.isSome_some, Bool.true_and, Bool.and_true, Bool.false_or, Bool.or_false, Bool.true_or, Bool.or_true, Bool.not_true, Bool.not_false, hv.1, hv.2.1, hv.2.2.1, hv.2.2.2.1, hv.2.2.2.2, hv'.1, hv'.2.1, hv'.2.2.1, hv'.2.2.2.1, hv'.2.2.2.2, g2, hset]
    refine WO_call rfl rfl rfl rfl rfl (withb_g lowN i) ?_
    simp +decide only [go_sem, hset, splice, rwO, lit, qO, hw, List.set_set]
    have hr : List.replicate (i + 1) (⟨0, []⟩ : SRr) = List.replicate i ⟨0, []⟩ ++ [⟨0, []⟩] := List.replicate_succ'
    refine ih (k - 1) _ (by omega) ⟨i + 1, v', by omega, ⟨rfl, rfl, rfl, rfl, rfl, trivial⟩, ?_, ?_, ?_, ?_, ?_⟩
    · rw [List.getElem?_set_ne (by decide)]; exact g0
    · rw [List.getElem?_set_ne (by decide)]; exact g1
    · exact List.getElem?_set_self (List.getElem?_eq_some_iff.mp g2).1
    · rw [List.getElem?_set_ne (by decide)]; exact g3
    · rw [hr]; exact hA'.set g2
  · have hi' : i = n := by simp at h; omega
    subst hi'
    clear ih
    have hset : ∀ cs, (S.set 0 (.var false cs))[0]? = some (.var false cs) := fun cs => List.getElem?_set_self (List.getElem?_eq_some_iff.mp hS0).1
    simp +decide only [go_sem, hS0, hS2, hv.1, hv.2.1, hv.2.2.1, hv.2.2.2.1, hv.2.2.2.2, splice, rwO, lit, qO, hset, Nat.reduceAdd]
    have k1 : (S.set 0 (.var false [.ms 1 0 t.length, I a, v, .ms 3 0 m, U (setN i)]))[1]? = some (.row true 0 2 61 (t.map encV)) := by rw [List.getElem?_set_ne (by decide)]; exact hS1
    have k3 : (S.set 0 (.var false [.ms 1 0 t.length, I a, v, .ms 3 0 m, U (setN i)]))[3]? = some (.row true 0 1 48 (List.replicate m (L []))) := by rw [List.getElem?_set_ne (by decide)]; exact hS3
    have kv := hA.set (d' := false) (cs' := [.ms 1 0 t.length, I a, v, .ms 3 0 m, U (setN i)]) hS0
    generalize S.set 0 _ = S' at k1 k3 kv ⊢
    have z1 : fz0 S' 0 (.ms 1 0 t.length) = .sl .no (t.map encV) := by
      simp only [fz0, Nat.zero_le, if_true, rowA, k1, List.length_map, Nat.le_refl]
      rw [List.take_of_length_le (by simp)]
    have z3 : fz0 S' 0 (.ms 3 0 m) = .sl .no (List.replicate m (L [])) := by
      simp only [fz0, Nat.zero_le, if_true, rowA, k3, List.length_replicate, Nat.le_refl]
      rw [List.take_of_length_le (by simp)]
    obtain ⟨o, zv⟩ := kv.fz
    refine ⟨_, rfl, ?_, ?_⟩
    · show [AV.agg [fz0 S' 0 (.ms 1 0 t.length), I a, fz0 S' 0 v, fz0 S' 0 (.ms 3 0 m), U (setN i)], I 0].all d2 = true
      rw [z1, z3, zv]; rfl
    · show AV.tup (List.map s2 [AV.agg [fz0 S' 0 (.ms 1 0 t.length), I a, fz0 S' 0 v, fz0 S' 0 (.ms 3 0 m), U (setN i)], I 0]) = _
      rw [z1, z3, zv]
      show AV.tup [AV.agg [.sl .no (t.map encV), I a, .sl .no _, .sl .no (List.replicate m (L [])), U (setN i)], I 0] = _
      unfold encRR
      rw [List.map_replicate (f := L)]
end Go.Proofs.Ytokkipocdhfglaa.Ev
namespace Go.Proofs.Ytokkipocdhfglaa.Ev
open Go Go.Proofs
open Go.RowKit (wrap64)
set_option linter.unusedVariables false
set_option linter.unusedSimpArgs false
set_option maxRecDepth 100000
set_option maxHeartbeats 2000000
def T5 : List SVtx := [⟨-1, 0⟩, ⟨0, 1⟩, ⟨1, 2⟩, ⟨2, 3⟩, ⟨2, 3⟩]
theorem T5_valid : Valid T5 := by decide +kernel
theorem new5_g : Gv P XN 36 [encT T5, I 4] (.tup [encRR T5 4 [⟨0, []⟩, ⟨0, []⟩] [[]] 3, I 0]) := by
  have h := new_g T5 4 T5_valid (by decide) (by decide)
  have e3 : (vsOf T5 3).length = 2 := by decide +kernel
  have e1 : (vsOf T5 1).length = 1 := by decide +kernel
  have es : setN 2 = 3 := by decide +kernel
  rw [e3, e1, es] at h
  exact h
theorem may5 : mayB T5 4 [⟨0, []⟩, ⟨0, []⟩] [[]] 3 = true := by decide +kernel
theorem fw5 : Fw [⟨0, []⟩, ⟨0, []⟩] [[]] := ⟨by decide, by decide, by decide, by decide⟩
theorem shown18_g : Gv P XN 11 [] (B true) := by
  refine gv_of (lowN _ (by decide)) fun11 rfl ?_
  have w1 := wake_g T5 4 [⟨0, []⟩, ⟨0, []⟩] [[]] 3 2 0 (by decide) ⟨by decide, by decide⟩ ⟨by decide, by decide⟩ fw5 may5 (by decide) (by decide)
  have w2 := wake_g T5 4 [⟨0, []⟩, ⟨0, []⟩] [[]] 3 3 0 (by decide) ⟨by decide, by decide⟩ ⟨by decide, by decide⟩ fw5 may5 (by decide) (by decide)
  rw [show scanB (Go.bits .and .u64 2 3) (0 :: nearOf T5 0) = 1 by decide +kernel] at w1
  rw [show scanB (Go.bits .and .u64 3 3) (0 :: nearOf T5 0) = 0 by decide +kernel] at w2
  have b1 := bof_g lowN [1] (by decide)
  have b2 := bof_g lowN [0, 1] (by decide)
  rw [show ofS [1] = 2 by decide +kernel] at b1
  rw [show ofS [0, 1] = 3 by decide +kernel] at b2
  simp +decide only [Try.f11, go_sem, fillA, places, splice, Nat.reduceAdd]
  refine WO_call rfl rfl rfl rfl rfl new5_g ?_
  simp +decide only [go_sem, encRR]
  refine W_draw hmx (by kernel_rfl) ?_
  simp +decide only [go_sem]
  refine WO_call rfl rfl rfl rfl rfl b1 ?_
  simp +decide only [go_sem]
  refine WO_call rfl rfl rfl rfl rfl w1 ?_
  simp +decide only [go_sem]
  refine WO_call rfl rfl rfl rfl rfl b2 ?_
  simp +decide only [go_sem]
  refine WO_call rfl rfl rfl rfl rfl w2 ?_
  simp +decide only [go_sem]
  exact ⟨_, rfl, rfl, rfl⟩
end Go.Proofs.Ytokkipocdhfglaa.Ev
namespace Go.Proofs.Ytokkipocdhfglaa.Ev
open Go Go.Proofs
open Go.RowKit (wrap64)
set_option linter.unusedVariables false
set_option linter.unusedSimpArgs false
set_option maxRecDepth 100000
set_option maxHeartbeats 2000000
/-- Runs, as one. -/
structure SRN where
  t : List SVtx
  a : Int
  R : List SRr
  H : List (List Int)
  s : Int
def encN (r : SRN) : AV := encRR r.t r.a r.R r.H r.s
theorem u64_of {x : Int} (h : IntKind.u64.min ≤ x ∧ x ≤ IntKind.u64.max) : U64 x := by
  have h1 : IntKind.u64.min = 0 := rfl
  have h2 : IntKind.u64.max = 18446744073709551615 := by decide
  rw [h1, h2] at h
  exact ⟨by omega, by omega⟩
theorem self_plain {t : List SVtx} {w1 w2 s p : Int} (u1 : U64 w1) (u2 : U64 w2) (hs : U64 s) (hin : inP t p) (h0 : 0 ≤ p) (h64 : p < 64) {i : Int} (m1 : ∀ m, tb w1 m = (tb i m || decide (0 ≤ p ∧ p < 64 ∧ m = p))) (m2 : ∀ m, tb w2 m = (tb i m && !decide (0 ≤ p ∧ p < 64 ∧ m = p))) :
    let x := scanB (Go.bits .and .u64 w1 s) (p :: nearOf t p)
    let q := scanB (Go.bits .and .u64 w2 s) (p :: nearOf t p)
    ((x == p) == tb s p) = true ∧ (q != p) = true ∧ ((x == p) || (x == q)) = true := by
  have t1 := (and_tb u1 hs).2
  have t2 := (and_tb u2 hs).2
  have n1 : tb (Go.bits .and .u64 w1 s) p = tb s p := by
    rw [t1, m1, decide_eq_true (show 0 ≤ p ∧ p < 64 ∧ p = p from ⟨h0, h64, rfl⟩), Bool.or_true, Bool.true_and]
  have n2 : tb (Go.bits .and .u64 w2 s) p = false := by
    rw [t2, m2, decide_eq_true (show 0 ≤ p ∧ p < 64 ∧ p = p from ⟨h0, h64, rfl⟩)]; simp
  have hne : ∀ z : Int, scanB z (nearOf t p) ≠ p := fun z => by
    rcases scanB_mem (s := z) (l := nearOf t p) with h | h
    · rw [h]; omega
    · exact ((nearOf_mem hin).mp h).2
  have hsame : scanB (Go.bits .and .u64 w1 s) (nearOf t p) = scanB (Go.bits .and .u64 w2 s) (nearOf t p) := scanB_congr fun x hx => by
    have hxp := ((nearOf_mem hin).mp hx).2
    rw [t1, t2, m1, m2, decide_eq_false (fun h => hxp h.2.2)]; simp
  have s2 : scanB (Go.bits .and .u64 w2 s) (p :: nearOf t p) = scanB (Go.bits .and .u64 w2 s) (nearOf t p) := by
    rw [scanB, n2, if_neg (by decide)]
  have s1 : scanB (Go.bits .and .u64 w1 s) (p :: nearOf t p) = if tb s p = true then p else scanB (Go.bits .and .u64 w2 s) (nearOf t p) := by
    rw [scanB, n1, hsame]
  have hz := hne (Go.bits .and .u64 w2 s)
  intro x q
  show ((x == p) == tb s p) = true ∧ (q != p) = true ∧ ((x == p) || (x == q)) = true
  have ex : x = if tb s p = true then p else scanB (Go.bits .and .u64 w2 s) (nearOf t p) := s1
  have eq : q = scanB (Go.bits .and .u64 w2 s) (nearOf t p) := s2
  rw [ex, eq]
  generalize scanB (Go.bits .and .u64 w2 s) (nearOf t p) = z at hz
  cases ho : tb s p with
  | true => simp [hz]
  | false => simp [hz]
theorem placeSelf_g (r : SRN) (hs : U64 r.s) (i : Int) (hi : (Lit.int .u64 i).wf = true) (p : Int) {wp : Prop} (_ : wp) : Gv P XN 4 [encN r, U i, I p] (B true) := by
  obtain ⟨t, a, R, H, s⟩ := r
  have hs : U64 s := hs
  have hi : U64 i := u64_of (by simpa [Lit.wf] using hi)
  refine gv_of (lowN _ (by decide)) fun4 rfl ?_
  have hfew := few_g lowN t a R H s
  simp +decide only [Try.f4, encN, encRR, go_sem, Nat.reduceAdd]
  refine WO_call rfl rfl rfl rfl rfl shown18_g ?_
  simp +decide only [go_sem]
  refine WO_call rfl rfl rfl rfl rfl hfew ?_
  cases hF : fewB t R H
  · simp +decide only [go_sem]
    refine WO_not rfl ?_
    simp +decide only [go_sem]
    exact ⟨_, rfl, rfl, rfl⟩
  obtain ⟨ht, f1, f2, f3, f4⟩ := fewB_of hF
  have f : Fw R H := ⟨by omega, by omega, fun x hx => by have := f3 x hx; omega, fun x hx => by have := f4 x hx; omega⟩
  simp +decide only [go_sem]
  refine WO_call rfl rfl rfl rfl rfl (rmay_g lowN t a R H s ht hs f) ?_
  cases hM : mayB t a R H s
  · simp +decide only [go_sem]
    exact ⟨_, rfl, rfl, rfl⟩
  by_cases a0 : p < 0
  · simp +decide only [go_sem, a0]
    exact ⟨_, rfl, rfl, rfl⟩
  by_cases a1 : (R.length : Int) ≤ p
  · simp +decide only [go_sem, a0, a1]
    exact ⟨_, rfl, rfl, rfl⟩
  have hv : Valid t ∧ R.length = (vsOf t 3).length := by
    unfold mayB wholeB at hM
    simp only [Bool.and_eq_true, decide_eq_true_eq, beq_iff_eq] at hM
    exact ⟨hM.1.1.1.1.1.1.1, by have := hM.1.1.1.1.2; omega⟩
  have hin : inP t p := ⟨by omega, by rw [procN_of hv.1]; omega⟩
  simp +decide only [go_sem, a0, a1]
  refine WO_call rfl rfl rfl rfl rfl (made_g lowN t a R H s f) ?_
  simp +decide only [go_sem, encRR]
  have h64 : p < 64 := by omega
  obtain ⟨w1, q1, u1, m1⟩ := with_g lowN hi p
  obtain ⟨w2, q2, u2, m2⟩ := without_g lowN hi p
  have k1 := wake_g t a R H s w1 p ht hs u1 f hM (by omega) (by omega)
  have k2 := wake_g t a R H s w2 p ht hs u2 f hM (by omega) (by omega)
  obtain ⟨l1, l2, l3⟩ := self_plain u1 u2 hs hin (by omega) h64 m1 m2
  generalize scanB (Go.bits .and .u64 w1 s) (p :: nearOf t p) = x at k1 l1 l2 l3
  generalize scanB (Go.bits .and .u64 w2 s) (p :: nearOf t p) = q at k2 l1 l2 l3
  refine W_draw hmx (by kernel_rfl) ?_
  simp +decide only [go_sem]
  refine WO_call rfl rfl rfl rfl rfl q1 ?_
  simp +decide only [go_sem]
  refine WO_call rfl rfl rfl rfl rfl k1 ?_
  simp +decide only [go_sem]
  refine W_draw hmx (by kernel_rfl) ?_
  simp +decide only [go_sem]
  refine WO_call rfl rfl rfl rfl rfl q2 ?_
  simp +decide only [go_sem]
  refine WO_call rfl rfl rfl rfl rfl k2 ?_
  simp +decide only [go_sem]
  refine WO_call rfl rfl rfl rfl rfl (on_g lowN hs t a R H p) ?_
  cases e1 : (x == p)
  · rw [e1] at l1 l3
    rw [Bool.false_or] at l3
    simp +decide only [go_sem, e1, l1, l2]
    exact ⟨_, rfl, rfl, by rw [l3]⟩
  · rw [e1] at l1
    simp +decide only [go_sem, e1, l1, l2]
    exact ⟨_, rfl, rfl, rfl⟩
end Go.Proofs.Ytokkipocdhfglaa.Ev
namespace Go.Proofs.Ytokkipocdhfglaa.Ev
open Go Go.Proofs
set_option linter.unusedVariables false
set_option linter.unusedSimpArgs false
theorem opI : OpE P 3 I (fun x => IntKind.i64.min ≤ x ∧ x ≤ IntKind.i64.max) := OpE.int Try.underlying3
theorem opV : OpE P 61 encV (fun x => (IntKind.i64.min ≤ x.f0 ∧ x.f0 ≤ IntKind.i64.max) ∧ (IntKind.i64.min ≤ x.f1 ∧ x.f1 ≤ IntKind.i64.max)) :=
  OpE.struct (fun x : SVtx => (x.f0, x.f1)) (fun a => ⟨a.1, a.2⟩) (fun _ => rfl) Try.underlying61 (fun _ => by kernel_rfl)
    (OpF.cons (en := I) (z := 1) rfl (by kernel_rfl) (fun _ => rfl) opI (OpF.one (en := I) (z := 1) rfl (by kernel_rfl) (fun _ => rfl) opI))
theorem opT : OpE P 22 encT (fun l : List SVtx => (∀ x ∈ l, (IntKind.i64.min ≤ x.f0 ∧ x.f0 ≤ IntKind.i64.max) ∧ (IntKind.i64.min ≤ x.f1 ∧ x.f1 ≤ IntKind.i64.max)) ∧ l.length * P.bytesOf 61 ≤ 140737488351232 ∧ l.length ≤ maxLen) :=
  OpE.slice Try.underlying22 (of_decide_eq_true (by kernel_rfl)) (fun _ => by kernel_rfl) opV
end Go.Proofs.Ytokkipocdhfglaa.Ev
namespace Go.Proofs.Ytokkipocdhfglaa.Ev
open Go Go.Proofs
set_option linter.unusedVariables false
set_option linter.unusedSimpArgs false
set_option maxRecDepth 100000
theorem opL : OpE P 48 (fun l : List Int => .sl .no (l.map I)) (fun _ => True) :=
  OpE.imp (OpE.slice Try.underlying48 (of_decide_eq_true (by kernel_rfl)) (fun _ => by kernel_rfl) opI) (fun _ _ => trivial)
theorem opU : OpE P 25 U (fun x => IntKind.u64.min ≤ x ∧ x ≤ IntKind.u64.max) := OpE.int Try.underlying25
theorem opG : OpE P 66 encG (fun _ => True) :=
  OpE.imp (OpE.struct (fun x : SRr => (x.f0, x.f1)) (fun a => ⟨a.1, a.2⟩) (fun _ => rfl) Try.underlying66 (fun _ => by kernel_rfl)
    (OpF.cons (en := I) (z := 1) rfl (by kernel_rfl) (fun _ => rfl) opI (OpF.one (en := fun l : List Int => .sl .no (l.map I)) (z := 1) rfl (by kernel_rfl) (fun _ => rfl) opL))) (fun _ _ => trivial)
theorem opGs : OpE P 23 (fun R : List SRr => .sl .no (R.map encG)) (fun _ => True) :=
  OpE.imp (OpE.slice Try.underlying23 (of_decide_eq_true (by kernel_rfl)) (fun _ => by kernel_rfl) opG) (fun _ _ => trivial)
theorem opHs : OpE P 24 (fun H : List (List Int) => .sl .no (H.map L)) (fun _ => True) :=
  OpE.imp (OpE.slice Try.underlying24 (of_decide_eq_true (by kernel_rfl)) (fun _ => by kernel_rfl) opL) (fun _ _ => trivial)
theorem opN : OpE P 27 encN (fun r => U64 r.s) :=
  OpE.imp (OpE.struct (fun r : SRN => (r.t, r.a, r.R, r.H, r.s)) (fun a => ⟨a.1, a.2.1, a.2.2.1, a.2.2.2.1, a.2.2.2.2⟩) (fun _ => rfl) Try.underlying27 (fun _ => by kernel_rfl)
    (OpF.cons (en := encT) (z := 1) rfl (by kernel_rfl) (fun _ => rfl) opT (OpF.cons (en := I) (z := 1) rfl (by kernel_rfl) (fun _ => rfl) opI
      (OpF.cons (en := fun R : List SRr => .sl .no (R.map encG)) (z := 1) rfl (by kernel_rfl) (fun _ => rfl) opGs (OpF.cons (en := fun H : List (List Int) => .sl .no (H.map L)) (z := 1) rfl (by kernel_rfl) (fun _ => rfl) opHs
        (OpF.one (en := U) (z := 1) rfl (by kernel_rfl) (fun _ => rfl) opU)))))) (fun r h => u64_of h.2.2.2.2)
end Go.Proofs.Ytokkipocdhfglaa.Ev
