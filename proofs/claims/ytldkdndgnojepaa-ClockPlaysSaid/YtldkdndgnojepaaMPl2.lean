/- Parts of a proof. No condition. -/
import Derived.Test.YtldkdndgnojepaaMPl1
import Derived.BigFrame
import Derived.Test.YtldkdndgnojepaaProg
import Derived.Below
import Derived.Deep.Draws
import Derived.Deep.AppendLies
import Derived.Maps.AppendAt
import Derived.OwnWalk
import Derived.Laws.BytesArg
import Derived.Laws.MakeOwn
import Derived.Laws.OwnMore
import Derived.Deep.OwnRows
import Derived.Tactics
import Derived.Lib.ConvBytes
import Derived.Laws.Slices
import Derived.WalkKit
import Derived.KernelRfl
import Derived.RowKit3
import Derived.Deep.LoopGhost
import Derived.Deep.QuietTactic
import Derived.BigQuiet
import Derived.WideLaws
import Derived.Deep.DeepCutAuto
import Derived.Deep.CutBlock
import Derived.Deep.RegionHeld3
import Derived.Laws.Rows
import Derived.Lib.AppendStr
import Derived.ArgAppend
import Derived.Laws.IdiomCopy
import Derived.OrdersHeld
import Derived.Laws.BitsLemmas
import Derived.RowKit
import Derived.Test.YtldkdndgnojepaaWWords
import Derived.Test.YtldkdndgnojepaaWLast
import Derived.Test.YtldkdndgnojepaaWTab
import Derived.Test.YtldkdndgnojepaaWFour
import Derived.Test.YtldkdndgnojepaaWQPut
import Derived.Test.YtldkdndgnojepaaWApart
import Derived.Test.YtldkdndgnojepaaWArr
import Derived.Test.YtldkdndgnojepaaWZeros
import Derived.Test.YtldkdndgnojepaaWFoot
import Derived.Test.YtldkdndgnojepaaWKept
import Derived.Test.YtldkdndgnojepaaWShare
import Derived.Test.YtldkdndgnojepaaWN
import Derived.Test.YtldkdndgnojepaaWFootNe
import Derived.Test.YtldkdndgnojepaaWAt
import Derived.Test.YtldkdndgnojepaaWEqStruct
import Derived.Test.YtldkdndgnojepaaWRepsOne
import Derived.Test.YtldkdndgnojepaaWInv
import Derived.Test.YtldkdndgnojepaaWInvWords
import Derived.Test.YtldkdndgnojepaaWGuard
import Derived.Test.YtldkdndgnojepaaWNEv
import Derived.Test.YtldkdndgnojepaaWMore
namespace Go.Proofs.Ytldkdndgnojepaa.Heap
open Go Go.Proofs Go.RowKit Go.Shelf Go.Proofs.Ytldkdndgnojepaa.Own Go.Proofs.YtldkdndgnojepaaW.PrintWords Go.Proofs.YtldkdndgnojepaaW.PrintLast Go.Proofs.YtldkdndgnojepaaW.PrintMore
set_option linter.unusedVariables false
set_option linter.unusedSimpArgs false
theorem del1_calls (x : Tm) (g : Int) (gb : Nat) (b : Bool) (hb : (x.g == g) = b) (w : World) (hc : w.cell? ⟨gb, 0, none⟩ = some (.int .i64 g)) :
    Calls Try.prog 36 #[.agg #[.int .i64 x.t, .int .i64 x.s, .int .i64 x.g], .pointer (some ⟨gb, 0, none⟩)] w fun e w' => e = .returned (.bool b) ∧ Below w.heap.size w w' := by
  subst hb
  have hlt := World.block_lt_of_cell? w _ hc
  go_enter Try.func36, Try.ntmps36
  go_wp2
  go_ret
  exact ⟨rfl, below_alloc (Below.refl _ _) _⟩
def fi (g : Int) (l : List Tm) : Nat := l.findIdx (fun x => x.g == g)
theorem fi_le (g : Int) (l : List Tm) : fi g l ≤ l.length := List.findIdx_le_length
set_option maxHeartbeats 1000000 in
theorem index_calls (A : Option Addr) (c : Nat) (l : List Tm) (g : Int) (gb : Nat) (hlen : l.length ≤ 1000000) (w : World) (hC : kTm.C w A l.length l) (hc : w.cell? ⟨gb, 0, none⟩ = some (.int .i64 g)) (R : Int) (hR : (if fi g l < l.length then (fi g l : Int) else -1) = R) :
    Calls Try.prog 45 #[.slice A l.length c, .func (.func 36) #[] #[.pointer (some ⟨gb, 0, none⟩)]] w fun e w' => e = .returned (.int .i64 R) ∧ Below w.heap.size w w' := by
  have HC := Aside0.mk hC
  have HR := Aside0.mk hR
  have HG := Aside0.mk hc
  clear hC hc hR
  go_enter Try.func45, Try.ntmps45
  go_wp2
  go_loopg [5, 8] (l.length + 1) (fun kq v5 v8 w' => ∃ i : Nat, v8 = .int .i64 (i : Int) ∧ Aside0 (i + kq = l.length + 1 ∧ i ≤ l.length ∧ i ≤ fi g l) ∧ Aside0 (Below w.heap.size w w'))
  case atStart => exact ⟨0, rfl, ⟨by omega, Nat.zero_le _, Nat.zero_le _⟩, ⟨Below.refl _ _⟩⟩
  case round =>
    obtain ⟨i, rfl, HK, HB⟩ := hrel
    cases gk with
    | zero => exact absurd HK.out (by omega)
    | succ k1 =>
      by_cases hin : i < l.length
      · have c1 : decide ((i : Int) < (l.length : Int)) = true := decide_eq_true (by omega)
        have c1n : decide (i < l.length) = true := decide_eq_true (by omega)
        obtain ⟨ad, rfl, a0, a1, a2⟩ := at_elem (Kd.C_below HC.out HB.out) hin
        have hg := cell_below HG.out HB.out
        have HG2 := Aside0.mk hg
        have p0 : (i : Int) ≤ 1000000 := by omega
        have p1 : (0 : Int) ≤ (i : Int) := by omega
        have p2 : (i : Int) < (l.length : Int) := by omega
        have HL := Aside0.mk hin
        by_cases hx : (l[i].g == g) = true
        · have HF := Aside0.mk (show fi g l = i by
            have h1 : fi g l ≤ i := by
              refine Nat.le_of_not_lt fun hlt => ?_
              have h2 := List.not_of_lt_findIdx hlt
              rw [hx] at h2; cases h2
            exact Nat.le_antisymm h1 HK.out.2.2)
          have HX := Aside0.mk hx
          generalize l[i] = x at a0 a1 a2 HX
          clear hx hin hg
          go_wp2_with (go_at_call 36; (with_reducible refine (del1_calls x g gb true HX.out _ HG2.out).mono ?_); rintro e w2 ⟨rfl, hb⟩; have HB2 := Aside0.mk (HB.out.trans (hb.mono HB.out.size)); clear hb)
          go_ret
          exact ⟨by rw [← HR.out, HF.out, if_pos HL.out]; rfl, HB2.out⟩
        · replace hx : (l[i].g == g) = false := by simpa using hx
          have HF := Aside0.mk (show i + 1 ≤ fi g l by
            have h1 := HK.out.2.2
            rcases Nat.lt_or_eq_of_le h1 with h2 | h2
            · exact h2
            · exfalso
              have h3 : l.findIdx (fun x => x.g == g) < l.length := by show fi g l < l.length; omega
              have h4 := List.findIdx_getElem (p := fun x : Tm => x.g == g) (w := h3)
              have h5 : l.findIdx (fun x => x.g == g) = i := by show fi g l = i; omega
              simp only [h5] at h4
              rw [hx] at h4
              cases h4)
          have HX := Aside0.mk hx
          clear hx
          generalize l[i] = x at a0 a1 a2 HX
          clear hin hg
          go_wp2_with (go_at_call 36; (with_reducible refine (del1_calls x g gb false HX.out _ HG2.out).mono ?_); rintro e w2 ⟨rfl, hb⟩; have HB2 := Aside0.mk (HB.out.trans (hb.mono HB.out.size)); clear hb)
          go_roundg k1
          case measure => have := HK.out; omega
          case rel => exact ⟨i + 1, by first | rfl | go_num, ⟨by have := HK.out; omega, HL.out, HF.out⟩, HB2⟩
      · have c1 : decide ((i : Int) < (l.length : Int)) = false := decide_eq_false (by omega)
        have c1n : decide (i < l.length) = false := decide_eq_false (by omega)
        have HF := Aside0.mk (show ¬ fi g l < l.length by have := HK.out; omega)
        clear hin
        go_wp2
        go_ret
        exact ⟨by rw [← HR.out, if_neg HF.out]; rfl, HB.out⟩
def dropG (g : Int) (l : List Tm) : List Tm := l.filter (fun x => !(x.g == g))
theorem dropG_len (g : Int) (l : List Tm) : (dropG g l).length ≤ l.length := List.length_filter_le _ _
theorem dropG_snoc (g : Int) (l : List Tm) (x : Tm) : dropG g (l ++ [x]) = dropG g l ++ (if (x.g == g) = true then [] else [x]) := by
  unfold dropG
  rw [List.filter_append]
  by_cases h : (x.g == g) = true <;> simp [h]
theorem dropG_take_lt (g : Int) (l : List Tm) (k j : Nat) (hk : fi g l < j) (hj : j ≤ l.length) : (dropG g (l.take j)).length < j := by
  have h1 : ∀ (l : List Tm) (j : Nat), l.findIdx (fun x => x.g == g) < j → j ≤ l.length → (dropG g (l.take j)).length < j := by
    intro l
    induction l with
    | nil => intro j h1 h2; simp at h2; omega
    | cons x l ih =>
      intro j h1 h2
      cases j with
      | zero => omega
      | succ j =>
        rw [List.take_succ_cons]
        by_cases hx : (x.g == g) = true
        · have h3 := dropG_len g (l.take j)
          have h4 : dropG g (x :: l.take j) = dropG g (l.take j) := by unfold dropG; rw [List.filter_cons_of_neg (by simp [hx])]
          rw [h4]
          rw [List.length_take] at h3
          omega
        · have h4 : dropG g (x :: l.take j) = x :: dropG g (l.take j) := by unfold dropG; rw [List.filter_cons_of_pos (by simp [hx])]
          rw [h4, List.length_cons]
          have h5 : l.findIdx (fun x => x.g == g) < j := by
            rw [List.findIdx_cons] at h1
            simp [hx] at h1
            exact h1
          have := ih j h5 (by simpa using h2)
          omega
  exact h1 l j hk hj
theorem dropG_before (g : Int) (l : List Tm) (j : Nat) (hj : j ≤ fi g l) (hl : j ≤ l.length) : dropG g (l.take j) = l.take j := by
  unfold dropG
  refine List.filter_eq_self.mpr fun x hx => ?_
  obtain ⟨i, hi, rfl⟩ := List.getElem_of_mem hx
  rw [List.length_take] at hi
  rw [List.getElem_take]
  have := List.not_of_lt_findIdx (p := fun x : Tm => x.g == g) (xs := l) (i := i) (by show i < fi g l; omega)
  simpa using this
end Go.Proofs.Ytldkdndgnojepaa.Heap
namespace Go.Proofs.Ytldkdndgnojepaa.Heap
open Go Go.Proofs Go.RowKit Go.Shelf Go.Proofs.Ytldkdndgnojepaa.Own Go.Proofs.YtldkdndgnojepaaW.PrintWords Go.Proofs.YtldkdndgnojepaaW.PrintLast Go.Proofs.YtldkdndgnojepaaW.PrintMore
set_option linter.unusedVariables false
set_option linter.unusedSimpArgs false
section
variable {w0 w w' : World} {F0 P0 : Nat → Prop} {ts : List Thing} {l : List Tm}
theorem put3 {g c i : Nat} {n : Nat} (h : St w0 F0 P0 (rowT kTm 61 (.slice (some ⟨g, 0, none⟩) n c) l :: ts) w) (hi : i < l.length) (x : Tm) :
    St w0 F0 P0 (rowT kTm 61 (.slice (some ⟨g, 0, none⟩) n c) (l.set i x) :: ts) (((w.setCell ⟨g, i * 3, none⟩ (.int .i64 x.t)).setCell ⟨g, i * 3 + 1, none⟩ (.int .i64 x.s)).setCell ⟨g, i * 3 + 2, none⟩ (.int .i64 x.g)) :=
  (St.put kTm (h.pure (fun W => kTm_mk W x)) hi).1
theorem cell3 {g c i : Nat} {n : Nat} (h : St w0 F0 P0 (rowT kTm 61 (.slice (some ⟨g, 0, none⟩) n c) l :: ts) w) (hi : i < l.length) :
    (w.cell? ⟨g, i * 3, none⟩ = some (.int .i64 l[i].t) ∧ w.cell? ⟨g, i * 3 + 1, none⟩ = some (.int .i64 l[i].s) ∧ w.cell? ⟨g, i * 3 + 2, none⟩ = some (.int .i64 l[i].g)) ∧ (w.frozen? ⟨g, i * 3, none⟩ = false ∧ w.frozen? ⟨g, i * 3 + 1, none⟩ = false ∧ w.frozen? ⟨g, i * 3 + 2, none⟩ = false) ∧ g < w.heap.size := by
  obtain ⟨-, cur, hb, -⟩ := St.put kTm (h.pure (fun W => kTm_mk W l[i])) hi
  obtain ⟨g', c', e1, a0, a1, a2⟩ := elem h hi
  injection e1 with e1
  injection e1 with e1
  injection e1 with e1
  subst e1
  exact ⟨⟨a0, a1, a2⟩, ⟨by simp [World.frozen?, hb], by simp [World.frozen?, hb], by simp [World.frozen?, hb]⟩, (Array.getElem?_eq_some_iff.mp hb).1⟩
set_option maxRecDepth 100000 in
set_option maxHeartbeats 4000000 in
theorem delete_st {v : Value} {g : Int} {gb : Nat} (h : St w0 F0 P0 (rowT kTm 61 v l :: boxT gb 3 #[.int .i64 g] :: ts) w) (hlen : l.length ≤ 1000000) :
    Calls Try.prog 37 #[v, .func (.func 36) #[] #[.pointer (some ⟨gb, 0, none⟩)]] w fun e w' => ∃ v', e = .returned v' ∧ St w0 F0 P0 (rowT kTm 61 v' (dropG g l) :: boxT gb 3 #[.int .i64 g] :: ts) w' := by
  have hg := (h.drop.box_cell 0 _ rfl).1
  have HS := Aside0.mk h
  obtain ⟨A, c, rfl⟩ := h.slice
  have hC := h.reads.2.2
  by_cases hf : fi g l < l.length
  · obtain ⟨g0, c', hv, -⟩ := elem h hf
    injection hv with hv1 _ hv2
    subst hv1 hv2
    have hix := index_calls (some ⟨g0, 0, none⟩) c l g gb hlen w hC hg (fi g l : Int) (by rw [if_pos hf])
    have hcap : l.length ≤ c := h.reads.2.1
    have HF := Aside0.mk hf
    have e1 : ((fi g l : Int) == -1) = false := beq_eq_false_iff_ne.mpr (by omega)
    have e2 : decide ((fi g l : Int) = -1) = false := decide_eq_false (by omega)
    obtain ⟨k0, hk0⟩ : ∃ k, fi g l = k := ⟨_, rfl⟩
    have HK0 := Aside0.mk hk0
    rw [hk0] at hix e1 e2
    have p9 : (k0 : Int) ≤ 1000000 := by omega
    clear h hg hC hf hk0
    go_enter Try.func37, Try.ntmps37
    go_wp2_with (go_at_call 45; (with_reducible refine hix.mono ?_); rintro e w1 ⟨rfl, hb⟩; have HS1 := Aside0.mk (HS.out.below hb); clear hb HS hix)
    clear e1 e2
    go_loopg [5, 6, 7] (l.length + 1) (fun kq v5 v6 v7 w' => ∃ (i j : Nat) (l' : List Tm), v5 = .int .i64 (i : Int) ∧ v6 = .int .i64 (j : Int) ∧ Aside0 (j + kq = l.length + 2 + k0 ∧ i < j ∧ j ≤ l.length ∧ l'.length = l.length ∧ l'.take i = dropG g (l.take j) ∧ l'.drop j = l.drop j) ∧ Aside0 (St w0 F0 P0 (rowT kTm 61 (.slice (some ⟨g0, 0, none⟩) l.length c) l' :: boxT gb 3 #[.int .i64 g] :: ts) w'))
    case atStart =>
      refine ⟨k0, k0 + 1, l, rfl, by first | rfl | go_num, ⟨by omega, by omega, by have := HF.out; have := HK0.out; omega, rfl, ?_, rfl⟩, HS1⟩
      have h1 : k0 < l.length := by have := HF.out; have := HK0.out; omega
      have h2 : (l[k0].g == g) = true := by
        have h3 : l.findIdx (fun x => x.g == g) < l.length := HF.out
        have h4 := List.findIdx_getElem (p := fun x : Tm => x.g == g) (w := h3)
        have h5 : l.findIdx (fun x => x.g == g) = k0 := HK0.out
        simp only [h5] at h4
        exact h4
      rw [List.take_succ_eq_append_getElem h1, dropG_snoc, if_pos h2, List.append_nil, dropG_before g l k0 (by have := HK0.out; omega) (by omega)]
    case round =>
      clear HS1
      obtain ⟨i, j, l', rfl, rfl, HK, HS⟩ := hrel
      cases gk with
      | zero => exact absurd HK.out.1 (by have := HK.out.2.2.1; omega)
      | succ k1 =>
        obtain ⟨q1, q2, q3, q4, q5, q6⟩ := HK.out
        have hi' : i < l'.length := by omega
        have i0 : (i : Int) ≤ 1000000 := by omega
        have i1 : (0 : Int) ≤ (i : Int) := by omega
        have i2 : (i : Int) < (l.length : Int) := by omega
        have j0 : (j : Int) ≤ 1000000 := by omega
        have j1 : (0 : Int) ≤ (j : Int) := by omega
        by_cases hin : j < l.length
        · have c1 : decide ((j : Int) < (l.length : Int)) = true := decide_eq_true (by omega)
          have c1n : decide (j < l.length) = true := decide_eq_true (by omega)
          have j2 : (j : Int) < (l.length : Int) := by omega
          have hj' : j < l'.length := by omega
          have hlj : l'[j] = l[j] := by
            have h1 : (l'.drop j)[0]? = (l.drop j)[0]? := by rw [q6]
            rw [List.getElem?_drop, List.getElem?_drop, Nat.add_zero, List.getElem?_eq_getElem hj', List.getElem?_eq_getElem hin] at h1
            injection h1
          have q6' : l'.drop (j + 1) = l.drop (j + 1) := by
            rw [← List.drop_drop, q6, List.drop_drop]
          have q5' := fun b (hb : (l[j].g == g) = b) => show dropG g (l.take (j + 1)) = l'.take i ++ (if b = true then [] else [l[j]]) by
            rw [List.take_succ_eq_append_getElem hin, dropG_snoc, ← q5, hb]
          obtain ⟨⟨a0, a1, a2⟩, -, -⟩ := cell3 HS.out hj'
          rw [hlj] at a0 a1 a2
          obtain ⟨x, hx⟩ : ∃ x, x = l[j] := ⟨_, rfl⟩
          rw [← hx] at a0 a1 a2 q5'
          have hB := Aside0.mk (HS.out.box #[.int .i64 x.t, .int .i64 x.s, .int .i64 x.g] 61)
          have hg := (hB.out.drop.drop.box_cell 0 _ rfl).1
          have HG := Aside0.mk hg
          obtain ⟨b, hb⟩ : ∃ b, (x.g == g) = b := ⟨_, rfl⟩
          have Q5 := Aside0.mk (q5' b hb)
          have Q6 := Aside0.mk q6'
          have HBX := Aside0.mk hb
          have HI := Aside0.mk hi'
          have HJ := Aside0.mk hin
          clear q1 q2 q3 q4 q5 q6 q5' q6' hx hlj hg hb hi' hj' hin
          cases b with
          | true =>
            go_wp2_with (go_at_call 36; (with_reducible refine (del1_calls x g gb true HBX.out _ HG.out).mono ?_); rintro e w2 ⟨rfl, hb⟩; have HS2 := Aside0.mk (hB.out.drop.below hb); clear hb hB)
            go_roundg k1
            case measure => have := HK.out; omega
            case rel => exact ⟨i, j + 1, l', rfl, by first | rfl | go_num, ⟨by have := HK.out; omega, by have := HK.out; omega, by have := HJ.out; omega, HK.out.2.2.2.1, by rw [Q5.out]; simp, Q6.out⟩, HS2⟩
          | false =>
            go_wp2_with (go_at_call 36; (with_reducible refine (del1_calls x g gb false HBX.out _ HG.out).mono ?_); rintro e w2 ⟨rfl, hb⟩; have hS := hB.out.below hb; obtain ⟨⟨m0, m1, m2⟩, -, -⟩ := box_cells3 hS; obtain ⟨⟨n0, n1, n2⟩, ⟨n3, n4, n5⟩, n6⟩ := cell3 hS.drop HI.out; have HS2 := Aside0.mk (put3 hS.drop HI.out x); clear hb hB hS)
            go_roundg k1
            case measure => have := HK.out; omega
            case rel =>
              refine ⟨i + 1, j + 1, l'.set i x, by first | rfl | go_num, by first | rfl | go_num, ⟨by have := HK.out; omega, by have := HK.out; omega, by have := HJ.out; omega, by rw [List.length_set]; exact HK.out.2.2.2.1, ?_, ?_⟩, HS2⟩
              · rw [Q5.out]
                have h1 := HI.out
                rw [List.take_succ_eq_append_getElem (by rw [List.length_set]; exact h1), List.take_set_of_le (Nat.le_refl i)]
                simp
              · rw [List.drop_set_of_lt (by have := HK.out; omega)]
                exact Q6.out
        · obtain rfl : j = l.length := by omega
          have c1 : decide ((l.length : Int) < (l.length : Int)) = false := decide_eq_false (by omega)
          have c1n : decide (l.length < l.length) = false := decide_eq_false (by omega)
          rw [List.take_length] at q5
          have hil : i < l.length := by omega
          have hci : ¬ c = i := by omega
          obtain ⟨g', c', cur, hv', hb', h1', h2', h3', -⟩ := owns (l := l') (by rw [← q4] at HS; exact HS.out) (by omega)
          injection hv' with r1 _ r3
          injection r1 with r1
          injection r1 with r1
          subst r1 r3
          have hcl : ∀ ty, (Builtin.clear_ #[39] ty #[.slice (some ⟨g0, i * 3, none⟩) (l.length - i) (c - i)]).run Try.prog wr = _ := fun ty => clear_run ty wr g0 (i * 3) (l.length - i) (c - i) cur (by omega) hb' (by omega)
          have HS2 := Aside0.mk (cut (l := l') (by rw [← q4] at HS; exact HS.out) (by rw [q4]) (Nat.le_of_lt hi') (by omega) (Builtin.zeroCells #[.int .i64 0, .int .i64 0, .int .i64 0] (l.length - i)).toList)
          rw [q5] at HS2
          generalize (Builtin.zeroCells #[.int .i64 0, .int .i64 0, .int .i64 0] (l.length - i)).toList = vs at hcl HS2
          clear q1 q2 q3 q4 q5 q6 hb' h1' h2' h3' HS hin HK
          go_wp2_with (simp only [hcl])
          go_ret
          exact ⟨_, rfl, HS2.out⟩
  · have hix := index_calls A c l g gb hlen w hC hg (-1) (by rw [if_neg hf])
    have HF := Aside0.mk (show dropG g l = l by
      have h1 := dropG_before g l l.length (by have := fi_le g l; omega) (Nat.le_refl _)
      rwa [List.take_length] at h1)
    clear h hg hC hf
    go_enter Try.func37, Try.ntmps37
    go_wp2_with (go_at_call 45; (with_reducible refine hix.mono ?_); rintro e w1 ⟨rfl, hb⟩; have HS1 := Aside0.mk (HS.out.below hb); clear hb HS hix)
    go_ret
    exact ⟨_, rfl, by rw [HF.out]; exact HS1.out⟩
end
end Go.Proofs.Ytldkdndgnojepaa.Heap
namespace Go.Proofs.Ytldkdndgnojepaa.Heap
open Go Go.Proofs Go.RowKit Go.Shelf Go.Proofs.Ytldkdndgnojepaa.Own Go.Proofs.YtldkdndgnojepaaW.PrintWords Go.Proofs.YtldkdndgnojepaaW.PrintLast Go.Proofs.YtldkdndgnojepaaW.PrintMore
set_option linter.unusedVariables false
set_option linter.unusedSimpArgs false
def heapify : Nat → List Tm → List Tm
  | 0, l => l
  | k + 1, l => heapify k (downL (l.length + 1) l k)
theorem heapify_len : ∀ (k : Nat) (l : List Tm), (heapify k l).length = l.length
  | 0, _ => rfl
  | k + 1, l => by rw [heapify, heapify_len, downL_len]
theorem heapify_perm : ∀ (k : Nat) (l : List Tm), (heapify k l).Perm l
  | 0, _ => .refl _
  | k + 1, l => (heapify_perm k _).trans (down_perm _ _ _)
def dropL (g : Int) (l : List Tm) : List Tm := heapify ((dropG g l).length / 2) (dropG g l)
section
variable {w0 w w' : World} {F0 P0 : Nat → Prop} {ts : List Thing} {p eB : Nat} {cells : Array Value} {v : Value} {l : List Tm}
theorem down_eq {i : Nat} {x : Int} (h : St w0 F0 P0 (boxT p eB cells :: rowT kTm 61 v l :: ts) w) (hv : cells[0]? = some v) (hi : i ≤ l.length) (hlen : l.length ≤ 1000000) (hx : x = (i : Int)) :
    Calls Try.prog 30 #[.pointer (some ⟨p, 0, none⟩), .int .i64 x] w fun e w' => e = .returned (.tuple #[]) ∧ St w0 F0 P0 (boxT p eB cells :: rowT kTm 61 v (downL (l.length + 1) l i) :: ts) w' := by
  subst hx
  exact down_st h hv hi hlen
theorem drop_none (g : Int) (w : World) :
    Calls Try.prog 27 #[.pointer none, .int .i64 g] w fun e w' => e = .returned (.int .i64 0) ∧ Below w.heap.size w w' := by
  go_enter Try.func27, Try.ntmps27
  go_wp2
  go_ret
  exact ⟨rfl, below_alloc (Below.refl _ _) _⟩
set_option maxRecDepth 100000 in
set_option maxHeartbeats 4000000 in
theorem drop_st (h : St w0 F0 P0 (boxT p eB cells :: rowT kTm 61 v l :: ts) w) (hv : cells[0]? = some v) (hlen : l.length ≤ 100000) (g : Int) (n : Int) (hn : (l.length : Int) - ((dropG g l).length : Int) = n) :
    Calls Try.prog 27 #[.pointer (some ⟨p, 0, none⟩), .int .i64 g] w fun e w' => e = .returned (.int .i64 n) ∧ ∃ v', St w0 F0 P0 (boxT p eB (cells.setIfInBounds 0 v') :: rowT kTm 61 v' (dropL g l) :: ts) w' := by
  obtain ⟨A, c, hvs⟩ := h.drop.slice
  have HS := Aside0.mk (h.box #[.int .i64 g] 3).rot.rot
  have hch := (HS.out.drop.drop.box_cell 0 _ hv).1
  have hch0 := (h.box_cell 0 _ hv).1
  have HV := Aside0.mk hv
  have HZ : ∀ u : Value, (cells.setIfInBounds 0 u)[0]? = some u := fun u => by
    have h0 := (Array.getElem?_eq_some_iff.mp HV.out).1
    simp [h0]
  have HZ := Aside0.mk HZ
  have HLEN := Aside0.mk (show l.length ≤ 1000000 by omega)
  have HDL := Aside0.mk (dropG_len g l)
  have HN := Aside0.mk hn
  have p0 : (l.length : Int) ≤ 100000 := by omega
  subst hvs
  clear h hv hn
  go_enter Try.func27, Try.ntmps27
  go_wp2_with (go_at_call 37; go_loud ((with_reducible refine (delete_st HS.out HLEN.out).mono ?_); rintro e w1 ⟨v1, rfl, hS⟩; obtain ⟨A1, c1, hv1⟩ := hS.slice; subst hv1; have hk := hS.drop.drop.box_cell 0 _ HV.out; obtain ⟨k0, k1⟩ := hk; have HS1 := Aside0.mk (hS.swap.drop.swap.box_set 0 (.slice A1 (dropG g l).length c1)); clear hS HS))
  obtain ⟨m, hm⟩ : ∃ m, (dropG g l).length = m := ⟨_, rfl⟩
  have HM := Aside0.mk hm
  obtain ⟨dl, hdl⟩ : ∃ dl, dropG g l = dl := ⟨_, rfl⟩
  have HDL2 := Aside0.mk hdl
  rw [hm] at HS1 HN ⊢
  rw [hdl] at HS1
  have m0 : (m : Int) ≤ 100000 := by have := HDL.out; omega
  have w1e : wrap64 (wrap64 ((m : Int) / 2) - 1) = ((m / 2 : Nat) : Int) - 1 := by
    have h1 : wrap64 ((m : Int) / 2) = (m : Int) / 2 := by unfold wrap64; omega
    rw [h1]
    unfold wrap64
    omega
  rw [w1e]
  clear w1e hm hdl
  go_loopg [7] (m / 2 + 1) (fun kq v7 w' => ∃ (k : Nat) (l' : List Tm), v7 = .int .i64 ((k : Int) - 1) ∧ Aside0 (kq = k + 1 ∧ k ≤ m / 2 ∧ l'.length = m ∧ heapify k l' = dropL g l) ∧ Aside0 (St w0 F0 P0 (boxT p eB (cells.setIfInBounds 0 (.slice A1 m c1)) :: rowT kTm 61 (.slice A1 m c1) l' :: ts) w'))
  case atStart => exact ⟨m / 2, dl, rfl, ⟨rfl, Nat.le_refl _, by rw [← HDL2.out]; exact HM.out, by unfold dropL; rw [HM.out, HDL2.out]⟩, HS1⟩
  case round =>
    clear HS1
    obtain ⟨k, l', rfl, HK, HS⟩ := hrel
    cases gk with
    | zero => exact absurd HK.out.1 (by omega)
    | succ k1 =>
      have hz := (HS.out.box_cell 0 _ (HZ.out _)).1
      cases k with
      | zero =>
        have HE := Aside0.mk (show l' = dropL g l from HK.out.2.2.2)
        have c1 : decide ((0 : Int) ≤ -1) = false := rfl
        go_wp2
        go_ret
        exact ⟨by rw [← HN.out]; rfl, _, by rw [← HE.out]; exact HS.out⟩
      | succ k =>
        have c1 : decide ((0 : Int) ≤ (k : Int)) = true := decide_eq_true (by omega)
        have e1 : ((k + 1 : Nat) : Int) - 1 = (k : Int) := by omega
        rw [e1]
        have q0 : (k : Int) ≤ 100000 := by have := HK.out.2.1; omega
        have q1 : (0 : Int) ≤ (k : Int) := by omega
        have HIK := Aside0.mk (show k ≤ l'.length ∧ l'.length ≤ 1000000 by have := HK.out; omega)
        go_wp2_with (go_at_call 30; go_loud ((with_reducible refine (down_eq (x := (k : Int)) HS.out (HZ.out _) HIK.out.1 HIK.out.2 rfl).mono ?_); rintro e w2 ⟨rfl, hS⟩; have HS2 := Aside0.mk hS; clear hS HS))
        go_roundg k1
        case measure => have := HK.out; omega
        case rel => exact ⟨k, downL (l'.length + 1) l' k, by first | rfl | go_num, ⟨by have := HK.out; omega, by have := HK.out; omega, by rw [downL_len]; exact HK.out.2.2.1, HK.out.2.2.2⟩, HS2⟩
end
end Go.Proofs.Ytldkdndgnojepaa.Heap
namespace Go.Proofs.Ytldkdndgnojepaa.Heap
set_option linter.unusedVariables false
set_option linter.unusedSimpArgs false
def heapFrom (b : Nat) (l : List Tm) : Prop := ∀ j, 0 < j → j < l.length → b ≤ (j - 1) / 2 → le (tat l ((j - 1) / 2)) (tat l j)
structure DnB (b : Nat) (l : List Tm) (i : Nat) : Prop where
  at_ : b ≤ i
  rest : ∀ j, 0 < j → j < l.length → b ≤ (j - 1) / 2 → (j - 1) / 2 ≠ i → le (tat l ((j - 1) / 2)) (tat l j)
  kids : ∀ j, 0 < j → j < l.length → (j - 1) / 2 = i → 0 < i → b ≤ (i - 1) / 2 → le (tat l ((i - 1) / 2)) (tat l j)
theorem DnB.step {b : Nat} {l : List Tm} {i : Nat} (h : DnB b l i) (hi : i < l.length) (hm : leastOf l i ≠ i) : DnB b (swp l i (leastOf l i)) (leastOf l i) := by
  obtain ⟨s1, s2, s3⟩ := leastOf_spec hi
  generalize leastOf l i = m at s1 s2 s3 hm ⊢
  have s3 := s3.resolve_left hm
  have sw := tat_swp hi s3.2.2
  have hb := h.at_
  refine ⟨by omega, fun j j0 jl jb jp => ?_, fun j j0 jl jp m0 mb => ?_⟩
  · rw [swp_len] at jl
    by_cases e1 : j = i
    · subst e1
      rw [sw j, if_neg (by omega), if_pos rfl, sw, if_neg (by omega), if_neg (by omega)]
      exact h.kids m s3.2.1 s3.2.2 s3.1 j0 jb
    · by_cases e2 : j = m
      · subst e2
        rw [sw j, if_pos rfl, sw, if_neg (by omega), if_pos s3.1]
        exact s2
      · rw [sw j, if_neg e2, if_neg e1, sw, if_neg (by omega)]
        by_cases e3 : (j - 1) / 2 = i
        · rw [if_pos e3]; exact s1 j j0 jl e3
        · rw [if_neg e3]; exact h.rest j j0 jl jb e3
  · rw [swp_len] at jl
    rw [sw ((m - 1) / 2), if_neg (by omega), if_pos s3.1, sw j, if_neg (by omega), if_neg (by omega)]
    have := h.rest j j0 jl (by omega) (by omega)
    rw [jp] at this
    exact this
theorem DnB.done {b : Nat} {l : List Tm} {i : Nat} (h : DnB b l i) (hm : i < l.length → leastOf l i = i) : heapFrom b l := fun j j0 jl jb => by
  by_cases e : (j - 1) / 2 = i
  · have hi : i < l.length := by omega
    have := (leastOf_spec hi).1 j j0 jl e
    rw [hm hi] at this
    rw [e]; exact this
  · exact h.rest j j0 jl jb e
theorem downB : ∀ (f : Nat) (b : Nat) (l : List Tm) (i : Nat), l.length - i < f → DnB b l i → heapFrom b (downL f l i)
  | 0, b, l, i, hf, h => by omega
  | f + 1, b, l, i, hf, h => by
    simp only [downL]
    by_cases hm : leastOf l i = i
    · rw [if_pos hm]; exact h.done (fun _ => hm)
    · rw [if_neg hm]
      have hc := (leastOf_cases l i).resolve_left hm
      exact downB f b _ _ (by rw [swp_len]; omega) (h.step (by omega) hm)
theorem heapify_heap : ∀ (k : Nat) (l : List Tm), heapFrom k l → isHeap (heapify k l)
  | 0, l, h => fun j j0 jl => h j j0 jl (Nat.zero_le _)
  | k + 1, l, h => by
    rw [heapify]
    refine heapify_heap k _ (downB _ k l k (by omega) ⟨Nat.le_refl _, fun j j0 jl jb jp => h j j0 jl (by omega), fun j j0 jl jp i0 ib => by omega⟩)
theorem dropL_heap (g : Int) (l : List Tm) : isHeap (dropL g l) := heapify_heap _ _ (fun j j0 jl jb => by omega)
theorem dropL_perm (g : Int) (l : List Tm) : (dropL g l).Perm (dropG g l) := heapify_perm _ _
theorem dropG_perm {g : Int} {l m : List Tm} (h : l.Perm m) : (dropG g l).Perm (dropG g m) := h.filter _
end Go.Proofs.Ytldkdndgnojepaa.Heap
namespace Go.Proofs.Ytldkdndgnojepaa.Heap
open Go Go.RowKit Go.Shelf Go.Proofs.Ytldkdndgnojepaa.Own Go.Proofs.YtldkdndgnojepaaW.PrintWords Go.Proofs.YtldkdndgnojepaaW.PrintLast Go.Proofs.YtldkdndgnojepaaW.PrintMore
set_option linter.unusedVariables false
set_option linter.unusedSimpArgs false
def Srt (l : List Tm) : Prop := l.Pairwise le
theorem sortL_perm (l : List Tm) : (sortL l).Perm l := List.mergeSort_perm l _
theorem sortL_srt (l : List Tm) : Srt (sortL l) := by
  have h := List.pairwise_mergeSort (le := leB) (fun a b c h1 h2 => (leB_iff a c).mpr (le_trans ((leB_iff a b).mp h1) ((leB_iff b c).mp h2))) (fun a b => by
    by_cases h : le a b
    · rw [(leB_iff a b).mpr h]; rfl
    · rw [(leB_iff b a).mpr (le_of_not h)]; simp) l
  exact h.imp (fun {a b} hab => (leB_iff a b).mp hab)
theorem le_anti {x y : Tm} (h1 : le x y) (h2 : le y x) : x = y := by
  unfold le at h1 h2
  have hn := cmp_neg x y
  exact (cmp_zero x y).mp (by omega)
theorem srt_unique : ∀ {l m : List Tm}, Srt l → Srt m → l.Perm m → l = m := fun h1 h2 hp => List.Perm.eq_of_pairwise (le := le) (fun a b _ _ h1 h2 => le_anti h1 h2) h1 h2 hp
theorem sortL_eq {l m : List Tm} (hs : Srt m) (hp : m.Perm l) : sortL l = m := srt_unique (sortL_srt l) hs ((sortL_perm l).trans hp.symm)
theorem sortL_congr {l m : List Tm} (h : l.Perm m) : sortL l = sortL m := sortL_eq (sortL_srt m) ((sortL_perm m).trans h.symm)
theorem sortL_cons {x : Tm} {l : List Tm} (h : ∀ y ∈ l, le x y) : sortL (x :: l) = x :: sortL l :=
  sortL_eq (List.pairwise_cons.mpr ⟨fun y hy => h y ((sortL_perm l).mem_iff.mp hy), sortL_srt l⟩) ((sortL_perm l).cons x)
theorem sortL_pop {x : Tm} {l : List Tm} (h : isHeap (x :: l)) : sortL (x :: l) = x :: sortL (popL (x :: l)) := by
  rw [sortL_cons (fun y hy => head_least h y (List.mem_cons_of_mem _ hy)), sortL_congr (pop_perm x l)]
theorem cmp_b (x y : Tm) (d : Int) (h : cmpT x y = d) (w : World) : Calls Try.prog 33 #[.agg #[.int .i64 x.t, .int .i64 x.s, .int .i64 x.g], .agg #[.int .i64 y.t, .int .i64 y.s, .int .i64 y.g]] w fun e w' => e = .returned (.int .i64 d) ∧ Below w.heap.size w w' := by
  subst h; exact cmp_calls x y w
theorem wrap_id {x : Int} (h1 : -9223372036854775808 ≤ x) (h2 : x ≤ 9223372036854775807) : IntKind.i64.wrap x = x := Go.IntWalk.i64_in x ⟨h1, h2⟩
end Go.Proofs.Ytldkdndgnojepaa.Heap
namespace Go.Proofs.Ytldkdndgnojepaa.Own
open Go
theorem SepF.perm {w : World} {P : Nat → Prop} {ts ts' : List Thing} (h : ts.Perm ts') : ∀ {F : Nat → Prop}, SepF ts w F P → SepF ts' w F P := by
  induction h with
  | nil => exact fun h => h
  | cons x _ ih => rintro F ⟨F1, F2, h1, h2, h3, h4⟩; exact ⟨F1, F2, h1, h2, h3, ih h4⟩
  | swap x y l => exact fun h => h.swap
  | trans _ _ ih1 ih2 => exact fun h => ih2 (ih1 h)
theorem St.perm {w0 w : World} {F0 P0 : Nat → Prop} {ts ts' : List Thing} (h : St w0 F0 P0 ts w) (hp : ts.Perm ts') : St w0 F0 P0 ts' w := by
  obtain ⟨F, hF, hm⟩ := h
  exact ⟨⟨F, hF.perm hp, hm⟩⟩
/-- What stands ahead goes behind. -/
theorem St.turn {w0 w : World} {F0 P0 : Nat → Prop} {ts1 ts2 ts : List Thing} (h : St w0 F0 P0 (ts1 ++ ts2 ++ ts) w) : St w0 F0 P0 (ts2 ++ ts1 ++ ts) w := h.perm (List.perm_append_comm.append_right ts)
end Go.Proofs.Ytldkdndgnojepaa.Own
namespace Go.Proofs.Ytldkdndgnojepaa.Heap
open Go Go.RowKit Go.Shelf Go.Proofs.Ytldkdndgnojepaa.Own Go.Proofs.YtldkdndgnojepaaW.PrintWords Go.Proofs.YtldkdndgnojepaaW.PrintLast Go.Proofs.YtldkdndgnojepaaW.PrintMore
set_option linter.unusedVariables false
set_option linter.unusedSimpArgs false
/-- A clock of one's own, behind its pointer: its heap, what time it is, how many slept. -/
def Ck (w0 : World) (F0 P0 : Nat → Prop) (p : Nat) (H : List Tm) (now seq : Int) (ts : List Thing) (w : World) : Prop := ∃ v, St w0 F0 P0 (boxT p 43 #[v, .int .i64 now, .int .i64 seq] :: rowT kTm 61 v H :: ts) w
section
variable {w0 w w' : World} {F0 P0 : Nat → Prop} {ts : List Thing} {p : Nat} {H l : List Tm} {now seq : Int}
theorem Ck.new (h : St w0 F0 P0 ts w) : Ck w0 F0 P0 w.heap.size [] 0 0 ts (w.alloc (.cells #[.slice none 0 0, .int .i64 0, .int .i64 0] 43)) := ⟨.slice none 0 0, ((h.box _ _).nil kTm 61).swap⟩
theorem Ck.below (h : Ck w0 F0 P0 p H now seq ts w) (hb : Below w.heap.size w w') : Ck w0 F0 P0 p H now seq ts w' := by
  obtain ⟨v, h⟩ := h
  exact ⟨v, h.below hb⟩
theorem Ck.bel (h : Ck w0 (fun _ => False) P0 p H now seq ts w) : Below w0.heap.size w0 w := by
  obtain ⟨v, h⟩ := h
  exact h.bel
theorem Ck.cells (h : Ck w0 F0 P0 p H now seq ts w) : (∃ v, w.cell? ⟨p, 0, none⟩ = some v) ∧ (w.cell? ⟨p, 1, none⟩ = some (.int .i64 now) ∧ w.frozen? ⟨p, 1, none⟩ = false) ∧ (w.cell? ⟨p, 2, none⟩ = some (.int .i64 seq) ∧ w.frozen? ⟨p, 2, none⟩ = false) ∧ p < w.heap.size := by
  obtain ⟨v, h⟩ := h
  exact ⟨⟨v, (h.box_cell 0 _ rfl).1⟩, h.box_cell 1 _ rfl, h.box_cell 2 _ rfl, h.boxed.2⟩
theorem Ck.setNow (h : Ck w0 F0 P0 p H now seq ts w) (n : Int) : Ck w0 F0 P0 p H n seq ts (w.setCell ⟨p, 1, none⟩ (.int .i64 n)) := by
  obtain ⟨v, h⟩ := h
  exact ⟨v, by have h1 := h.box_set 1 (.int .i64 n); simpa using h1⟩
theorem Ck.setSeq (h : Ck w0 F0 P0 p H now seq ts w) (n : Int) : Ck w0 F0 P0 p H now n ts (w.setCell ⟨p, 2, none⟩ (.int .i64 n)) := by
  obtain ⟨v, h⟩ := h
  exact ⟨v, by have h1 := h.box_set 2 (.int .i64 n); simpa using h1⟩
theorem Ck.push (h : Ck w0 F0 P0 p H now seq ts w) (hlen : H.length ≤ 100000) (x : Tm) :
    Calls Try.prog 26 #[.pointer (some ⟨p, 0, none⟩), .agg #[.int .i64 x.t, .int .i64 x.s, .int .i64 x.g]] w fun e w' => e = .returned (.tuple #[]) ∧ Ck w0 F0 P0 p (pushL H x) now seq ts w' := by
  obtain ⟨v, h⟩ := h
  refine (push_st h rfl hlen x).mono ?_
  rintro e w' ⟨rfl, v', h'⟩
  exact ⟨rfl, v', by simpa using h'⟩
theorem Ck.first_nil (h : Ck w0 F0 P0 p [] now seq ts w) :
    Calls Try.prog 22 #[.pointer (some ⟨p, 0, none⟩)] w fun e w' => e = .returned (.tuple #[zeroTm.agg, .bool false]) ∧ Ck w0 F0 P0 p [] now seq ts w' := by
  obtain ⟨v, h⟩ := h
  refine (Heap.first_nil h rfl).mono ?_
  rintro e w' ⟨rfl, hb⟩
  exact ⟨rfl, v, h.below hb⟩
theorem Ck.first_cons {x : Tm} (h : Ck w0 F0 P0 p (x :: l) now seq ts w) (hlen : l.length ≤ 100000) :
    Calls Try.prog 22 #[.pointer (some ⟨p, 0, none⟩)] w fun e w' => e = .returned (.tuple #[x.agg, .bool true]) ∧ Ck w0 F0 P0 p (x :: l) now seq ts w' := by
  obtain ⟨v, h⟩ := h
  refine (Heap.first_cons h rfl (by omega)).mono ?_
  rintro e w' ⟨rfl, hb⟩
  exact ⟨rfl, v, h.below hb⟩
theorem Ck.pop_cons {x : Tm} (h : Ck w0 F0 P0 p (x :: l) now seq ts w) (hlen : l.length ≤ 100000) :
    Calls Try.prog 23 #[.pointer (some ⟨p, 0, none⟩)] w fun e w' => e = .returned (.tuple #[x.agg, .bool true]) ∧ Ck w0 F0 P0 p (popL (x :: l)) now seq ts w' := by
  obtain ⟨v, h⟩ := h
  refine (Heap.pop_cons h rfl hlen).mono ?_
  rintro e w' ⟨rfl, v', h'⟩
  exact ⟨rfl, v', by simpa using h'⟩
theorem Ck.dropped (h : Ck w0 F0 P0 p H now seq ts w) (hlen : H.length ≤ 100000) (g n : Int) (hn : (H.length : Int) - ((dropG g H).length : Int) = n) :
    Calls Try.prog 27 #[.pointer (some ⟨p, 0, none⟩), .int .i64 g] w fun e w' => e = .returned (.int .i64 n) ∧ Ck w0 F0 P0 p (dropL g H) now seq ts w' := by
  obtain ⟨v, h⟩ := h
  refine (drop_st h rfl hlen g n hn).mono ?_
  rintro e w' ⟨rfl, v', h'⟩
  exact ⟨rfl, v', by simpa using h'⟩
theorem Ck.all (h : Ck w0 F0 P0 p H now seq ts w) (hlen : H.length ≤ 1000000) :
    Calls Try.prog 24 #[.pointer (some ⟨p, 0, none⟩)] w fun e w' => ∃ A c, e = .returned (.slice A H.length c) ∧ kTm.C w' A (sortL H).length (sortL H) ∧ Below w.heap.size w w' ∧ Ck w0 F0 P0 p H now seq ts w' := by
  obtain ⟨v, h⟩ := h
  refine (all_st h rfl hlen).mono ?_
  rintro e w' ⟨v', rfl, hO, hB⟩
  have hO2 : w'.ownsRow w.heap.size 61 3 v' (sortL H).length (flat (sortL H)) := by rw [sortL_len]; exact hO
  have hS := h.got (R_of hO2) hB (Nat.le_refl _)
  obtain ⟨A, c, rfl⟩ := hS.slice
  obtain ⟨-, hc, hV⟩ := hS.freeze
  exact ⟨A, c, by rw [sortL_len], hV.now, hB, v, h.below hB⟩
theorem now_calls (h : Ck w0 F0 P0 p H now seq ts w) :
    Calls Try.prog 14 #[.pointer (some ⟨p, 0, none⟩)] w fun e w' => e = .returned (.int .i64 now) ∧ w' = w := by
  obtain ⟨-, ⟨c1, -⟩, -, -⟩ := h.cells
  go_enter Try.func14, Try.ntmps14
  go_wp2
  go_ret
  exact ⟨rfl, rfl⟩
theorem now_none (w : World) :
    Calls Try.prog 14 #[.pointer none] w fun e w' => e = .returned (.int .i64 0) ∧ w' = w := by
  go_enter Try.func14, Try.ntmps14
  go_wp2
  go_ret
  exact ⟨rfl, rfl⟩
theorem wake_calls (h : Ck w0 F0 P0 p H now seq ts w) (hlen : H.length ≤ 100000) (g : Int) (b : Bool) (hb : decide ((0 : Int) < (H.length : Int) - ((dropG g H).length : Int)) = b) :
    Calls Try.prog 19 #[.pointer (some ⟨p, 0, none⟩), .int .i64 g] w fun e w' => e = .returned (.bool b) ∧ Ck w0 F0 P0 p (dropL g H) now seq ts w' := by
  obtain ⟨n, hn⟩ : ∃ n, (H.length : Int) - ((dropG g H).length : Int) = n := ⟨_, rfl⟩
  rw [hn] at hb
  have hd := h.dropped hlen g n hn
  clear hn
  go_enter Try.func19, Try.ntmps19
  go_wp2_with (go_at_call 27; (with_reducible refine hd.mono ?_); rintro e w2 ⟨rfl, hS⟩)
  go_ret
  exact ⟨by rw [← hb]; rfl, hS⟩
theorem wake_none (g : Int) (w : World) :
    Calls Try.prog 19 #[.pointer none, .int .i64 g] w fun e w' => e = .returned (.bool false) ∧ w' = w := by
  go_enter Try.func19, Try.ntmps19
  go_wp2
  go_ret
  exact ⟨rfl, rfl⟩
end
end Go.Proofs.Ytldkdndgnojepaa.Heap
namespace Go.Proofs.Ytldkdndgnojepaa.Heap
open Go Go.RowKit Go.Shelf Go.Proofs.Ytldkdndgnojepaa.Own Go.Proofs.YtldkdndgnojepaaW.PrintWords Go.Proofs.YtldkdndgnojepaaW.PrintLast Go.Proofs.YtldkdndgnojepaaW.PrintMore
set_option linter.unusedVariables false
set_option linter.unusedSimpArgs false
theorem infoI : (Try.prog.info? 3).map (fun i => (i.zero, i.size, i.bytes)) = some (some (.int .i64 0), (Kd.int .i64).sz, 8) := by kernel_rfl
/-- A list of numbers that is only read. -/
def Nums (A : Option Addr) (L : List Int) : Thing := valT (fun W => (Kd.int .i64).C W A L.length L)
def gs (l : List Tm) : List Int := l.map Tm.g
section
variable {w0 w w' : World} {F0 P0 : Nat → Prop} {ts : List Thing} {p : Nat} {H l : List Tm} {now seq : Int}
theorem Ck.all2 (h : Ck w0 F0 P0 p H now seq ts w) (hlen : H.length ≤ 1000000) :
    Calls Try.prog 24 #[.pointer (some ⟨p, 0, none⟩)] w fun e w' => ∃ A c, e = .returned (.slice A H.length c) ∧ Ck w0 F0 P0 p H now seq (valT (fun W => kTm.C W A (sortL H).length (sortL H)) :: ts) w' := by
  obtain ⟨v, h⟩ := h
  refine (all_st h rfl hlen).mono ?_
  rintro e w' ⟨v', rfl, hO, hB⟩
  have hO2 : w'.ownsRow w.heap.size 61 3 v' (sortL H).length (flat (sortL H)) := by rw [sortL_len]; exact hO
  have hS := h.got (R_of hO2) hB (Nat.le_refl _)
  obtain ⟨A, c, rfl⟩ := hS.slice
  obtain ⟨-, hc, hV⟩ := hS.freeze
  exact ⟨A, c, by rw [sortL_len], v, hV.nth2.nth2⟩
set_option maxRecDepth 100000 in
set_option maxHeartbeats 4000000 in
theorem asleep_calls (h : Ck w0 F0 P0 p H now seq ts w) (hlen : H.length ≤ 100000) :
    Calls Try.prog 13 #[.pointer (some ⟨p, 0, none⟩)] w fun e w' => ∃ A c, e = .returned (.slice A H.length c) ∧ H.length ≤ c ∧ Ck w0 F0 P0 p H now seq (Nums A (gs (sortL H)) :: ts) w' := by
  have hal := Ck.all2 h (by omega)
  obtain ⟨S, hS⟩ : ∃ S, sortL H = S := ⟨_, rfl⟩
  have hSl : S.length = H.length := by rw [← hS, sortL_len]
  rw [hS] at hal ⊢
  rw [← hSl] at hlen hal ⊢
  have hS0 : (S.length : Int) ≤ 100000 := by omega
  clear h hS hSl
  go_enter Try.func13, Try.ntmps13
  go_wp2_with (go_at_call 24; (with_reducible refine hal.mono ?_); rintro e w2 ⟨A1, c1, rfl, hS⟩; obtain ⟨u, hS⟩ := hS; have HS := Aside0.mk (hS.nil (Kd.int .i64) 3); clear hS)
  go_loopg [3, 5, 13] (S.length + 1) (fun kq v3 v5 v13 w' => ∃ (k : Nat) (v : Value), v3 = v ∧ v13 = .int .i64 (k : Int) ∧ Aside0 (k + kq = S.length + 1 ∧ k ≤ S.length) ∧ Aside0 (St w0 F0 P0 (rowT (Kd.int .i64) 3 v (gs (S.take k)) :: boxT p 43 #[u, .int .i64 now, .int .i64 seq] :: rowT kTm 61 u H :: valT (fun W => kTm.C W A1 S.length S) :: ts) w'))
  case atStart => exact ⟨0, _, rfl, rfl, ⟨by omega, Nat.zero_le _⟩, HS⟩
  case round =>
    clear HS
    obtain ⟨k, v, rfl, rfl, HK, HS⟩ := hrel
    cases gk with
    | zero => exact absurd HK.out (by omega)
    | succ k1 =>
      have hvs := HS.out.slice
      obtain ⟨A3, c3, rfl⟩ := hvs
      have hgl : (gs (S.take k)).length = k := by have := HK.out.2; simp [gs]; omega
      have HGL := Aside0.mk hgl
      rw [hgl] at HS ⊢
      clear hgl
      by_cases hin : k < S.length
      · have d1 : decide ((k : Int) < (S.length : Int)) = true := decide_eq_true (by omega)
        have d1n : decide (k < S.length) = true := decide_eq_true (by omega)
        obtain ⟨ad, rfl, a0, a1, a2⟩ := at_elem (HS.out.drop.drop.drop.now) hin
        have p0 : (k : Int) ≤ 100000 := by omega
        have p1 : (0 : Int) ≤ (k : Int) := by omega
        have p2 : (k : Int) < (S.length : Int) := by omega
        have HT := Aside0.mk (show gs (S.take (k + 1)) = gs (S.take k) ++ [S[k].g] by unfold gs; rw [List.take_succ_eq_append_getElem hin, List.map_append]; rfl)
        have HIN := Aside0.mk hin
        generalize S[k] = x at a0 a1 a2 HT
        have HB := Aside0.mk (HS.out.below (below_alloc (Below.refl _ _) (.cells #[.int .i64 x.t, .int .i64 x.s, .int .i64 x.g] 61)))
        clear hin HS
        go_wp2_with (at_builtin; go_loud (refine St.append (Kd.int .i64) rfl (.tmp 17) (.tmp 20) 26 3 (.int .i64 0) 8 rfl Try.underlying26 infoI rfl (by decide) (by decide) (.slice A3 k c3) (gs (S.take k)) x.g [.int .i64 x.g] rfl (by simp [Act.eval]) (HB.out.pure (fun W => rfl)) (by have := HGL.out; omega) ?_; intro v1 w1 hS; rw [← HT.out] at hS; have hv1 := hS.slice; obtain ⟨A4, c4, hv1⟩ := hv1; subst hv1; have HS1 := Aside0.mk hS; clear hS HB))
        go_roundg k1
        case measure => have := HK.out; omega
        case rel => exact ⟨k + 1, _, rfl, by first | rfl | go_num, ⟨by have := HK.out; omega, by have := HIN.out; omega⟩, HS1⟩
      · have d1 : decide ((k : Int) < (S.length : Int)) = false := decide_eq_false (by omega)
        have d1n : decide (k < S.length) = false := decide_eq_false (by omega)
        obtain rfl : k = S.length := by have := HK.out; omega
        clear hin
        go_wp2
        go_ret
        have h1 := HS.out
        rw [List.take_length] at h1
        obtain ⟨-, hc, hV⟩ := h1.freeze
        refine ⟨A3, c3, rfl, by simpa [gs] using hc, u, ?_⟩
        have h3 := St.turn (ts1 := [_, _, _]) (ts2 := [_]) (ts := ts) hV.rot
        have h4 := h3.drop
        simpa [Nums, gs] using h4
end
end Go.Proofs.Ytldkdndgnojepaa.Heap
namespace Go.Proofs.Ytldkdndgnojepaa.PInts13
open Go.RowKit Go.Proofs.YtldkdndgnojepaaW.PrintWords Go.Proofs.YtldkdndgnojepaaW.PrintLast Go.Proofs.YtldkdndgnojepaaW.PrintMore
attribute [local go_sem] max2_int min2_int max_two min_two max_three min_three max_four min_four   -- for this text's walks alone
set_option linter.unusedVariables false
set_option linter.unusedSimpArgs false



def errW : Option Int → Value
  | none => .nilIface
  | some c => .iface 0 (.int .i64 c)
theorem errW_none : errW none = .nilIface := rfl
theorem errW_some (c : Int) : errW (some c) = .iface 0 (.int .i64 c) := rfl

theorem info3 : (Try.prog.info? 3).map (fun i => (i.zero, i.size, i.bytes)) = some (some (.int .i64 0), 1, 8) := by kernel_rfl
theorem info67 : (Try.prog.info? 67).map (fun i => (i.zero, i.size, i.bytes)) = some (some (.agg #[(.int .i64 0), (.int .i64 0)]), 2, 16) := by kernel_rfl
-- the values' own types
/-! #### struct type 67 -/
structure S67 where
  f0 : Int
  f1 : Int
def z67 : S67 := ⟨(0 : Int), (0 : Int)⟩
def k67 : Kd S67 := Kd.iso (Kd.pair (Kd.int .i64) (Kd.int .i64)) (fun x : S67 => (x.f0, x.f1))
theorem k67_open {w : World} {x : S67} {cs : List Value} (h : k67.K w x cs) : cs = [.int .i64 x.f0, .int .i64 x.f1] := by
  obtain ⟨_, _, rfl, rfl, rfl⟩ := h
  exact rfl
theorem k67_openM {w : World} {base : Nat} {ok : Nat → Prop} {x : S67} {cs : List Value} (h : k67.M w base ok x cs) : cs = [.int .i64 x.f0, .int .i64 x.f1] := by
  obtain ⟨_, _, rfl, rfl, rfl⟩ := h
  exact rfl
theorem k67_mk (w : World) (x : S67)  : k67.K w x [.int .i64 x.f0, .int .i64 x.f1] := ⟨[.int .i64 x.f0], [.int .i64 x.f1], rfl, rfl, rfl⟩
theorem k67_mkM (w : World) (base : Nat) (ok : Nat → Prop) (x : S67)  : k67.M w base ok x [.int .i64 x.f0, .int .i64 x.f1] := ⟨[.int .i64 x.f0], [.int .i64 x.f1], rfl, rfl, rfl⟩
def rd_T67 (xs : List S67) (i : Int) : S67 := xs.getD i.toNat z67
theorem at_T67 {w : World} {A : Option Addr} {n : Nat} {xs : List S67} (h : Kd.C k67 w A n xs) (i : Int) (h0 : 0 ≤ i) (h1 : i < n) : ∃ ad , A = some ad ∧ w.cell? (ad.add (i.toNat * 2)) = some (.int .i64 (rd_T67 xs i).f0) ∧ w.cell? ⟨(ad.add (i.toNat * 2)).block, (ad.add (i.toNat * 2)).off + 1, none⟩ = some (.int .i64 (rd_T67 xs i).f1) := by
  obtain ⟨ad, c, e, _, hK, hc0⟩ := Kd.C_get h z67 i h0 h1
  have hc : ∀ j u, c[j]? = some u → w.cell? (ad.add (i.toNat * 2 + j)) = some u := hc0
  obtain rfl := k67_open hK
  exact ⟨ad, e, hc 0 _ rfl, by rw [← add_field _ _ 1 (by omega)]; exact hc 1 _ rfl⟩

end Go.Proofs.Ytldkdndgnojepaa.PInts13
namespace Go.Proofs.Ytldkdndgnojepaa.PInts13
open Go.RowKit Go.Proofs.YtldkdndgnojepaaW.PrintWords Go.Proofs.YtldkdndgnojepaaW.PrintLast Go.Proofs.YtldkdndgnojepaaW.PrintMore
attribute [local go_sem] max2_int min2_int max_two min_two max_three min_three max_four min_four   -- for this text's walks alone
set_option linter.unusedVariables false
set_option linter.unusedSimpArgs false

-- NOT PRINTED: function 11 (clock_Clock_Tick)

/-! ### catafalqueref01_Ints: function 12 -/
def catafalqueref01_Ints.l0 : Nat → List Int → List Int → Int → Option (Bool)
  | 0, _, _, _ => none
  | k + 1, x0, x1, x5 => if x5 < (x0.length : Int) then (if 0 ≤ x5 then (if x5 < (x1.length : Int) then (if (rd x0 x5) = (rd x1 x5) then (catafalqueref01_Ints.l0 k x0 x1 (wrap64 (x5 + 1))) else (some false)) else (none)) else (none)) else (some true)
def catafalqueref01_Ints.f (k : Nat) (l0 : List Int) (l1 : List Int) : Option (Bool) := if (l0.length : Int) = (l1.length : Int) then (catafalqueref01_Ints.l0 k l0 l1 0) else (some false)
theorem catafalqueref01_Ints.mono_l : ∀ k, (∀ y0 y1 y2, LeO (catafalqueref01_Ints.l0 k y0 y1 y2) (catafalqueref01_Ints.l0 (k + 1) y0 y1 y2))
  | 0 => fun _ _ _ r h => by simp [catafalqueref01_Ints.l0] at h
  | k + 1 => by
    have ih0 := catafalqueref01_Ints.mono_l k
    · intro y0 y1 y2
      unfold catafalqueref01_Ints.l0
      repeat' first
      | (with_reducible exact ih0 _ _ _)
      | (with_reducible exact LeO.refl _)
      | (with_reducible exact LeO.none _)
      | (with_reducible refine LeO.ite ?_ ?_)
      | (with_reducible refine LeO.bind ?_ (fun _ => ?_))
      | exact ih0 _ _ _
      | exact LeO.none _
      | refine LeO.ite ?_ ?_
      | refine LeO.bind ?_ (fun _ => ?_)
theorem catafalqueref01_Ints.mono : ∀ a0 a1 k, LeO (catafalqueref01_Ints.f k a0 a1) (catafalqueref01_Ints.f (k + 1) a0 a1) := by
  intro a0 a1 k
  have ih0 := catafalqueref01_Ints.mono_l k
  unfold catafalqueref01_Ints.f
  repeat' first
      | (with_reducible exact ih0 _ _ _)
      | (with_reducible exact LeO.refl _)
      | (with_reducible exact LeO.none _)
      | (with_reducible refine LeO.ite ?_ ?_)
      | (with_reducible refine LeO.bind ?_ (fun _ => ?_))
      | exact ih0 _ _ _
      | exact LeO.none _
      | refine LeO.ite ?_ ?_
      | refine LeO.bind ?_ (fun _ => ?_)
set_option maxHeartbeats 8000000 in
set_option maxRecDepth 100000 in
theorem catafalqueref01_Ints.calls (k : Nat) (A0 : Option Addr) (c0 : Nat) (l0 : List Int) (A1 : Option Addr) (c1 : Nat) (l1 : List Int) (r : Bool) (w : World) (hr0 : Kd.C (Kd.int .i64) w A0 l0.length l0) (hc0 : l0.length ≤ c0) (hr1 : Kd.C (Kd.int .i64) w A1 l1.length l1) (hc1 : l1.length ≤ c1) (h : catafalqueref01_Ints.f k l0 l1 = some r) :
    Calls Try.prog 12 #[.slice A0 l0.length c0, .slice A1 l1.length c1] w fun e w' => e = .returned (.bool r) ∧ Drawn0 w w' := by
  have HR0 := Aside0.mk hr0
  have HC0 := Aside0.mk hc0
  clear hr0 hc0
  have HR1 := Aside0.mk hr1
  have HC1 := Aside0.mk hc1
  clear hr1 hc1
  have H : (if (l0.length : Int) = (l1.length : Int) then (catafalqueref01_Ints.l0 k l0 l1 0) else (some false)) = some r := h
  clear h
  by_cases c3 : (l0.length : Int) = (l1.length : Int)
  · rw [if_pos c3] at H
    have c3b0 : ((l0.length : Int) == (l1.length : Int)) = true := beq_iff_eq.mpr c3
    have c3b1 : ((l0.length : Int) != (l1.length : Int)) = false := bne_eq_false_iff_eq.mpr c3
    have c3b2 : (l0.length == l1.length) = true := by first | simpa using c3 | (simp at c3 ⊢; omega)
    clear c3
    have H' := Aside0.mk H
    clear H
    go_enter Try.func12, Try.ntmps12
    go_wp2
    repeat (go_quiet (fail); try go_wp2)
    go_loopg [5] k (fun kq v5 w' => ∃ (x5_1 : Int), v5 = .int .i64 x5_1 ∧ Aside0 (catafalqueref01_Ints.l0 kq l0 l1 x5_1 = some r) ∧ Aside0 (kq ≤ k) ∧ Drawn0 w w')
    case atStart => exact ⟨(0), (by first | rfl | (simp; done) | (simp [*]; done)), H', ⟨Nat.le_refl _⟩, by repeat (first | exact Drawn0.refl _ | apply Drawn0.step)⟩
    case round =>
      clear H'
      try clear c1
      try clear p2
      try clear c3
      try clear c3b0
      try clear c3b1
      try clear c3b2
      obtain ⟨x5_1, rfl, HA, HK1, ⟨m1, rfl⟩⟩ := hrel
      cases gk with
      | zero => exact absurd HA.out (by simp [catafalqueref01_Ints.l0])
      | succ k1 =>
        have H := HA.out
        clear HA
        simp only [catafalqueref01_Ints.l0] at H
        by_cases c4 : x5_1 < (l0.length : Int)
        · rw [if_pos c4] at H
          have c4b0 : decide (x5_1 < (l0.length : Int)) = true := decide_eq_true c4
          clear c4
          by_cases c5 : 0 ≤ x5_1
          · rw [if_pos c5] at H
            have c5b0 : decide (0 ≤ x5_1) = true := decide_eq_true c5
            clear c5
            by_cases c6 : x5_1 < (l1.length : Int)
            · rw [if_pos c6] at H
              have c6b0 : decide (x5_1 < (l1.length : Int)) = true := decide_eq_true c6
              clear c6
              by_cases c7 : (rd l0 x5_1) = (rd l1 x5_1)
              · rw [if_pos c7] at H
                have c7b0 : ((rd l0 x5_1) == (rd l1 x5_1)) = true := beq_iff_eq.mpr c7
                have c7b1 : ((rd l0 x5_1) != (rd l1 x5_1)) = false := bne_eq_false_iff_eq.mpr c7
                clear c7
                have H' := Aside0.mk H
                clear H
                have p101 : 0 ≤ (x5_1 : Int) := of_decide_eq_true (by first | (with_reducible assumption) | assumption)
                have q101 : x5_1 < (l0.length : Int) := of_decide_eq_true (by first | (with_reducible assumption) | assumption)
                obtain ⟨ad101, e101, hx101_0⟩ := Kd.at_int HR0.out x5_1 p101 q101
                cases e101
                replace p101 := eq_true p101
                replace q101 := eq_true q101
                have p102 : 0 ≤ (x5_1 : Int) := of_decide_eq_true (by first | (with_reducible assumption) | assumption)
                have q102 : x5_1 < (l1.length : Int) := of_decide_eq_true (by first | (with_reducible assumption) | assumption)
                obtain ⟨ad102, e102, hx102_0⟩ := Kd.at_int HR1.out x5_1 p102 q102
                cases e102
                replace p102 := eq_true p102
                replace q102 := eq_true q102
                go_wp2
                repeat (go_quiet (fail); try go_wp2)
                go_roundg k1
                case measure => have := HK1.out; omega
                case rel => exact ⟨(wrap64 (x5_1 + 1)), (by first | rfl | (simp; done) | (simp [*]; done)), H', ⟨by have := HK1.out; omega⟩, by repeat (first | exact Drawn0.refl _ | apply Drawn0.step)⟩
              · rw [if_neg c7] at H
                have c7b0 : ((rd l0 x5_1) == (rd l1 x5_1)) = false := beq_eq_false_iff_ne.mpr c7
                have c7b1 : ((rd l0 x5_1) != (rd l1 x5_1)) = true := bne_iff_ne.mpr c7
                obtain rfl := Option.some.inj H
                have p101 : 0 ≤ (x5_1 : Int) := of_decide_eq_true (by first | (with_reducible assumption) | assumption)
                have q101 : x5_1 < (l0.length : Int) := of_decide_eq_true (by first | (with_reducible assumption) | assumption)
                obtain ⟨ad101, e101, hx101_0⟩ := Kd.at_int HR0.out x5_1 p101 q101
                cases e101
                replace p101 := eq_true p101
                replace q101 := eq_true q101
                have p102 : 0 ≤ (x5_1 : Int) := of_decide_eq_true (by first | (with_reducible assumption) | assumption)
                have q102 : x5_1 < (l1.length : Int) := of_decide_eq_true (by first | (with_reducible assumption) | assumption)
                obtain ⟨ad102, e102, hx102_0⟩ := Kd.at_int HR1.out x5_1 p102 q102
                cases e102
                replace p102 := eq_true p102
                replace q102 := eq_true q102
                go_wp2
                repeat (go_quiet (fail); try go_wp2)
                go_ret
                exact ⟨by first | rfl | (simp; done) | (simp [*]; done), by repeat (first | exact Drawn0.refl _ | apply Drawn0.step)⟩
            · rw [if_neg c6] at H
              exact absurd H (by simp)
          · rw [if_neg c5] at H
            exact absurd H (by simp)
        · rw [if_neg c4] at H
          have c4b0 : decide (x5_1 < (l0.length : Int)) = false := decide_eq_false c4
          clear c4
          obtain rfl := Option.some.inj H
          go_wp2
          repeat (go_quiet (fail); try go_wp2)
          go_ret
          exact ⟨by first | rfl | (simp; done) | (simp [*]; done), by repeat (first | exact Drawn0.refl _ | apply Drawn0.step)⟩
  · rw [if_neg c3] at H
    have c3b0 : ((l0.length : Int) == (l1.length : Int)) = false := beq_eq_false_iff_ne.mpr c3
    have c3b1 : ((l0.length : Int) != (l1.length : Int)) = true := bne_iff_ne.mpr c3
    have c3b2 : (l0.length == l1.length) = false := by first | simpa using c3 | (simp at c3 ⊢; omega)
    obtain rfl := Option.some.inj H
    go_enter Try.func12, Try.ntmps12
    go_wp2
    repeat (go_quiet (fail); try go_wp2)
    go_ret
    exact ⟨by first | rfl | (simp; done) | (simp [*]; done), by repeat (first | exact Drawn0.refl _ | apply Drawn0.step)⟩

-- NOT PRINTED: function 14 (clock_Clock_Now)

-- NOT PRINTED: function 13 (clock_Clock_Asleep)

/-! ### slices_Index_int_int: function 34 -/
def slices_Index_int_int.l0 : Nat → List Int → Int → Int → Int → Option (Int)
  | 0, _, _, _, _ => none
  | k + 1, x0, x1, x7, x8 => if x8 < x7 then (if 0 ≤ x8 then (if x8 < (x0.length : Int) then (if x1 = (rd x0 x8) then (some x8) else (slices_Index_int_int.l0 k x0 x1 x7 (wrap64 (x8 + 1)))) else (none)) else (none)) else (some (-1))
def slices_Index_int_int.f (k : Nat) (l0 : List Int) (a1 : Int) : Option (Int) := slices_Index_int_int.l0 k l0 a1 (l0.length : Int) 0
theorem slices_Index_int_int.mono_l : ∀ k, (∀ y0 y1 y2 y3, LeO (slices_Index_int_int.l0 k y0 y1 y2 y3) (slices_Index_int_int.l0 (k + 1) y0 y1 y2 y3))
  | 0 => fun _ _ _ _ r h => by simp [slices_Index_int_int.l0] at h
  | k + 1 => by
    have ih0 := slices_Index_int_int.mono_l k
    · intro y0 y1 y2 y3
      unfold slices_Index_int_int.l0
      repeat' first
      | (with_reducible exact ih0 _ _ _ _)
      | (with_reducible exact LeO.refl _)
      | (with_reducible exact LeO.none _)
      | (with_reducible refine LeO.ite ?_ ?_)
      | (with_reducible refine LeO.bind ?_ (fun _ => ?_))
      | exact ih0 _ _ _ _
      | exact LeO.none _
      | refine LeO.ite ?_ ?_
      | refine LeO.bind ?_ (fun _ => ?_)
theorem slices_Index_int_int.mono : ∀ a0 a1 k, LeO (slices_Index_int_int.f k a0 a1) (slices_Index_int_int.f (k + 1) a0 a1) := by
  intro a0 a1 k
  have ih0 := slices_Index_int_int.mono_l k
  unfold slices_Index_int_int.f
  repeat' first
      | (with_reducible exact ih0 _ _ _ _)
      | (with_reducible exact LeO.refl _)
      | (with_reducible exact LeO.none _)
      | (with_reducible refine LeO.ite ?_ ?_)
      | (with_reducible refine LeO.bind ?_ (fun _ => ?_))
      | exact ih0 _ _ _ _
      | exact LeO.none _
      | refine LeO.ite ?_ ?_
      | refine LeO.bind ?_ (fun _ => ?_)
set_option maxHeartbeats 8000000 in
set_option maxRecDepth 100000 in
theorem slices_Index_int_int.calls (k : Nat) (A0 : Option Addr) (c0 : Nat) (l0 : List Int) (a1 : Int) (r : Int) (w : World) (hr0 : Kd.C (Kd.int .i64) w A0 l0.length l0) (hc0 : l0.length ≤ c0) (h : slices_Index_int_int.f k l0 a1 = some r) :
    Calls Try.prog 34 #[.slice A0 l0.length c0, .int .i64 a1] w fun e w' => e = .returned (.int .i64 r) ∧ Drawn0 w w' := by
  have HR0 := Aside0.mk hr0
  have HC0 := Aside0.mk hc0
  clear hr0 hc0
  have H : (slices_Index_int_int.l0 k l0 a1 (l0.length : Int) 0) = some r := h
  clear h
  have H' := Aside0.mk H
  clear H
  go_enter Try.func34, Try.ntmps34
  go_wp2
  go_loopg [8] k (fun kq v8 w' => ∃ (x8_1 : Int), v8 = .int .i64 x8_1 ∧ Aside0 (slices_Index_int_int.l0 kq l0 a1 (l0.length : Int) x8_1 = some r) ∧ Aside0 (kq ≤ k) ∧ Drawn0 w w')
  case atStart => exact ⟨(0), (by first | rfl | (simp; done) | (simp [*]; done)), H', ⟨Nat.le_refl _⟩, by repeat (first | exact Drawn0.refl _ | apply Drawn0.step)⟩
  case round =>
    clear H'
    try clear p2
    obtain ⟨x8_1, rfl, HA, HK1, ⟨m1, rfl⟩⟩ := hrel
    cases gk with
    | zero => exact absurd HA.out (by simp [slices_Index_int_int.l0])
    | succ k1 =>
      have H := HA.out
      clear HA
      simp only [slices_Index_int_int.l0] at H
      by_cases c3 : x8_1 < (l0.length : Int)
      · rw [if_pos c3] at H
        have c3b0 : decide (x8_1 < (l0.length : Int)) = true := decide_eq_true c3
        clear c3
        by_cases c4 : 0 ≤ x8_1
        · rw [if_pos c4] at H
          have c4b0 : decide (0 ≤ x8_1) = true := decide_eq_true c4
          clear c4
          by_cases c5 : x8_1 < (l0.length : Int)
          · rw [if_pos c5] at H
            have c5b0 : decide (x8_1 < (l0.length : Int)) = true := decide_eq_true c5
            clear c5
            by_cases c6 : a1 = (rd l0 x8_1)
            · rw [if_pos c6] at H
              have c6b0 : (a1 == (rd l0 x8_1)) = true := beq_iff_eq.mpr c6
              have c6b1 : (a1 != (rd l0 x8_1)) = false := bne_eq_false_iff_eq.mpr c6
              clear c6
              obtain rfl := Option.some.inj H
              have p103 : 0 ≤ (x8_1 : Int) := of_decide_eq_true (by first | (with_reducible assumption) | assumption)
              have q103 : x8_1 < (l0.length : Int) := of_decide_eq_true (by first | (with_reducible assumption) | assumption)
              obtain ⟨ad103, e103, hx103_0⟩ := Kd.at_int HR0.out x8_1 p103 q103
              cases e103
              replace p103 := eq_true p103
              replace q103 := eq_true q103
              go_wp2
              go_ret
              exact ⟨by first | rfl | (simp; done) | (simp [*]; done), by repeat (first | exact Drawn0.refl _ | apply Drawn0.step)⟩
            · rw [if_neg c6] at H
              have c6b0 : (a1 == (rd l0 x8_1)) = false := beq_eq_false_iff_ne.mpr c6
              have c6b1 : (a1 != (rd l0 x8_1)) = true := bne_iff_ne.mpr c6
              have H' := Aside0.mk H
              clear H
              have p103 : 0 ≤ (x8_1 : Int) := of_decide_eq_true (by first | (with_reducible assumption) | assumption)
              have q103 : x8_1 < (l0.length : Int) := of_decide_eq_true (by first | (with_reducible assumption) | assumption)
              obtain ⟨ad103, e103, hx103_0⟩ := Kd.at_int HR0.out x8_1 p103 q103
              cases e103
              replace p103 := eq_true p103
              replace q103 := eq_true q103
              go_wp2
              go_roundg k1
              case measure => have := HK1.out; omega
              case rel => exact ⟨(wrap64 (x8_1 + 1)), (by first | rfl | (simp; done) | (simp [*]; done)), H', ⟨by have := HK1.out; omega⟩, by repeat (first | exact Drawn0.refl _ | apply Drawn0.step)⟩
          · rw [if_neg c5] at H
            exact absurd H (by simp)
        · rw [if_neg c4] at H
          exact absurd H (by simp)
      · rw [if_neg c3] at H
        have c3b0 : decide (x8_1 < (l0.length : Int)) = false := decide_eq_false c3
        clear c3
        obtain rfl := Option.some.inj H
        go_wp2
        go_ret
        exact ⟨by first | rfl | (simp; done) | (simp [*]; done), by repeat (first | exact Drawn0.refl _ | apply Drawn0.step)⟩

/-! ### slices_Contains_int_int: function 25 -/
def slices_Contains_int_int.f (k : Nat) (l0 : List Int) (a1 : Int) : Option (Bool) := (slices_Index_int_int.f k l0 a1).bind fun t104 => (some (decide (t104 ≥ 0)))
theorem slices_Contains_int_int.mono : ∀ a0 a1 k, LeO (slices_Contains_int_int.f k a0 a1) (slices_Contains_int_int.f (k + 1) a0 a1) := by
  intro a0 a1 k
  unfold slices_Contains_int_int.f
  repeat' first
      | (with_reducible exact slices_Index_int_int.mono _ _ _)
      | (with_reducible exact LeO.refl _)
      | (with_reducible exact LeO.none _)
      | (with_reducible refine LeO.ite ?_ ?_)
      | (with_reducible refine LeO.bind ?_ (fun _ => ?_))
      | exact slices_Index_int_int.mono _ _ _
      | exact LeO.none _
      | refine LeO.ite ?_ ?_
      | refine LeO.bind ?_ (fun _ => ?_)
set_option maxHeartbeats 8000000 in
set_option maxRecDepth 100000 in
theorem slices_Contains_int_int.calls (k : Nat) (A0 : Option Addr) (c0 : Nat) (l0 : List Int) (a1 : Int) (r : Bool) (w : World) (hr0 : Kd.C (Kd.int .i64) w A0 l0.length l0) (hc0 : l0.length ≤ c0) (h : slices_Contains_int_int.f k l0 a1 = some r) :
    Calls Try.prog 25 #[.slice A0 l0.length c0, .int .i64 a1] w fun e w' => e = .returned (.bool r) ∧ Drawn0 w w' := by
  have HR0 := Aside0.mk hr0
  have HC0 := Aside0.mk hc0
  clear hr0 hc0
  have H : ((slices_Index_int_int.f k l0 a1).bind fun t104 => (some (decide (t104 ≥ 0)))) = some r := h
  clear h
  replace H := Option.bind_eq_some_iff.mp H
  obtain ⟨t104, A30, H⟩ := H
  replace H : (some (decide (t104 ≥ 0))) = some r := H
  have A3 := Aside0.mk A30
  clear A30
  obtain rfl := Option.some.inj H
  go_enter Try.func25, Try.ntmps25
  go_wp2_with (first | ((with_reducible refine gate_callee (f := 34) rfl ?_); refine goesL_ (some 7) rfl rfl Try.func34 (by kernel_rfl) rfl #[.slice A0 l0.length c0, .int .i64 a1] rfl (by (try simp only [List.map_toArray, List.map_cons, List.map_nil]); first | done | rfl | (simp only [List.length_drop, List.length_take]; rfl)) ?_; (with_reducible refine (slices_Index_int_int.calls k _ _ l0 a1 t104 _ ?side1 ?side2 A3.out).mono ?_); (case side1 => repeat (first | exact HR0.out | (with_reducible refine Kd.C_alloc ?_ _) | (with_reducible refine Kd.C_drewN ?_ _) | (with_reducible refine Kd.C_drew ?_))); (case side2 => exact HC0.out); rintro e w' ⟨rfl, ⟨nd, rfl⟩⟩; refine ⟨_, rfl, ?_⟩))
  go_ret
  exact ⟨by first | rfl | (simp; done) | (simp [*]; done), by repeat (first | exact Drawn0.refl _ | apply Drawn0.step)⟩

-- NOT PRINTED: function 16 (clock_Clock_Sleep)

-- NOT PRINTED: function 9 (catafalquelaw13_shown)

end Go.Proofs.Ytldkdndgnojepaa.PInts13
namespace Go.Proofs.Ytldkdndgnojepaa.Heap
open Go Go.RowKit Go.Shelf Go.Proofs.Ytldkdndgnojepaa.Own Go.Proofs.YtldkdndgnojepaaW.PrintWords Go.Proofs.YtldkdndgnojepaaW.PrintLast Go.Proofs.YtldkdndgnojepaaW.PrintMore
set_option linter.unusedVariables false
set_option linter.unusedSimpArgs false
theorem w64s {i : Nat} (h : i ≤ 1000000) : wrap64 ((i : Int) + 1) = ((i + 1 : Nat) : Int) := by unfold wrap64; omega
theorem rdn {l : List Int} {i : Nat} (h : i < l.length) : rd l (i : Int) = l[i] := by
  unfold rd
  simp [List.getD_eq_getElem?_getD, h]
theorem ints_l0 (l m : List Int) (hl : l.length ≤ 1000000) (he : l.length = m.length) : ∀ (k i : Nat), l.length - i < k → i ≤ l.length → PInts13.catafalqueref01_Ints.l0 k l m (i : Int) = some (decide (l.drop i = m.drop i))
  | 0, i, hk, hi => by omega
  | k + 1, i, hk, hi => by
    simp only [PInts13.catafalqueref01_Ints.l0]
    by_cases h : i < l.length
    · have h2 : i < m.length := by omega
      have e1 : l.drop i = l[i] :: l.drop (i + 1) := List.drop_eq_getElem_cons h
      have e2 : m.drop i = m[i] :: m.drop (i + 1) := List.drop_eq_getElem_cons h2
      rw [if_pos (by omega), if_pos (by omega), if_pos (by omega), rdn h, rdn h2, w64s (by omega), ints_l0 l m hl he k (i + 1) (by omega) (by omega), e1, e2]
      by_cases hc : l[i] = m[i]
      · rw [if_pos hc]
        exact congrArg some (decide_eq_decide.mpr ⟨fun h => by rw [hc, h], fun h => (List.cons.inj h).2⟩)
      · rw [if_neg hc]
        exact congrArg some (decide_eq_false (fun h => hc (List.cons.inj h).1)).symm
    · obtain rfl : i = l.length := by omega
      rw [if_neg (by omega), List.drop_length, he, List.drop_length]
      rfl
theorem index_l0 (l : List Int) (g : Int) (hl : l.length ≤ 1000000) : ∀ (k i : Nat), l.length - i < k → i ≤ l.length → ∃ r, PInts13.slices_Index_int_int.l0 k l g (l.length : Int) (i : Int) = some r ∧ (0 ≤ r ↔ g ∈ l.drop i)
  | 0, i, hk, hi => by omega
  | k + 1, i, hk, hi => by
    simp only [PInts13.slices_Index_int_int.l0]
    by_cases h : i < l.length
    · have e1 : l.drop i = l[i] :: l.drop (i + 1) := List.drop_eq_getElem_cons h
      obtain ⟨r, h1, h2⟩ := index_l0 l g hl k (i + 1) (by omega) (by omega)
      rw [if_pos (by omega), if_pos (by omega), if_pos (by omega), w64s (by omega), h1, rdn h, e1]
      by_cases hc : g = l[i]
      · rw [if_pos hc]
        exact ⟨_, rfl, ⟨fun _ => hc ▸ List.mem_cons_self, fun _ => by omega⟩⟩
      · rw [if_neg hc]
        refine ⟨_, rfl, h2.trans ⟨fun h => List.mem_cons_of_mem _ h, fun h => (List.mem_cons.mp h).resolve_left hc⟩⟩
    · obtain rfl : i = l.length := by omega
      rw [if_neg (by omega), List.drop_length]
      exact ⟨_, rfl, by simp⟩
section
variable {A1 A2 : Option Addr} {c c2 n n2 : Nat} {l m : List Int}
theorem ints_calls (w : World) (h1 : (Kd.int .i64).C w A1 l.length l) (c1 : l.length ≤ c) (h2 : (Kd.int .i64).C w A2 m.length m) (d2 : m.length ≤ c2) (hl : l.length ≤ 1000000) :
    Calls Try.prog 12 #[.slice A1 l.length c, .slice A2 m.length c2] w fun e w' => e = .returned (.bool (decide (l = m))) ∧ Drawn0 w w' := by
  refine PInts13.catafalqueref01_Ints.calls (l.length + 1) A1 c l A2 c2 m _ w h1 c1 h2 d2 ?_
  unfold PInts13.catafalqueref01_Ints.f
  by_cases he : l.length = m.length
  · rw [if_pos (by omega)]
    exact ints_l0 l m hl he (l.length + 1) 0 (by omega) (by omega)
  · rw [if_neg (by omega)]
    exact congrArg some (decide_eq_false (fun h => he (by rw [h]))).symm
theorem contains_calls (w : World) (h1 : (Kd.int .i64).C w A1 l.length l) (c1 : l.length ≤ c) (g : Int) (hl : l.length ≤ 1000000) :
    Calls Try.prog 25 #[.slice A1 l.length c, .int .i64 g] w fun e w' => e = .returned (.bool (decide (g ∈ l))) ∧ Drawn0 w w' := by
  refine PInts13.slices_Contains_int_int.calls (l.length + 1) A1 c l g _ w h1 c1 ?_
  unfold PInts13.slices_Contains_int_int.f PInts13.slices_Index_int_int.f
  obtain ⟨r, h2, h3⟩ := index_l0 l g hl (l.length + 1) 0 (by omega) (by omega)
  have h4 : PInts13.slices_Index_int_int.l0 (l.length + 1) l g (l.length : Int) 0 = some r := h2
  rw [h4]
  exact congrArg some (decide_eq_decide.mpr h3)
end
end Go.Proofs.Ytldkdndgnojepaa.Heap
namespace Go.Proofs.Ytldkdndgnojepaa.Heap
open Go Go.RowKit Go.Shelf Go.Proofs.Ytldkdndgnojepaa.Own Go.Proofs.YtldkdndgnojepaaW.PrintWords Go.Proofs.YtldkdndgnojepaaW.PrintLast Go.Proofs.YtldkdndgnojepaaW.PrintMore
set_option linter.unusedVariables false
set_option linter.unusedSimpArgs false
theorem gs_len (l : List Tm) : (gs l).length = l.length := by simp [gs]
section
variable {w0 w w' : World} {F0 P0 : Nat → Prop} {ts : List Thing} {p : Nat} {H l : List Tm} {now seq : Int}
theorem Ck.first {t : Thing} (h : Ck w0 F0 P0 p H now seq (t :: ts) w) : ∃ u, St w0 F0 P0 (t :: boxT p 43 #[u, .int .i64 now, .int .i64 seq] :: rowT kTm 61 u H :: ts) w := by
  obtain ⟨u, h⟩ := h
  exact ⟨u, h.nth2⟩
theorem Ck.drop1 {t : Thing} (h : Ck w0 F0 P0 p H now seq (t :: ts) w) : Ck w0 F0 P0 p H now seq ts w := by
  obtain ⟨u, h⟩ := h.first
  exact ⟨u, h.drop⟩
theorem Ck.nums {A : Option Addr} {L : List Int} (h : Ck w0 F0 P0 p H now seq (Nums A L :: ts) w) : (Kd.int .i64).C w A L.length L := by
  obtain ⟨u, h⟩ := h.first
  exact h.now
theorem asleep_has (h : Ck w0 F0 P0 p H now seq ts w) (hlen : H.length ≤ 100000) : 
    Calls Try.prog 13 #[.pointer (some ⟨p, 0, none⟩)] w fun e w' => ∃ A c, e = .returned (.slice A H.length c) ∧ H.length ≤ c ∧ (Kd.int .i64).C w' A H.length (gs (sortL H)) ∧ Ck w0 F0 P0 p H now seq ts w' := by
  refine (asleep_calls h hlen).mono ?_
  rintro e w' ⟨A, c, rfl, hc, h'⟩
  refine ⟨A, c, rfl, hc, ?_, h'.drop1⟩
  have h1 := h'.nums
  rwa [gs_len, sortL_len] at h1
theorem contains_n {A : Option Addr} {c n : Nat} {L : List Int} (w : World) (h1 : (Kd.int .i64).C w A n L) (c1 : n ≤ c) (g : Int) (hl : n ≤ 1000000) (b : Bool) (hb : decide (g ∈ L) = b) :
    Calls Try.prog 25 #[.slice A n c, .int .i64 g] w fun e w' => e = .returned (.bool b) ∧ Drawn0 w w' := by
  subst hb
  have hn := Kd.C_len h1
  subst hn
  exact contains_calls w h1 c1 g hl
set_option maxRecDepth 100000 in
set_option maxHeartbeats 4000000 in
theorem sleep_there (h : Ck w0 F0 P0 p H now seq ts w) (hlen : H.length ≤ 100000) (g n : Int) (hg : 0 < g) (hn : 1 ≤ n ∧ n ≤ 1000) (hin : g ∈ gs (sortL H)) :
    Calls Try.prog 16 #[.pointer (some ⟨p, 0, none⟩), .int .i64 g, .int .i64 n] w fun e w' => e = .returned (.int .i64 5) ∧ Ck w0 F0 P0 p H now seq ts w' := by
  have has := asleep_has h hlen
  have b1 : decide (g ≤ 0) = false := decide_eq_false (by omega)
  have b2 : decide (n < 1) = false := decide_eq_false (by omega)
  have b3 : decide (1000 < n) = false := decide_eq_false (by omega)
  have HIN := Aside0.mk (decide_eq_true hin)
  have HL := Aside0.mk hlen
  clear h hin hg hn hlen
  go_enter Try.func16, Try.ntmps16
  go_wp2_with (first | (go_at_call 13; (with_reducible refine has.mono ?_); rintro e w2 ⟨A1, c1, rfl, hc1, hC, hS⟩; have HS2 := Aside0.mk (And.intro hC (And.intro hc1 hS)); clear hC hc1 hS) | (go_at_call 25; (with_reducible refine (contains_n _ HS2.out.1 HS2.out.2.1 g (by have := HL.out; omega) true HIN.out).mono ?_); rintro e w3 ⟨rfl, hd⟩; have HS3 := Aside0.mk (HS2.out.2.2.below hd.below); clear hd HS2))
  go_ret
  exact ⟨rfl, HS3.out⟩
theorem sleep_bad (h : Ck w0 F0 P0 p H now seq ts w) (g n : Int) (hb : g ≤ 0 ∨ n < 1 ∨ 1000 < n) :
    Calls Try.prog 16 #[.pointer (some ⟨p, 0, none⟩), .int .i64 g, .int .i64 n] w fun e w' => e = .returned (.int .i64 1) ∧ w' = w := by
  clear h
  by_cases h1 : g ≤ 0
  · have b1 : decide (g ≤ 0) = true := decide_eq_true h1
    clear h1 hb
    go_enter Try.func16, Try.ntmps16
    go_wp2
    go_ret
    exact ⟨rfl, rfl⟩
  · have b1 : decide (g ≤ 0) = false := decide_eq_false h1
    by_cases h2 : n < 1
    · have b2 : decide (n < 1) = true := decide_eq_true h2
      clear h1 h2 hb
      go_enter Try.func16, Try.ntmps16
      go_wp2
      go_ret
      exact ⟨rfl, rfl⟩
    · have b2 : decide (n < 1) = false := decide_eq_false h2
      have b3 : decide (1000 < n) = true := decide_eq_true (by omega)
      clear h1 h2 hb
      go_enter Try.func16, Try.ntmps16
      go_wp2
      go_ret
      exact ⟨rfl, rfl⟩
theorem sleep_none (g n : Int) (w : World) :
    Calls Try.prog 16 #[.pointer none, .int .i64 g, .int .i64 n] w fun e w' => e = .returned (.int .i64 1) ∧ w' = w := by
  go_enter Try.func16, Try.ntmps16
  go_wp2
  go_ret
  exact ⟨rfl, rfl⟩
set_option maxRecDepth 100000 in
set_option maxHeartbeats 4000000 in
theorem sleep_ok (h : Ck w0 F0 P0 p H now seq ts w) (hlen : H.length ≤ 100000) (g n : Int) (hg : 0 < g) (hn : 1 ≤ n ∧ n ≤ 1000) (hin : g ∉ gs (sortL H)) (hnow : 0 ≤ now ∧ now ≤ 1099511627776) (hseq : 0 ≤ seq ∧ seq ≤ 1000000000) :
    Calls Try.prog 16 #[.pointer (some ⟨p, 0, none⟩), .int .i64 g, .int .i64 n] w fun e w' => e = .returned (.int .i64 0) ∧ Ck w0 F0 P0 p (pushL H ⟨now + n, seq + 1, g⟩) now (seq + 1) ts w' := by
  have has := asleep_has h hlen
  have b1 : decide (g ≤ 0) = false := decide_eq_false (by omega)
  have b2 : decide (n < 1) = false := decide_eq_false (by omega)
  have b3 : decide (1000 < n) = false := decide_eq_false (by omega)
  have HIN := Aside0.mk (decide_eq_false hin)
  have HL := Aside0.mk hlen
  obtain ⟨s0, s1⟩ := hseq
  obtain ⟨m0, m1⟩ := hnow
  obtain ⟨n0, n1⟩ := hn
  have e1 : IntKind.i64.wrap (now + n) = now + n := wrap_id (by omega) (by omega)
  have e2 : wrap64 (now + n) = now + n := by unfold wrap64; omega
  clear h hin hg hlen
  go_enter Try.func16, Try.ntmps16
  go_wp2_with (first | (go_at_call 13; (with_reducible refine has.mono ?_); rintro e w2 ⟨A1, c1, rfl, hc1, hC, hS⟩; have HS2 := Aside0.mk (And.intro hC (And.intro hc1 hS)); clear hC hc1 hS) | (go_at_call 25; (with_reducible refine (contains_n _ HS2.out.1 HS2.out.2.1 g (by have := HL.out; omega) false HIN.out).mono ?_); rintro e w3 ⟨rfl, hd⟩; have hS := HS2.out.2.2.below hd.below; obtain ⟨-, ⟨k1, k2⟩, ⟨k3, k4⟩, k5⟩ := hS.cells; have HS3 := Aside0.mk (hS.setSeq (seq + 1)); clear hd hS HS2))
  obtain ⟨-, ⟨f1, -⟩, ⟨f3, -⟩, -⟩ := HS3.out.cells
  refine start_ (n := 16) (S := fun w' => w'.cell? ⟨p, 1, none⟩ = some (.int .i64 now) ∧ w'.cell? ⟨p, 2, none⟩ = some (.int .i64 (seq + 1))) (ds := [15]) #[false, false, false, false, false, false, false, false, false, false, false, false, false, false, false, false] (by kernel_rfl) rfl rfl ?_ (fun hHeld => ?_)
  · exact ⟨f1, f3⟩
  refine pure_ (i := 0) (N := (some 34)) (v := ?_) (a' := ?_) #[true, false, false, false, false, false, false, false, false, false, false, false, false, false, false, false] rfl rfl (by kernel_rfl) (fun _ _ _ h => h) (Or.inl ⟨by rfl, ?_⟩) ?_ ?_
  rotate_left
  · intro w'; go_simp; with_reducible rfl
  rotate_left
  · simp only [Act.put, List.setIfInBounds_toArray, List.set_cons_zero, List.set_cons_succ]; rfl
  refine pure_ (i := 1) (N := (some 35)) (v := ?_) (a' := ?_) #[true, true, false, false, false, false, false, false, false, false, false, false, false, false, false, false] rfl rfl (by kernel_rfl) (fun _ _ _ h => h) (Or.inl ⟨by rfl, ?_⟩) ?_ ?_
  rotate_left
  · intro w'; go_simp; with_reducible rfl
  rotate_left
  · simp only [Act.put, List.setIfInBounds_toArray, List.set_cons_zero, List.set_cons_succ]; rfl
  refine pure_ (i := 2) (N := (some 36)) (v := ?_) (a' := ?_) #[true, true, true, false, false, false, false, false, false, false, false, false, false, false, false, false] rfl rfl (by kernel_rfl) (fun _ _ _ h => h) (Or.inl ⟨by rfl, ?_⟩) ?_ ?_
  rotate_left
  · intro w'; go_simp; with_reducible rfl
  rotate_left
  · simp only [Act.put, List.setIfInBounds_toArray, List.set_cons_zero, List.set_cons_succ]; rfl
  refine pure_ (i := 3) (N := (some 37)) (v := ?_) (a' := ?_) #[true, true, true, true, false, false, false, false, false, false, false, false, false, false, false, false] rfl rfl (by kernel_rfl) (fun _ _ _ h => h) (Or.inl ⟨by rfl, ?_⟩) ?_ ?_
  rotate_left
  · intro w'; go_simp; with_reducible rfl
  rotate_left
  · simp only [Act.put, List.setIfInBounds_toArray, List.set_cons_zero, List.set_cons_succ]; rfl
  refine pure_ (i := 4) (N := (some 38)) (v := ?_) (a' := ?_) #[true, true, true, true, true, false, false, false, false, false, false, false, false, false, false, false] rfl rfl (by kernel_rfl) (fun _ _ _ h => h) (Or.inl ⟨by rfl, ?_⟩) ?_ ?_
  rotate_left
  · intro w'; go_simp; with_reducible rfl
  rotate_left
  · simp only [Act.put, List.setIfInBounds_toArray, List.set_cons_zero, List.set_cons_succ]; rfl
  refine pure_ (i := 5) (N := (some 39)) (v := ?_) (a' := ?_) #[true, true, true, true, true, true, false, false, false, false, false, false, false, false, false, false] rfl rfl (by kernel_rfl) (fun _ _ _ h => h) (Or.inl ⟨by rfl, ?_⟩) ?_ ?_
  rotate_left
  · intro w'; go_simp; with_reducible rfl
  rotate_left
  · simp only [Act.put, List.setIfInBounds_toArray, List.set_cons_zero, List.set_cons_succ]; rfl
  refine pure_ (i := 7) (N := (some 41)) (v := ?_) (a' := ?_) #[true, true, true, true, true, true, false, true, false, false, false, false, false, false, false, false] rfl rfl (by kernel_rfl) (fun _ _ _ h => h) (Or.inl ⟨by rfl, ?_⟩) ?_ ?_
  rotate_left
  · intro w'; go_simp; with_reducible rfl
  rotate_left
  · simp only [Act.put, List.setIfInBounds_toArray, List.set_cons_zero, List.set_cons_succ]; rfl
  refine pure_ (i := 9) (N := (some 43)) (v := ?_) (a' := ?_) #[true, true, true, true, true, true, false, true, false, true, false, false, false, false, false, false] rfl rfl (by kernel_rfl) (fun _ _ _ h => h) (Or.inl ⟨by rfl, ?_⟩) ?_ ?_
  rotate_left
  · intro w'; go_simp; with_reducible rfl
  rotate_left
  · simp only [Act.put, List.setIfInBounds_toArray, List.set_cons_zero, List.set_cons_succ]; rfl
  refine pure_ (i := 10) (N := (some 44)) (v := ?_) (a' := ?_) #[true, true, true, true, true, true, false, true, false, true, true, false, false, false, false, false] rfl rfl (by kernel_rfl) (fun _ _ _ h => h) (Or.inl ⟨by rfl, ?_⟩) ?_ ?_
  rotate_left
  · intro w'; go_simp; with_reducible rfl
  rotate_left
  · simp only [Act.put, List.setIfInBounds_toArray, List.set_cons_zero, List.set_cons_succ]; rfl
  refine pure_ (i := 11) (N := (some 45)) (v := ?_) (a' := ?_) #[true, true, true, true, true, true, false, true, false, true, true, true, false, false, false, false] rfl rfl (by kernel_rfl) (fun _ _ _ h => h) (Or.inl ⟨by rfl, ?_⟩) ?_ ?_
  rotate_left
  · intro w'; go_simp; with_reducible rfl
  rotate_left
  · simp only [Act.put, List.setIfInBounds_toArray, List.set_cons_zero, List.set_cons_succ]; rfl
  refine pure_ (i := 13) (N := (some 47)) (v := ?_) (a' := ?_) #[true, true, true, true, true, true, false, true, false, true, true, true, false, true, false, false] rfl rfl (by kernel_rfl) (fun _ _ _ h => h) (Or.inl ⟨by rfl, ?_⟩) ?_ ?_
  rotate_left
  · intro w'; go_simp; with_reducible rfl
  rotate_left
  · simp only [Act.put, List.setIfInBounds_toArray, List.set_cons_zero, List.set_cons_succ]; rfl
  refine take_ (i := 6) (N := (some 40)) (v := ?_) (a' := ?_) #[true, true, true, true, true, true, true, true, false, true, true, true, false, true, false, false] rfl rfl (by kernel_rfl) (fun _ _ _ h => h) (Or.inl ⟨by rfl, ?_⟩) hHeld ?_ ?_
  rotate_left
  · (intro w' hw'_; try dsimp only at hw'_); go_split_ands; go_simp; with_reducible rfl
  rotate_left
  · simp only [Act.put, List.setIfInBounds_toArray, List.set_cons_zero, List.set_cons_succ]; rfl
  refine pure_ (i := 8) (N := (some 42)) (v := ?_) (a' := ?_) #[true, true, true, true, true, true, true, true, true, true, true, true, false, true, false, false] rfl rfl (by kernel_rfl) (fun _ _ _ h => h) (Or.inl ⟨by rfl, ?_⟩) ?_ ?_
  rotate_left
  · intro w'; go_simp; with_reducible rfl
  rotate_left
  · simp only [Act.put, List.setIfInBounds_toArray, List.set_cons_zero, List.set_cons_succ]; rfl
  refine take_ (i := 12) (N := (some 46)) (v := ?_) (a' := ?_) #[true, true, true, true, true, true, true, true, true, true, true, true, true, true, false, false] rfl rfl (by kernel_rfl) (fun _ _ _ h => h) (Or.inl ⟨by rfl, ?_⟩) hHeld ?_ ?_
  rotate_left
  · (intro w' hw'_; try dsimp only at hw'_); go_split_ands; go_simp; with_reducible rfl
  rotate_left
  · simp only [Act.put, List.setIfInBounds_toArray, List.set_cons_zero, List.set_cons_succ]; rfl
  refine pure_ (i := 14) (N := (some 48)) (v := ?_) (a' := ?_) #[true, true, true, true, true, true, true, true, true, true, true, true, true, true, true, false] rfl rfl (by kernel_rfl) (fun _ _ _ h => h) (Or.inl ⟨by rfl, ?_⟩) ?_ ?_
  rotate_left
  · intro w'; go_simp; with_reducible rfl
  rotate_left
  · simp only [Act.put, List.setIfInBounds_toArray, List.set_cons_zero, List.set_cons_succ]; rfl
  refine last_ (i := 15) (N := (some 49)) #[true, true, true, true, true, true, true, true, true, true, true, true, true, true, true, true] rfl rfl (by kernel_rfl) (by decide) (fun K hK => ?_)
  refine goes_ Try.func26 (by kernel_rfl) rfl #[.pointer (some ⟨p, 0, none⟩), .agg #[.int .i64 (now + n), .int .i64 (seq + 1), .int .i64 g]] (by rfl) rfl rfl (by simp [Act.eval]) ?_
  with_reducible refine (Ck.push (Ck.below HS3.out (below_drew1 (Below.refl _ _))) HL.out ⟨now + n, seq + 1, g⟩).mono ?_
  rintro e w4 ⟨rfl, hS⟩
  refine ⟨_, rfl, ?_⟩
  have HS4 := Aside0.mk hS
  clear hS HS3 hHeld
  refine hK.out _ _ ?_
  clear hK
  refine norm_ (a' := ?_) ?_ ?_
  rotate_left
  · simp only [Act.put, List.setIfInBounds_toArray, List.set_cons_zero, List.set_cons_succ]; rfl
  refine done_ (by kernel_rfl) ?_
  go_wp2
  go_ret
  exact ⟨rfl, HS4.out⟩
end
end Go.Proofs.Ytldkdndgnojepaa.Heap
namespace Go.Proofs.Ytldkdndgnojepaa.Heap
open Go Go.RowKit Go.Shelf Go.Proofs.Ytldkdndgnojepaa.Own Go.Proofs.YtldkdndgnojepaaW.PrintWords Go.Proofs.YtldkdndgnojepaaW.PrintLast Go.Proofs.YtldkdndgnojepaaW.PrintMore
set_option linter.unusedVariables false
set_option linter.unusedSimpArgs false
/-- Those whose time has come, ahead of those whose hasn't. -/
def due (m : Int) (S : List Tm) : List Tm := S.takeWhile (fun x => decide (x.t ≤ m))
def rest (m : Int) (S : List Tm) : List Tm := S.dropWhile (fun x => decide (x.t ≤ m))
theorem due_at {m : Int} : ∀ {S : List Tm} {j : Nat}, (∀ x ∈ S.take j, x.t ≤ m) → (∀ x, S[j]? = some x → ¬ x.t ≤ m) → due m S = S.take j ∧ rest m S = S.drop j
  | [], j, _, _ => by simp [due, rest]
  | x :: S, 0, _, h2 => by
    have h := h2 x rfl
    simp [due, rest, h]
  | x :: S, j + 1, h1, h2 => by
    have hx := h1 x (by simp)
    have ih := due_at (m := m) (S := S) (j := j) (fun y hy => h1 y (by simp [hy])) (fun y hy => h2 y (by simpa using hy))
    simp only [due, rest] at ih ⊢
    rw [List.takeWhile_cons_of_pos (by simpa using hx), List.dropWhile_cons_of_pos (by simpa using hx), ih.1, ih.2]
    exact ⟨rfl, rfl⟩
section
variable {w0 w w' : World} {F0 P0 : Nat → Prop} {ts : List Thing} {p : Nat} {H l : List Tm} {now seq : Int}
theorem tick_none (n : Int) (w : World) :
    Calls Try.prog 11 #[.pointer none, .int .i64 n] w fun e w' => e = .returned (.tuple #[.slice none 0 0, .int .i64 1]) ∧ w' = w := by
  go_enter Try.func11, Try.ntmps11
  go_wp2
  refine bodyPost_ret (v := .tuple #[.slice none 0 0, .int .i64 1]) (by simp [results, Try.results11, go_sem]; try rfl) rfl ⟨rfl, rfl⟩
theorem tick_bad (p : Nat) (n : Int) (hn : n < 0) (w : World) :
    Calls Try.prog 11 #[.pointer (some ⟨p, 0, none⟩), .int .i64 n] w fun e w' => e = .returned (.tuple #[.slice none 0 0, .int .i64 1]) ∧ w' = w := by
  have b1 : decide (n < 0) = true := decide_eq_true hn
  clear hn
  go_enter Try.func11, Try.ntmps11
  go_wp2
  refine bodyPost_ret (v := .tuple #[.slice none 0 0, .int .i64 1]) (by simp [results, Try.results11, go_sem]; try rfl) rfl ⟨rfl, rfl⟩
theorem tick_over (h : Ck w0 F0 P0 p H now seq ts w) (n : Int) (h0 : 0 ≤ n) (hnow : 0 ≤ now ∧ now ≤ 1099511627776) (hn : 1099511627776 - now < n) :
    Calls Try.prog 11 #[.pointer (some ⟨p, 0, none⟩), .int .i64 n] w fun e w' => e = .returned (.tuple #[.slice none 0 0, .int .i64 7]) ∧ w' = w := by
  obtain ⟨-, ⟨f1, -⟩, -, -⟩ := h.cells
  obtain ⟨m0, m1⟩ := hnow
  have b1 : decide (n < 0) = false := decide_eq_false (by omega)
  have b2 : decide (1099511627776 - now < n) = true := decide_eq_true hn
  clear h
  go_enter Try.func11, Try.ntmps11
  go_wp2
  refine bodyPost_ret (v := .tuple #[.slice none 0 0, .int .i64 7]) (by simp [results, Try.results11, go_sem]; try rfl) rfl ⟨rfl, rfl⟩
theorem sets_to {b T : Nat} {a0 a1 a2 b0 b1 b2 : Value} (h : St w0 F0 P0 (boxT b T #[a0, a1, a2] :: ts) w) : St w0 F0 P0 (boxT b T #[b0, b1, b2] :: ts) (((w.setCell ⟨b, 0, none⟩ b0).setCell ⟨b, 1, none⟩ b1).setCell ⟨b, 2, none⟩ b2) := St_set3 h
/-- In the midst of a tick: out so far, the box of the first one, the clock. -/
def Tk (w0 : World) (F0 P0 : Nat → Prop) (v : Value) (L : List Int) (b : Nat) (x : Tm) (p : Nat) (H : List Tm) (now seq : Int) (ts : List Thing) (w : World) : Prop := Ck w0 F0 P0 p H now seq (rowT (Kd.int .i64) 3 v L :: boxT b 61 #[.int .i64 x.t, .int .i64 x.s, .int .i64 x.g] :: ts) w
variable {v : Value} {L : List Int} {b : Nat} {x : Tm}
theorem Tk.box (h : Tk w0 F0 P0 v L b x p H now seq ts w) : (w.cell? ⟨b, 0, none⟩ = some (.int .i64 x.t) ∧ w.cell? ⟨b, 1, none⟩ = some (.int .i64 x.s) ∧ w.cell? ⟨b, 2, none⟩ = some (.int .i64 x.g)) ∧ (w.frozen? ⟨b, 0, none⟩ = false ∧ w.frozen? ⟨b, 1, none⟩ = false ∧ w.frozen? ⟨b, 2, none⟩ = false) ∧ b < w.heap.size := by
  obtain ⟨u, h⟩ := h
  exact box_cells3 h.drop.drop.drop
theorem Tk.clock (h : Tk w0 F0 P0 v L b x p H now seq ts w) : w.cell? ⟨p, 1, none⟩ = some (.int .i64 now) := h.cells.2.1.1
theorem Tk.newbox (h : Tk w0 F0 P0 v L b x p H now seq ts w) (y : Tm) : Tk w0 F0 P0 v L w.heap.size y p H now seq ts (w.alloc (.cells #[.int .i64 y.t, .int .i64 y.s, .int .i64 y.g] 61)) := by
  obtain ⟨u, h⟩ := h
  have h1 := h.perm (List.Perm.trans (List.Perm.trans ((List.Perm.swap _ _ _).cons _ |>.cons _) ((List.Perm.swap _ _ _).cons _)) (List.Perm.swap _ _ _))
  have h2 := h1.drop.box #[.int .i64 y.t, .int .i64 y.s, .int .i64 y.g] 61
  exact ⟨u, St.turn (ts1 := [_]) (ts2 := [_, _, _]) h2⟩
theorem Tk.setbox (h : Tk w0 F0 P0 v L b x p H now seq ts w) (y : Tm) : Tk w0 F0 P0 v L b y p H now seq ts (((w.setCell ⟨b, 0, none⟩ (.int .i64 y.t)).setCell ⟨b, 1, none⟩ (.int .i64 y.s)).setCell ⟨b, 2, none⟩ (.int .i64 y.g)) := by
  obtain ⟨u, h⟩ := h
  have h1 := h.perm (List.Perm.trans (List.Perm.trans ((List.Perm.swap _ _ _).cons _ |>.cons _) ((List.Perm.swap _ _ _).cons _)) (List.Perm.swap _ _ _))
  have h2 := St_set3 (b0 := .int .i64 y.t) (b1 := .int .i64 y.s) (b2 := .int .i64 y.g) h1
  exact ⟨u, St.turn (ts1 := [_]) (ts2 := [_, _, _]) h2⟩
theorem Tk.row (h : Tk w0 F0 P0 v L b x p H now seq ts w) : ∃ u, St w0 F0 P0 (rowT (Kd.int .i64) 3 v L :: boxT p 43 #[u, .int .i64 now, .int .i64 seq] :: rowT kTm 61 u H :: boxT b 61 #[.int .i64 x.t, .int .i64 x.s, .int .i64 x.g] :: ts) w := by
  obtain ⟨u, h⟩ := h
  exact ⟨u, h.nth2⟩
theorem Tk.of_row {u : Value} (h : St w0 F0 P0 (rowT (Kd.int .i64) 3 v L :: boxT p 43 #[u, .int .i64 now, .int .i64 seq] :: rowT kTm 61 u H :: boxT b 61 #[.int .i64 x.t, .int .i64 x.s, .int .i64 x.g] :: ts) w) : Tk w0 F0 P0 v L b x p H now seq ts w := ⟨u, h.rot⟩
theorem Tk.start (h : Ck w0 F0 P0 p H now seq ts w) (y : Tm) : Tk w0 F0 P0 (.slice none 0 0) [] w.heap.size y p H now seq ts (w.alloc (.cells #[.int .i64 y.t, .int .i64 y.s, .int .i64 y.g] 61)) := by
  obtain ⟨u, h⟩ := h
  have h2 := (h.box #[.int .i64 y.t, .int .i64 y.s, .int .i64 y.g] 61).nil (Kd.int .i64) 3
  exact ⟨u, St.turn (ts1 := [_, _]) (ts2 := [_, _]) h2⟩
theorem Tk.finish (h : Tk w0 F0 P0 v L b x p H now seq ts w) : ∃ A c, v = .slice A L.length c ∧ L.length ≤ c ∧ Ck w0 F0 P0 p H now seq (Nums A L :: ts) w := by
  obtain ⟨u, h⟩ := h.row
  obtain ⟨A, c, rfl⟩ := h.slice
  obtain ⟨-, hc, hV⟩ := h.freeze
  have h3 := (St.turn (ts1 := [_, _, _]) (ts2 := [_]) (ts := ts) hV.rot).drop
  exact ⟨A, c, rfl, hc, u, h3⟩
end
end Go.Proofs.Ytldkdndgnojepaa.Heap
namespace Go.Proofs.Ytldkdndgnojepaa.Heap
open Go Go.RowKit Go.Shelf Go.Proofs.Ytldkdndgnojepaa.Own Go.Proofs.YtldkdndgnojepaaW.PrintWords Go.Proofs.YtldkdndgnojepaaW.PrintLast Go.Proofs.YtldkdndgnojepaaW.PrintMore
set_option linter.unusedVariables false
set_option linter.unusedSimpArgs false
section
variable {w0 w w' : World} {F0 P0 : Nat → Prop} {ts : List Thing} {p : Nat} {H l : List Tm} {now seq : Int} {v : Value} {L : List Int} {b : Nat} {x : Tm}
theorem Ck.first_any (h : Ck w0 F0 P0 p H now seq ts w) (hlen : H.length ≤ 100000) :
    Calls Try.prog 22 #[.pointer (some ⟨p, 0, none⟩)] w fun e w' => ∃ (y : Tm) (ok : Bool), e = .returned (.tuple #[.agg #[.int .i64 y.t, .int .i64 y.s, .int .i64 y.g], .bool ok]) ∧ Ck w0 F0 P0 p H now seq ts w' ∧ ((ok = true ∧ ∃ l, H = y :: l) ∨ (ok = false ∧ H = [])) := by
  cases H with
  | nil =>
    refine (Ck.first_nil h).mono ?_
    rintro e w' ⟨rfl, h'⟩
    exact ⟨zeroTm, false, rfl, h', .inr ⟨rfl, rfl⟩⟩
  | cons y l =>
    refine (Ck.first_cons h (by simp at hlen; omega)).mono ?_
    rintro e w' ⟨rfl, h'⟩
    exact ⟨y, true, rfl, h', .inl ⟨rfl, l, rfl⟩⟩
theorem Tk.first_any (h : Tk w0 F0 P0 v L b x p H now seq ts w) (hlen : H.length ≤ 100000) :
    Calls Try.prog 22 #[.pointer (some ⟨p, 0, none⟩)] w fun e w' => ∃ (y : Tm) (ok : Bool), e = .returned (.tuple #[.agg #[.int .i64 y.t, .int .i64 y.s, .int .i64 y.g], .bool ok]) ∧ Tk w0 F0 P0 v L b x p H now seq ts w' ∧ ((ok = true ∧ ∃ l, H = y :: l) ∨ (ok = false ∧ H = [])) := Ck.first_any h hlen
theorem Tk.pop {y : Tm} (h : Tk w0 F0 P0 v L b x p (y :: l) now seq ts w) (hlen : l.length ≤ 100000) :
    Calls Try.prog 23 #[.pointer (some ⟨p, 0, none⟩)] w fun e w' => e = .returned (.tuple #[.agg #[.int .i64 y.t, .int .i64 y.s, .int .i64 y.g], .bool true]) ∧ Tk w0 F0 P0 v L b x p (popL (y :: l)) now seq ts w' := Ck.pop_cons h hlen
theorem Tk.below (h : Tk w0 F0 P0 v L b x p H now seq ts w) (hb : Below w.heap.size w w') : Tk w0 F0 P0 v L b x p H now seq ts w' := Ck.below h hb
/-- Where a tick stands. -/
structure Upto (S : List Tm) (m : Int) (j : Nat) (Hj : List Tm) (x : Tm) (ok : Bool) : Prop where
  le : j ≤ S.length
  heap : isHeap Hj
  srt : sortL Hj = S.drop j
  done : ∀ y ∈ S.take j, y.t ≤ m
  top : (ok = true ∧ ∃ l, Hj = x :: l) ∨ (ok = false ∧ Hj = [])
theorem Upto.stop {S : List Tm} {m : Int} {j : Nat} {Hj : List Tm} {x : Tm} {ok : Bool} (h : Upto S m j Hj x ok) (hs : ok = true → ¬ x.t ≤ m) : due m S = S.take j ∧ rest m S = S.drop j := by
  refine due_at h.done (fun y hy => ?_)
  have hd : (S.drop j)[0]? = some y := by rw [List.getElem?_drop, Nat.add_zero]; exact hy
  rw [← h.srt] at hd
  rcases h.top with ⟨h1, l, rfl⟩ | ⟨h1, rfl⟩
  · rw [sortL_pop h.heap] at hd
    simp at hd
    subst hd
    exact hs h1
  · have : sortL [] = [] := List.length_eq_zero_iff.mp (sortL_len [])
    rw [this] at hd
    simp at hd
theorem Upto.next {S : List Tm} {m : Int} {j : Nat} {l : List Tm} {x y : Tm} {ok : Bool} (h : Upto S m j (x :: l) x true) (hx : x.t ≤ m) (ht : (ok = true ∧ ∃ k, popL (x :: l) = y :: k) ∨ (ok = false ∧ popL (x :: l) = [])) : Upto S m (j + 1) (popL (x :: l)) y ok ∧ gs (S.take (j + 1)) = gs (S.take j) ++ [x.g] ∧ j < S.length := by
  have h1 := h.srt
  rw [sortL_pop h.heap] at h1
  have hj : j < S.length := by
    refine Nat.lt_of_not_le fun hle => ?_
    rw [List.drop_of_length_le hle] at h1
    cases h1
  rw [List.drop_eq_getElem_cons hj] at h1
  obtain ⟨h2, h3⟩ := List.cons.inj h1
  refine ⟨⟨hj, pop_heap h.heap, h3, fun z hz => ?_, ht⟩, ?_, hj⟩
  · rw [List.take_succ_eq_append_getElem hj] at hz
    rcases List.mem_append.mp hz with hz | hz
    · exact h.done z hz
    · simp at hz; subst hz; rw [← h2]; exact hx
  · rw [List.take_succ_eq_append_getElem hj, ← h2]
    simp [gs]
set_option maxRecDepth 100000 in
set_option maxHeartbeats 4000000 in
theorem tick_ok (h : Ck w0 F0 P0 p H now seq ts w) (hlen : H.length ≤ 100000) (hh : isHeap H) (n : Int) (h0 : 0 ≤ n) (hnow : 0 ≤ now ∧ now ≤ 1099511627776) (hn : n ≤ 1099511627776 - now) :
    Calls Try.prog 11 #[.pointer (some ⟨p, 0, none⟩), .int .i64 n] w fun e w' => ∃ (A : Option Addr) (c : Nat) (H' : List Tm), e = .returned (.tuple #[.slice A (due (now + n) (sortL H)).length c, .int .i64 0]) ∧ (due (now + n) (sortL H)).length ≤ c ∧ isHeap H' ∧ sortL H' = rest (now + n) (sortL H) ∧ Ck w0 F0 P0 p H' (now + n) seq (Nums A (gs (due (now + n) (sortL H))) :: ts) w' := by
  obtain ⟨-, ⟨f1, f2⟩, -, f5⟩ := h.cells
  obtain ⟨m0, m1⟩ := hnow
  have b1 : decide (n < 0) = false := decide_eq_false (by omega)
  have b2 : decide (1099511627776 - now < n) = false := decide_eq_false (by omega)
  obtain ⟨m, hm⟩ : ∃ m, now + n = m := ⟨_, rfl⟩
  have hmb : 0 ≤ m ∧ m ≤ 1099511627776 := by omega
  have e1 : wrap64 (now + n) = m := by rw [← hm]; unfold wrap64; omega
  have HS := Aside0.mk (h.setNow m)
  obtain ⟨S, hS⟩ : ∃ S, sortL H = S := ⟨_, rfl⟩
  have HSL := Aside0.mk (show S.length = H.length by rw [← hS, sortL_len])
  have HU0 := Aside0.mk (fun (y : Tm) (ok : Bool) (ht : (ok = true ∧ ∃ l, H = y :: l) ∨ (ok = false ∧ H = [])) => show Upto S m 0 H y ok from ⟨Nat.zero_le _, hh, by rw [hS]; rfl, fun z hz => by simp at hz, ht⟩)
  have HL := Aside0.mk hlen
  rw [hm, hS]
  clear h hS hlen hh
  go_enter Try.func11, Try.ntmps11
  go_wp2_with (go_at_call 22; go_loud ((with_reducible refine (Ck.first_any HS.out HL.out).mono ?_); rintro e w2 ⟨y, ok, rfl, hS, ht⟩; have HS2 := Aside0.mk (Tk.start hS y); have HU := Aside0.mk (HU0.out y ok ht); clear hS HS ht HU0))
  go_loopg [6, 7, 8] (S.length + 1) (fun kq v6 v7 v8 w' => ∃ (j : Nat) (Hj : List Tm) (x : Tm) (ok : Bool) (b : Nat) (A : Option Addr) (c : Nat), v6 = .slice A j c ∧ v7 = .pointer (some ⟨b, 0, none⟩) ∧ v8 = .bool ok ∧ Aside0 (j + kq = S.length + 1 ∧ j ≤ S.length) ∧ Aside0 (Upto S m j Hj x ok) ∧ Aside0 (Tk w0 F0 P0 (.slice A j c) (gs (S.take j)) b x p Hj m seq ts w'))
  case atStart => exact ⟨0, H, y, ok, _, none, 0, rfl, rfl, rfl, ⟨by omega, Nat.zero_le _⟩, HU, HS2⟩
  case round =>
    clear HS2 HU
    obtain ⟨j, Hj, x, ok, b, A3, c3, rfl, rfl, rfl, HK, HU, HS⟩ := hrel
    cases gk with
    | zero => exact absurd HK.out (by omega)
    | succ k1 =>
      have HHL := Aside0.mk (show Hj.length ≤ 100000 by
        have h1 := congrArg List.length HU.out.srt
        rw [sortL_len, List.length_drop] at h1
        have := HSL.out; have := HL.out; omega)
      obtain ⟨⟨k0, k1', k2⟩, ⟨g0, g1, g2⟩, hbl⟩ := HS.out.box
      have kc := HS.out.clock
      have HGL := Aside0.mk (show (gs (S.take j)).length = j by simp only [gs, List.length_map, List.length_take]; have := HK.out.2; omega)
      cases ok with
      | false =>
        have HF := Aside0.mk (HU.out.stop (fun h => by cases h))
        clear k0 k1' k2 g0 g1 g2 hbl kc
        go_wp2
        go_quiet (fail)
        go_wp2
        refine bodyPost_ret (v := .tuple #[.slice A3 j c3, .int .i64 0]) (by simp [results, Try.results11, go_sem]; try rfl) rfl ?_
        have hj : (S.take j).length = j := by rw [List.length_take]; have := HK.out.2; omega
        obtain ⟨A5, c5, e5, h5, h6⟩ := (HS.out.below (pw_below_drewN (Below.refl _ _) nq)).finish
        have hgl : (gs (S.take j)).length = j := by simp only [gs, List.length_map]; exact hj
        rw [hgl] at e5 h5
        injection e5 with e7 _ e8
        subst e7; subst e8
        rw [HF.out.1, HF.out.2, hj]
        exact ⟨A3, c3, Hj, rfl, h5, HU.out.heap, HU.out.srt, h6⟩
      | true =>
        obtain ⟨l', hl'⟩ : ∃ l', Hj = x :: l' := by
          rcases HU.out.top with ⟨-, h⟩ | ⟨h, -⟩
          · exact h
          · cases h
        subst hl'
        by_cases hx : x.t ≤ m
        · have c1 : decide (x.t ≤ m) = true := decide_eq_true hx
          have HX := Aside0.mk (fun (y : Tm) (ok : Bool) (ht : (ok = true ∧ ∃ k, popL (x :: l') = y :: k) ∨ (ok = false ∧ popL (x :: l') = [])) => (HU.out.next hx ht).1)
          have HJ := Aside0.mk (show gs (S.take (j + 1)) = gs (S.take j) ++ [x.g] ∧ j < S.length from by
            cases hp : popL (x :: l') with
            | nil => exact (HU.out.next (ok := false) (y := x) hx (.inr ⟨rfl, hp⟩)).2
            | cons y k => exact (HU.out.next (ok := true) (y := y) hx (.inl ⟨rfl, k, hp⟩)).2)
          have HPL := Aside0.mk (show (popL (x :: l')).length ≤ 100000 by
            have h1 := (pop_perm x l').length_eq
            have := HHL.out
            simp at this
            omega)
          clear hx
          go_wp2
          go_quiet (fail)
          go_wp2_with (first | (go_at_call 23; (with_reducible refine (Tk.pop (HS.out.below (pw_below_drewN (Below.refl _ _) _)) (by have := HHL.out; simp at this; omega)).mono ?_); rintro e w1 ⟨rfl, hS⟩; have HS1 := Aside0.mk hS; obtain ⟨⟨q0, q1, q2⟩, ⟨fq0, fq1, fq2⟩, hbl1⟩ := hS.box; have hrow := hS.row; obtain ⟨u1, hrow⟩ := hrow; have HR1 := Aside0.mk hrow; clear hS hrow HS k0 k1' k2 g0 g1 g2 hbl kc) | (at_builtin; go_loud (refine St.append (Kd.int .i64) rfl (.tmp 60) (.tmp 63) 26 3 (.int .i64 0) 8 rfl Try.underlying26 infoI rfl (by decide) (by decide) (.slice A3 j c3) (gs (S.take j)) x.g [.int .i64 x.g] rfl (by simp [Act.eval]) (HR1.out.pure (fun W => rfl)) (by have := HGL.out; have := HK.out; have := HSL.out; have := HL.out; omega) ?_; intro v1 w2 hS; rw [← HJ.out.1] at hS; have hv1 := hS.slice; obtain ⟨A4, c4, hv1⟩ := hv1; have hg4 : (gs (S.take (j + 1))).length = j + 1 := (by simp only [gs, List.length_map, List.length_take]; have := HJ.out.2; omega); rw [hg4] at hv1; subst hv1; have HS2 := Aside0.mk (Tk.of_row hS); obtain ⟨⟨r0, r1, r2⟩, ⟨fr0, fr1, fr2⟩, hbl2⟩ := HS2.out.box; clear hg4 hS HS1 HR1 q0 q1 q2 fq0 fq1 fq2 hbl1)) | (go_at_call 22; go_loud ((with_reducible refine (Tk.first_any (Tk.newbox HS2.out x) HPL.out).mono ?_); rintro e w3 ⟨y, ok', rfl, hS, ht⟩; obtain ⟨⟨s0, s1, s2⟩, ⟨fs0, fs1, fs2⟩, hbl3⟩ := hS.box; have HS3 := Aside0.mk (hS.setbox y); have HU3 := Aside0.mk (HX.out y ok' ht); clear hS ht HS2 HX r0 r1 r2 fr0 fr1 fr2)))
          go_roundg k1
          case measure => have := HK.out; omega
          case rel => exact ⟨j + 1, popL (x :: l'), y, ok', _, A4, c4, rfl, rfl, rfl, ⟨by have := HK.out; omega, by have := HJ.out.2; omega⟩, HU3, HS3⟩
        · have c1 : decide (x.t ≤ m) = false := decide_eq_false hx
          have HF := Aside0.mk (HU.out.stop (fun _ => hx))
          clear hx g0 g1 g2 hbl
          go_wp2
          go_quiet (fail)
          go_wp2
          refine bodyPost_ret (v := .tuple #[.slice A3 j c3, .int .i64 0]) (by simp [results, Try.results11, go_sem]; try rfl) rfl ?_
          have hj : (S.take j).length = j := by rw [List.length_take]; have := HK.out.2; omega
          obtain ⟨A5, c5, e5, h5, h6⟩ := (HS.out.below (pw_below_drewN (Below.refl _ _) nq)).finish
          have hgl : (gs (S.take j)).length = j := by simp only [gs, List.length_map]; exact hj
          rw [hgl] at e5 h5
          injection e5 with e7 _ e8
          subst e7; subst e8
          rw [HF.out.1, HF.out.2, hj]
          exact ⟨A3, c3, x :: l', rfl, h5, HU.out.heap, HU.out.srt, h6⟩
end
end Go.Proofs.Ytldkdndgnojepaa.Heap
namespace Go.Proofs.Ytldkdndgnojepaa.Own
open Go Go.RowKit Go.Proofs.YtldkdndgnojepaaW.PrintWords Go.Proofs.YtldkdndgnojepaaW.PrintLast Go.Proofs.YtldkdndgnojepaaW.PrintMore
set_option linter.unusedVariables false
/-- Things that are one thing: for some i of ι, those of f i. -/
def packT {ι : Type} (f : ι → List Thing) : Thing where
  holds w F P := ∃ i, SepF (f i) w F P
  lt := fun ⟨i, h⟩ => h.lt
  mono := fun ⟨i, h⟩ hP => ⟨i, h.mono hP⟩
  kept := fun ⟨i, h⟩ hk hs => ⟨i, h.kept hs hk⟩
section
variable {w0 w w' : World} {F0 P0 : Nat → Prop} {t u : Thing} {ts ts1 ts2 : List Thing} {ι : Type} {f : ι → List Thing}
theorem St.pack (i : ι) (h : St w0 F0 P0 (f i ++ ts) w) : St w0 F0 P0 (packT f :: ts) w := by
  obtain ⟨F, hF, hm⟩ := h
  obtain ⟨F1, F2, h1, h2, h3, h4⟩ := hF.split
  exact ⟨⟨F, ⟨F1, F2, h1, ⟨i, h2⟩, h3, h4⟩, hm⟩⟩
theorem St.unpack (h : St w0 F0 P0 (packT f :: ts) w) : ∃ i, St w0 F0 P0 (f i ++ ts) w := by
  obtain ⟨F, ⟨F1, F2, h1, ⟨i, h2⟩, h3, h4⟩, hm⟩ := h
  refine ⟨i, ⟨⟨F, ?_, hm⟩⟩⟩
  have := SepF.join h2 h4 h3
  have e : F = fun k => F1 k ∨ F2 k := funext fun k => propext (h1 k)
  rw [e]; rw [e] at this; exact this
theorem packT_mono {ι' : Type} {f' : ι' → List Thing} (hi : ∀ i, ∃ i', f' i' = f i) (h : St w0 F0 P0 (packT f :: ts) w) : St w0 F0 P0 (packT f' :: ts) w := by
  obtain ⟨i, h⟩ := h.unpack
  obtain ⟨i', e⟩ := hi i
  exact St.pack i' (by rw [e]; exact h)
/-- The thing behind ts1 comes to the front. -/
theorem St.pick (h : St w0 F0 P0 (ts1 ++ t :: ts2) w) : St w0 F0 P0 (t :: (ts1 ++ ts2)) w := h.perm List.perm_middle
theorem St.unpick (h : St w0 F0 P0 (t :: (ts1 ++ ts2)) w) : St w0 F0 P0 (ts1 ++ t :: ts2) w := h.perm List.perm_middle.symm
/-- A call that needs the first things alone. -/
theorem St.frame {P : Program} {n : Nat} {args : Array Value} {R : Ending → List Thing → World → Prop} (h : St w0 F0 P0 (ts1 ++ ts) w) (hc : ∀ F1 P1, St w F1 P1 ts1 w → Calls P n args w fun e w' => ∃ T, R e T w' ∧ St w F1 P1 T w') : Calls P n args w fun e w' => ∃ T, R e T w' ∧ St w0 F0 P0 (T ++ ts) w' := by
  obtain ⟨F1, P1, h1, hk⟩ := h.part
  refine (hc F1 P1 h1).mono ?_
  rintro e w' ⟨T, hR, hS⟩
  exact ⟨T, hR, hk w' _ hS⟩
end
end Go.Proofs.Ytldkdndgnojepaa.Own
namespace Go.Proofs.Ytldkdndgnojepaa.Heap
open Go Go.RowKit Go.Shelf Go.Proofs.Ytldkdndgnojepaa.Own Go.Proofs.YtldkdndgnojepaaW.PrintWords Go.Proofs.YtldkdndgnojepaaW.PrintLast Go.Proofs.YtldkdndgnojepaaW.PrintMore
set_option linter.unusedVariables false
set_option linter.unusedSimpArgs false
def insL (x : Tm) : List Tm → List Tm
  | [] => [x]
  | y :: l => if cmpT x y < 0 then x :: y :: l else y :: insL x l
theorem insL_perm (x : Tm) : ∀ l, (insL x l).Perm (x :: l)
  | [] => .refl _
  | y :: l => by
    unfold insL
    split
    · exact .refl _
    · exact ((insL_perm x l).cons y).trans (.swap x y l)
theorem insL_srt (x : Tm) : ∀ l, Srt l → Srt (insL x l)
  | [], _ => List.pairwise_singleton _ _
  | y :: l, h => by
    obtain ⟨h1, h2⟩ := List.pairwise_cons.mp h
    unfold insL
    split
    · rename_i hc
      have hxy : le x y := by unfold le; omega
      refine List.pairwise_cons.mpr ⟨fun z hz => ?_, h⟩
      rcases List.mem_cons.mp hz with rfl | hz
      · exact hxy
      · exact le_trans hxy (h1 z hz)
    · rename_i hc
      have hyx : le y x := by unfold le; have := cmp_neg x y; omega
      refine List.pairwise_cons.mpr ⟨fun z hz => ?_, insL_srt x l h2⟩
      rcases List.mem_cons.mp ((insL_perm x l).mem_iff.mp hz) with rfl | hz
      · exact hyx
      · exact h1 z hz
theorem insL_sort {x : Tm} {l m : List Tm} (h : m.Perm (x :: l)) : insL x (sortL l) = sortL m :=
  (sortL_eq (insL_srt x _ (sortL_srt l)) ((insL_perm x _).trans (((sortL_perm l).cons x).trans h.symm))).symm
theorem dropG_sort {g : Int} {l m : List Tm} (h : m.Perm (dropG g l)) : dropG g (sortL l) = sortL m :=
  (sortL_eq ((sortL_srt l).filter _) ((dropG_perm (sortL_perm l)).trans h.symm)).symm
theorem insL_len (x : Tm) (l : List Tm) : (insL x l).length = l.length + 1 := by rw [(insL_perm x l).length_eq]; rfl
/-- A clock on which those of S sleep, in order. -/
def ckT (p : Nat) (S : List Tm) (now seq : Int) : Thing := packT (fun i : { i : List Tm × Value // isHeap i.1 ∧ sortL i.1 = S } => [boxT p 43 #[i.1.2, .int .i64 now, .int .i64 seq], rowT kTm 61 i.1.2 i.1.1])
section
variable {w0 w w' : World} {F0 P0 : Nat → Prop} {ts : List Thing} {p : Nat} {H S : List Tm} {now seq : Int}
theorem Ck.fold (h : Ck w0 F0 P0 p H now seq ts w) (hh : isHeap H) (hs : sortL H = S) : St w0 F0 P0 (ckT p S now seq :: ts) w := by
  obtain ⟨v, h⟩ := h
  exact St.pack (f := fun i : { i : List Tm × Value // isHeap i.1 ∧ sortL i.1 = S } => [boxT p 43 #[i.1.2, .int .i64 now, .int .i64 seq], rowT kTm 61 i.1.2 i.1.1]) ⟨(H, v), hh, hs⟩ h
theorem Ck.open (h : St w0 F0 P0 (ckT p S now seq :: ts) w) : ∃ H, isHeap H ∧ sortL H = S ∧ H.length = S.length ∧ Ck w0 F0 P0 p H now seq ts w := by
  obtain ⟨⟨⟨H, v⟩, hh, hs⟩, h⟩ := St.unpack h
  exact ⟨H, hh, hs, by rw [← hs, sortL_len], v, h⟩
theorem ck_new (h : St w0 F0 P0 ts w) : St w0 F0 P0 (ckT w.heap.size [] 0 0 :: ts) (w.alloc (.cells #[.slice none 0 0, .int .i64 0, .int .i64 0] 43)) :=
  (Ck.new h).fold heap_nil (List.length_eq_zero_iff.mp (sortL_len []))
def sleepC (S : List Tm) (g n : Int) : Int := if g ≤ 0 ∨ n < 1 ∨ 1000 < n then 1 else if g ∈ gs S then 5 else 0
def sleepS (S : List Tm) (now seq g n : Int) : List Tm := if sleepC S g n = 0 then insL ⟨now + n, seq + 1, g⟩ S else S
def sleepQ (S : List Tm) (seq g n : Int) : Int := if sleepC S g n = 0 then seq + 1 else seq
theorem ck_sleep (h : St w0 F0 P0 (ckT p S now seq :: ts) w) (hlen : S.length ≤ 100000) (g n : Int) (hnow : 0 ≤ now ∧ now ≤ 1099511627776) (hseq : 0 ≤ seq ∧ seq ≤ 1000000000) :
    Calls Try.prog 16 #[.pointer (some ⟨p, 0, none⟩), .int .i64 g, .int .i64 n] w fun e w' => e = .returned (.int .i64 (sleepC S g n)) ∧ St w0 F0 P0 (ckT p (sleepS S now seq g n) now (sleepQ S seq g n) :: ts) w' := by
  obtain ⟨H, hh, hs, hl, hC⟩ := Ck.open h
  unfold sleepS sleepQ sleepC
  by_cases hb : g ≤ 0 ∨ n < 1 ∨ 1000 < n
  · refine (sleep_bad hC g n hb).mono ?_
    rintro e w' ⟨rfl, rfl⟩
    rw [if_pos hb, if_neg (by decide), if_neg (by decide)]
    exact ⟨rfl, h⟩
  · by_cases hin : g ∈ gs S
    · refine (sleep_there hC (by omega) g n (by omega) (by omega) (by rw [hs]; exact hin)).mono ?_
      rintro e w' ⟨rfl, h'⟩
      rw [if_neg hb, if_pos hin, if_neg (by decide), if_neg (by decide)]
      exact ⟨rfl, h'.fold hh hs⟩
    · refine (sleep_ok hC (by omega) g n (by omega) (by omega) (by rw [hs]; exact hin) hnow hseq).mono ?_
      rintro e w' ⟨rfl, h'⟩
      rw [if_neg hb, if_neg hin, if_pos rfl, if_pos rfl]
      refine ⟨rfl, h'.fold (push_heap hh _) ?_⟩
      rw [← hs]
      exact (insL_sort (push_perm H _)).symm
def tickC (now n : Int) : Int := if n < 0 then 1 else if 1099511627776 - now < n then 7 else 0
def tickW (S : List Tm) (now n : Int) : List Int := if tickC now n = 0 then gs (due (now + n) S) else []
def tickS (S : List Tm) (now n : Int) : List Tm := if tickC now n = 0 then rest (now + n) S else S
def tickN (now n : Int) : Int := if tickC now n = 0 then now + n else now
theorem nums_nil (h : St w0 F0 P0 ts w) : St w0 F0 P0 (Nums none [] :: ts) w := h.pure (fun W => Kd.C_nil _ W)
theorem ck_tick (h : St w0 F0 P0 (ckT p S now seq :: ts) w) (hlen : S.length ≤ 100000) (n : Int) (hnow : 0 ≤ now ∧ now ≤ 1099511627776) :
    Calls Try.prog 11 #[.pointer (some ⟨p, 0, none⟩), .int .i64 n] w fun e w' => ∃ A c, e = .returned (.tuple #[.slice A (tickW S now n).length c, .int .i64 (tickC now n)]) ∧ (tickW S now n).length ≤ c ∧ St w0 F0 P0 (ckT p (tickS S now n) (tickN now n) seq :: Nums A (tickW S now n) :: ts) w' := by
  obtain ⟨H, hh, hs, hl, hC⟩ := Ck.open h
  unfold tickW tickS tickN tickC
  by_cases hb : n < 0
  · refine (tick_bad p n hb w).mono ?_
    rintro e w' ⟨rfl, rfl⟩
    rw [if_pos hb, if_neg (by decide), if_neg (by decide), if_neg (by decide)]
    exact ⟨none, 0, rfl, Nat.le_refl _, (nums_nil h).swap⟩
  · by_cases ho : 1099511627776 - now < n
    · refine (tick_over hC n (by omega) hnow ho).mono ?_
      rintro e w' ⟨rfl, rfl⟩
      rw [if_neg hb, if_pos ho, if_neg (by decide), if_neg (by decide), if_neg (by decide)]
      exact ⟨none, 0, rfl, Nat.le_refl _, (nums_nil h).swap⟩
    · refine (tick_ok hC (by omega) hh n (by omega) hnow (by omega)).mono ?_
      rintro e w' ⟨A, c, H', rfl, hc, hh', hs', h'⟩
      rw [if_neg hb, if_neg ho, if_pos rfl, if_pos rfl, if_pos rfl]
      rw [hs] at hc hs' h' ⊢
      rw [gs_len]
      exact ⟨A, c, rfl, hc, h'.fold hh' hs'⟩
theorem dropG_len_iff (g : Int) (l : List Tm) : (0 : Int) < (l.length : Int) - ((dropG g l).length : Int) ↔ g ∈ gs l := by
  have h := dropG_len g l
  have h2 : (dropG g l).length = l.length ↔ g ∉ gs l := by
    unfold dropG gs
    rw [List.length_filter_eq_length_iff]
    simp only [List.mem_map, not_exists, not_and, Bool.not_eq_true', beq_eq_false_iff_ne, ne_eq]
  by_cases hg : g ∈ gs l
  · have h3 : (dropG g l).length ≠ l.length := fun e => h2.mp e hg
    exact ⟨fun _ => hg, fun _ => by omega⟩
  · have h3 := h2.mpr hg
    exact ⟨fun h4 => by omega, fun h4 => absurd h4 hg⟩
theorem ck_wake (h : St w0 F0 P0 (ckT p S now seq :: ts) w) (hlen : S.length ≤ 100000) (g : Int) :
    Calls Try.prog 19 #[.pointer (some ⟨p, 0, none⟩), .int .i64 g] w fun e w' => e = .returned (.bool (decide (g ∈ gs S))) ∧ St w0 F0 P0 (ckT p (dropG g S) now seq :: ts) w' := by
  obtain ⟨H, hh, hs, hl, hC⟩ := Ck.open h
  have hp : (gs H).Perm (gs S) := by rw [← hs]; exact ((sortL_perm H).map Tm.g).symm
  refine (wake_calls hC (by omega) g (decide (g ∈ gs S)) (decide_eq_decide.mpr ((dropG_len_iff g H).trans hp.mem_iff))).mono ?_
  rintro e w' ⟨rfl, h'⟩
  refine ⟨rfl, h'.fold (dropL_heap g H) ?_⟩
  rw [← hs]
  exact (dropG_sort (dropL_perm g H)).symm
theorem ck_asleep (h : St w0 F0 P0 (ckT p S now seq :: ts) w) (hlen : S.length ≤ 100000) :
    Calls Try.prog 13 #[.pointer (some ⟨p, 0, none⟩)] w fun e w' => ∃ A c, e = .returned (.slice A (gs S).length c) ∧ (gs S).length ≤ c ∧ St w0 F0 P0 (ckT p S now seq :: Nums A (gs S) :: ts) w' := by
  obtain ⟨H, hh, hs, hl, hC⟩ := Ck.open h
  refine (asleep_calls hC (by omega)).mono ?_
  rintro e w' ⟨A, c, rfl, hc, h'⟩
  rw [hs] at h'
  rw [gs_len, ← hl]
  exact ⟨A, c, rfl, hc, h'.fold hh hs⟩
theorem ck_now (h : St w0 F0 P0 (ckT p S now seq :: ts) w) :
    Calls Try.prog 14 #[.pointer (some ⟨p, 0, none⟩)] w fun e w' => e = .returned (.int .i64 now) ∧ w' = w := by
  obtain ⟨H, hh, hs, hl, hC⟩ := Ck.open h
  exact now_calls hC
end
end Go.Proofs.Ytldkdndgnojepaa.Heap
namespace Go.Proofs.Ytldkdndgnojepaa.Heap
open Go Go.RowKit Go.Shelf Go.Proofs.Ytldkdndgnojepaa.Own Go.Proofs.YtldkdndgnojepaaW.PrintWords Go.Proofs.YtldkdndgnojepaaW.PrintLast Go.Proofs.YtldkdndgnojepaaW.PrintMore
set_option linter.unusedVariables false
set_option linter.unusedSimpArgs false
theorem lit_int (W : World) (x : Int) : (Kd.int .i64).C (W.alloc (.cells #[.int .i64 x] 3)) (some ⟨W.heap.size, 0, none⟩) 1 [x] :=
  ⟨rfl, by decide, fun _ => ⟨_, rfl, fun j p hp => by
    have hj : j = 0 := by
      have := (List.getElem?_eq_some_iff.mp hp).1
      simp at this; omega
    subst hj
    simp at hp
    subst hp
    refine ⟨[.int .i64 x], rfl, rfl, fun i u hu => ?_⟩
    have hi : i = 0 := by
      have := (List.getElem?_eq_some_iff.mp hu).1
      simp at this; omega
    subst hi
    simp at hu
    subst hu
    have hb : (W.alloc (.cells #[.int .i64 x] 3)).heap[W.heap.size]? = some (.cells #[.int .i64 x] 3 (0, 0)) := by
      show (W.heap.push _)[W.heap.size]? = _
      rw [Array.getElem?_push, if_pos rfl]
    have ha : (⟨W.heap.size, 0, none⟩ : Addr).add (0 * (Kd.int .i64).sz + 0) = ⟨W.heap.size, 0, none⟩ := by rw [add_plain]; rfl
    rw [ha, blk_cell hb]
    rfl⟩⟩
theorem ints_n {A1 A2 : Option Addr} {c d n k : Nat} {l m : List Int} (w : World) (h1 : (Kd.int .i64).C w A1 n l) (c1 : n ≤ c) (h2 : (Kd.int .i64).C w A2 k m) (d2 : k ≤ d) (hl : n ≤ 1000000) (b : Bool) (hb : decide (l = m) = b) :
    Calls Try.prog 12 #[.slice A1 n c, .slice A2 k d] w fun e w' => e = .returned (.bool b) ∧ Drawn0 w w' := by
  have e1 := Kd.C_len h1
  have e2 := Kd.C_len h2
  subst e1; subst e2; subst hb
  exact ints_calls w h1 c1 h2 d2 hl
section
variable {w0 w w' : World} {F0 P0 : Nat → Prop} {ts : List Thing} {p : Nat} {H S : List Tm} {now seq : Int}
theorem ck_sleep_to (h : St w0 F0 P0 (ckT p S now seq :: ts) w) (hlen : S.length ≤ 100000) (g n : Int) (hnow : 0 ≤ now ∧ now ≤ 1099511627776) (hseq : 0 ≤ seq ∧ seq ≤ 1000000000) (c : Int) (S' : List Tm) (q : Int) (e1 : sleepC S g n = c) (e2 : sleepS S now seq g n = S') (e3 : sleepQ S seq g n = q) :
    Calls Try.prog 16 #[.pointer (some ⟨p, 0, none⟩), .int .i64 g, .int .i64 n] w fun e w' => e = .returned (.int .i64 c) ∧ St w0 F0 P0 (ckT p S' now q :: ts) w' := by
  subst e1; subst e2; subst e3
  exact ck_sleep h hlen g n hnow hseq
theorem ck_tick_to (h : St w0 F0 P0 (ckT p S now seq :: ts) w) (hlen : S.length ≤ 100000) (n : Int) (hnow : 0 ≤ now ∧ now ≤ 1099511627776) (c : Int) (L : List Int) (k : Nat) (S' : List Tm) (m : Int) (e1 : tickC now n = c) (e2 : tickW S now n = L) (e5 : L.length = k) (e3 : tickS S now n = S') (e4 : tickN now n = m) :
    Calls Try.prog 11 #[.pointer (some ⟨p, 0, none⟩), .int .i64 n] w fun e w' => ∃ A cc, e = .returned (.tuple #[.slice A k cc, .int .i64 c]) ∧ k ≤ cc ∧ St w0 F0 P0 (ckT p S' m seq :: Nums A L :: ts) w' := by
  subst e1; subst e2; subst e3; subst e4; subst e5
  exact ck_tick h hlen n hnow
theorem ck_asleep_n (h : St w0 F0 P0 (ckT p S now seq :: ts) w) (hlen : S.length ≤ 100000) (n : Nat) (hn : S.length = n) :
    Calls Try.prog 13 #[.pointer (some ⟨p, 0, none⟩)] w fun e w' => ∃ A c, e = .returned (.slice A n c) ∧ n ≤ c ∧ St w0 F0 P0 (ckT p S now seq :: Nums A (gs S) :: ts) w' := by
  subst hn
  have := ck_asleep h hlen
  rwa [gs_len] at this
theorem nums_now {A : Option Addr} {L : List Int} (h : St w0 F0 P0 (Nums A L :: ts) w) (n : Nat) (hn : L.length = n) : (Kd.int .i64).C w A n L := by
  subst hn; exact h.now
end
set_option maxRecDepth 100000 in
set_option maxHeartbeats 4000000 in
theorem shown_calls (w : World) : Calls Try.prog 9 #[] w fun e w' => e = .returned (.bool true) ∧ Below w.heap.size w w' := by
  have HS0 := Aside0.mk (ck_new (St.start w (fun _ => True)))
  go_enter Try.func9, Try.ntmps9
  go_wp2_with (first
    | (go_at_call 16; (with_reducible refine (ck_sleep_to HS0.out (by decide) 1 3 (by decide) (by decide) 0 [⟨3, 1, 1⟩] 1 (by decide) (by decide) (by decide)).mono ?_); rintro e w1 ⟨rfl, hS⟩; have HS1 := Aside0.mk hS; clear hS HS0)
    | (go_at_call 16; (with_reducible refine (ck_sleep_to HS1.out (by decide) 2 2 (by decide) (by decide) 0 [⟨2, 2, 2⟩, ⟨3, 1, 1⟩] 2 (by decide) (by decide) (by decide)).mono ?_); rintro e w2 ⟨rfl, hS⟩; have HS2 := Aside0.mk hS; clear hS HS1)
    | (go_at_call 11; (with_reducible refine (ck_tick_to HS2.out (by decide) 2 (by decide) 0 [2] 1 [⟨3, 1, 1⟩] 2 (by decide) (by decide) rfl (by decide) (by decide)).mono ?_); rintro e w3 ⟨A3, c3, rfl, hc3, hS⟩; have HS3 := Aside0.mk hS; have HC3 := Aside0.mk hc3; clear hS HS2 hc3)
    | (go_at_call 11; (with_reducible refine (ck_tick_to HS3.out (by decide) 1 (by decide) 0 [1] 1 [] 3 (by decide) (by decide) rfl (by decide) (by decide)).mono ?_); rintro e w4 ⟨A4, c4, rfl, hc4, hS⟩; have HS4 := Aside0.mk hS; have HC4 := Aside0.mk hc4; clear hS HS3 hc4)
    | (go_at_call 12; (with_reducible refine (ints_n _ (nums_now (HS4.out.below (below_alloc (Below.refl _ _) _)).rot.rot 1 rfl) HC3.out (lit_int _ 2) (by decide) (by decide) true (by decide)).mono ?_); rintro e w5 ⟨rfl, hd⟩; have HS5 := Aside0.mk ((HS4.out.below (below_alloc (Below.refl _ _) (.cells #[.int .i64 2] 3))).drawn hd); clear hd HS4)
    | (go_at_call 12; (with_reducible refine (ints_n _ (nums_now (HS5.out.below (below_alloc (Below.refl _ _) _)).swap 1 rfl) HC4.out (lit_int _ 1) (by decide) (by decide) true (by decide)).mono ?_); rintro e w6 ⟨rfl, hd⟩; have HS6 := Aside0.mk ((HS5.out.below (below_alloc (Below.refl _ _) (.cells #[.int .i64 1] 3))).drawn hd); clear hd HS5)
    | (go_at_call 14; (with_reducible refine (ck_now HS6.out).mono ?_); rintro e w7 ⟨rfl, rfl⟩))
  go_ret
  exact ⟨rfl, HS6.out.bel⟩
end Go.Proofs.Ytldkdndgnojepaa.Heap
namespace Go.Proofs.Ytldkdndgnojepaa.Heap
open Go Go.RowKit Go.Shelf Go.Proofs.Ytldkdndgnojepaa.Own Go.Proofs.YtldkdndgnojepaaW.PrintWords Go.Proofs.YtldkdndgnojepaaW.PrintLast Go.Proofs.YtldkdndgnojepaaW.PrintMore
set_option linter.unusedVariables false
set_option linter.unusedSimpArgs false
theorem at_num {k : IntKind} {w : World} {A : Option Addr} {n : Nat} {l : List Int} (h : (Kd.int k).C w A n l) {i : Nat} (hi : i < l.length) : ∃ ad, A = some ad ∧ w.cell? (ad.add i) = some (.int k l[i]) := by
  have hn := Kd.C_len h
  obtain ⟨ad, e, h1⟩ := Kd.at_int h (i : Int) (by omega) (by omega)
  refine ⟨ad, e, ?_⟩
  rw [Int.toNat_natCast, rdn hi] at h1
  exact h1
/-- Bytes that are only read. -/
def Bytes (A : Option Addr) (l : List Int) : Thing := valT (fun W => (Kd.int .u8).C W A l.length l)
def oneT (l : List Int) (k : Nat) : Tm := ⟨1 + l.getD k 0, (k : Int) + 1, (k : Int) + 1⟩
def sleptN (l : List Int) : Nat → List Tm
  | 0 => []
  | k + 1 => insL (oneT l k) (sleptN l k)
theorem sleptN_len (l : List Int) : ∀ k, (sleptN l k).length = k
  | 0 => rfl
  | k + 1 => by simp only [sleptN]; rw [insL_len, sleptN_len]
theorem sleptN_srt (l : List Int) : ∀ k, Srt (sleptN l k)
  | 0 => List.Pairwise.nil
  | k + 1 => insL_srt _ _ (sleptN_srt l k)
theorem sleptN_mem (l : List Int) : ∀ {k : Nat} {x : Tm}, x ∈ sleptN l k ↔ ∃ j, j < k ∧ x = oneT l j
  | 0, x => by simp [sleptN]
  | k + 1, x => by
    simp only [sleptN]
    rw [(insL_perm _ _).mem_iff, List.mem_cons, sleptN_mem l]
    constructor
    · rintro (rfl | ⟨j, hj, rfl⟩)
      · exact ⟨k, by omega, rfl⟩
      · exact ⟨j, by omega, rfl⟩
    · rintro ⟨j, hj, rfl⟩
      by_cases e : j = k
      · subst e; exact .inl rfl
      · exact .inr ⟨j, by omega, rfl⟩
def many (l : List Int) : Nat := min l.length 64
theorem many_le (l : List Int) : many l ≤ l.length ∧ many l ≤ 64 := ⟨Nat.min_le_left _ _, Nat.min_le_right _ _⟩
theorem slept_code (l : List Int) (hb : ∀ x ∈ l, 0 ≤ x ∧ x ≤ 255) {k : Nat} (hk : k < l.length) : sleepC (sleptN l k) ((k : Int) + 1) (1 + l[k]) = 0 := by
  have h1 := hb l[k] (List.getElem_mem _)
  unfold sleepC
  rw [if_neg (by omega), if_neg]
  intro h
  obtain ⟨x, hx, e⟩ := List.mem_map.mp h
  obtain ⟨j, hj, rfl⟩ := (sleptN_mem l).mp hx
  have : (j : Int) + 1 = (k : Int) + 1 := e
  omega
theorem slept_step (l : List Int) (hb : ∀ x ∈ l, 0 ≤ x ∧ x ≤ 255) {k : Nat} (hk : k < l.length) : sleepS (sleptN l k) 0 (k : Int) ((k : Int) + 1) (1 + l[k]) = sleptN l (k + 1) ∧ sleepQ (sleptN l k) (k : Int) ((k : Int) + 1) (1 + l[k]) = ((k + 1 : Nat) : Int) := by
  unfold sleepS sleepQ
  rw [slept_code l hb hk, if_pos rfl, if_pos rfl]
  refine ⟨?_, by omega⟩
  simp only [sleptN, oneT]
  rw [List.getD_eq_getElem?_getD, List.getElem?_eq_getElem hk]
  simp
section
variable {w0 w w' : World} {F0 P0 : Nat → Prop} {ts : List Thing} {p : Nat} {H S : List Tm} {now seq : Int}
set_option maxRecDepth 100000 in
set_option maxHeartbeats 4000000 in
theorem slept_calls {A : Option Addr} {c : Nat} {l : List Int} (h : St w0 F0 P0 (Bytes A l :: ts) w) (hc : l.length ≤ c) (hm : l.length ≤ maxLen) (hb : ∀ x ∈ l, 0 ≤ x ∧ x ≤ 255) :
    Calls Try.prog 10 #[.slice A l.length c] w fun e w' => ∃ p, e = .returned (.pointer (some ⟨p, 0, none⟩)) ∧ St w0 F0 P0 (ckT p (sleptN l (many l)) 0 ((many l : Nat) : Int) :: Bytes A l :: ts) w' := by
  have HS0 := Aside0.mk (ck_new h)
  have HB := Aside0.mk hb
  have HC := Aside0.mk hc
  unfold maxLen at hm
  obtain ⟨b, hbb⟩ : ∃ b, w.heap.size = b := ⟨_, rfl⟩
  rw [hbb] at HS0
  have HBB := Aside0.mk hbb
  clear h hb hc
  go_enter Try.func10, Try.ntmps10
  go_wp2
  clear hbb
  go_loopg [4] (l.length + 1) (fun kq v4 w' => ∃ (k : Nat), v4 = .int .i64 (k : Int) ∧ Aside0 (k + kq = l.length + 1 ∧ k ≤ many l) ∧ Aside0 (St w0 F0 P0 (ckT b (sleptN l k) 0 (k : Int) :: Bytes A l :: ts) w'))
  case atStart => exact ⟨0, rfl, ⟨by omega, Nat.zero_le _⟩, HS0⟩
  case round =>
    clear HS0
    obtain ⟨k, rfl, HK, HS⟩ := hrel
    cases gk with
    | zero => exact absurd HK.out (by have := many_le l; omega)
    | succ k1 =>
      have hk64 : (k : Int) ≤ 64 := by have := HK.out; have := many_le l; omega
      have hk0 : (0 : Int) ≤ (k : Int) := by omega
      by_cases hin : k < many l
      · have hkl : k < l.length := by have := many_le l; omega
        have d1 : decide ((k : Int) < (l.length : Int)) = true := decide_eq_true (by omega)
        have d1n : decide (k < l.length) = true := decide_eq_true hkl
        have d2 : decide ((k : Int) < 64) = true := decide_eq_true (by have := many_le l; omega)
        have d2n : decide (k < 64) = true := decide_eq_true (by have := many_le l; omega)
        have hlt : (k : Int) < (l.length : Int) := by omega
        obtain ⟨ad, rfl, a0⟩ := at_num HS.out.swap.now hkl
        have HX := Aside0.mk (slept_code l HB.out hkl)
        have HY := Aside0.mk (slept_step l HB.out hkl)
        have hx := HB.out l[k] (List.getElem_mem _)
        have hx0 := hx.1
        have hx1 := hx.2
        have HIN := Aside0.mk hin
        clear hx
        generalize l[k] = x at a0 HX HY hx0 hx1
        clear hin hkl
        go_wp2_with (go_at_call 16; go_loud ((with_reducible refine (ck_sleep_to HS.out (by rw [sleptN_len]; omega) ((k : Int) + 1) (1 + x) (by decide) (by omega) 0 _ _ HX.out HY.out.1 HY.out.2).mono ?_); rintro e w2 ⟨rfl, hS⟩; have HS2 := Aside0.mk hS; clear hS HS))
        go_roundg k1
        case measure => have := HK.out; omega
        case rel => exact ⟨k + 1, by first | rfl | go_num, ⟨by have := HK.out; omega, by have := HIN.out; omega⟩, HS2⟩
      · have hke : k = many l := by have := HK.out; omega
        by_cases hl : l.length ≤ 64
        · have d1 : decide ((k : Int) < (l.length : Int)) = false := decide_eq_false (by unfold many at hin; omega)
          have d1n : decide (k < l.length) = false := decide_eq_false (by unfold many at hin; omega)
          clear hin hl
          have HKE := Aside0.mk hke
          clear hke
          go_wp2
          go_ret
          exact ⟨b, rfl, by have h1 := HS.out; rw [HKE.out] at h1; exact h1⟩
        · have d1 : decide ((k : Int) < (l.length : Int)) = true := decide_eq_true (by unfold many at hke; omega)
          have d1n : decide (k < l.length) = true := decide_eq_true (by unfold many at hke; omega)
          have d2 : decide ((k : Int) < 64) = false := decide_eq_false (by unfold many at hke; omega)
          have d2n : decide (k < 64) = false := decide_eq_false (by unfold many at hke; omega)
          clear hin hl
          have HKE := Aside0.mk hke
          clear hke
          go_wp2
          go_ret
          exact ⟨b, rfl, by have h1 := HS.out; rw [HKE.out] at h1; exact h1⟩
end
end Go.Proofs.Ytldkdndgnojepaa.Heap
namespace Go.Proofs.Ytldkdndgnojepaa.Heap
open Go Go.RowKit Go.Shelf Go.Proofs.Ytldkdndgnojepaa.Own Go.Proofs.YtldkdndgnojepaaW.PrintWords Go.Proofs.YtldkdndgnojepaaW.PrintLast Go.Proofs.YtldkdndgnojepaaW.PrintMore
set_option linter.unusedVariables false
set_option linter.unusedSimpArgs false
theorem u8_bound {b : Int} (h : (Lit.int .u8 b).wf = true) : 0 ≤ b ∧ b ≤ 255 := by
  have hmin : IntKind.u8.min = 0 := by decide
  have hmax : IntKind.u8.max = 255 := by decide
  simpa [Lit.wf, hmin, hmax] using h
theorem i64_bound {b : Int} (h : (Lit.int .i64 b).wf = true) : -9223372036854775808 ≤ b ∧ b ≤ 9223372036854775807 := by
  have hmin : IntKind.i64.min = -9223372036854775808 := by decide
  have hmax : IntKind.i64.max = 9223372036854775807 := by decide
  simpa [Lit.wf, hmin, hmax] using h
section
variable {w0 w w' : World} {F0 P0 : Nat → Prop} {ts : List Thing} {p : Nat} {H S : List Tm} {now seq : Int}
theorem law_start {A : Option Addr} {l : List Int} (w : World) (hr : (Kd.int .u8).C w A l.length l) : St w (fun _ => False) (fun _ => True) [Bytes A l] w :=
  St.arg (St.start w (fun _ => True)) (fun _ => id) (fun _ _ => trivial) (Kd.C_F (Kd.heap_int _) hr)
theorem lit_row (h : St w0 F0 P0 ts w) (xs : List Int) (hm : xs.length ≤ 9223372036854775807) : St w0 F0 P0 (rowT (Kd.int .i64) 3 (.slice (some ⟨w.heap.size, 0, none⟩) xs.length xs.length) xs :: ts) (w.alloc (.cells (nums .i64 xs).toArray 3)) :=
  h.got (ok := fun _ => True) (Kd.R_of_own (enc := Value.int .i64) (h1 := fun _ => rfl) (own_lit w w.heap.size 3 .i64 xs (Nat.le_refl _) hm) (fun _ _ => trivial)) (below_alloc (Below.refl _ _) _) (Nat.le_refl _)
theorem nums_n {A : Option Addr} {L : List Int} (h : St w0 F0 P0 (Nums A L :: ts) w) {n : Nat} (hn : L.length = n) : St w0 F0 P0 (valT (fun W => (Kd.int .i64).C W A n L) :: ts) w := by
  subst hn; exact h
/-- A row of one's own is written no more. -/
theorem row_nums {v : Value} {L : List Int} (h : St w0 F0 P0 (rowT (Kd.int .i64) 3 v L :: ts) w) {n : Nat} (hn : L.length = n) : ∃ A c, v = .slice A n c ∧ n ≤ c ∧ St w0 F0 P0 (Nums A L :: ts) w := by
  subst hn
  obtain ⟨A, c, rfl⟩ := h.slice
  obtain ⟨-, hc, hV⟩ := h.freeze
  exact ⟨A, c, rfl, hc, hV⟩
end
/-! ### Who wakes, in plain words -/
theorem due_len (m : Int) (S : List Tm) : (due m S).length + (rest m S).length = S.length := by
  unfold due rest
  rw [← List.length_append, List.takeWhile_append_dropWhile]
theorem due_rest {m m' : Int} (h : m ≤ m') : ∀ S : List Tm, due m' S = due m S ++ due m' (rest m S) ∧ rest m' S = rest m' (rest m S)
  | [] => by simp [due, rest]
  | x :: S => by
    have ih := due_rest h S
    by_cases hx : x.t ≤ m
    · have hx' : x.t ≤ m' := by omega
      simp only [due, rest] at ih ⊢
      simp only [List.takeWhile_cons, List.dropWhile_cons, decide_eq_true hx, decide_eq_true hx', if_true, List.cons_append]
      exact ⟨congrArg _ ih.1, ih.2⟩
    · have e1 : due m (x :: S) = [] := by simp only [due]; rw [List.takeWhile_cons_of_neg (by simpa using hx)]
      have e2 : rest m (x :: S) = x :: S := by simp only [rest]; rw [List.dropWhile_cons_of_neg (by simpa using hx)]
      rw [e1, e2]
      exact ⟨rfl, rfl⟩
/-- In order of their times. -/
def Ris (S : List Tm) : Prop := S.Pairwise (fun x y => x.t ≤ y.t)
theorem srt_ris {S : List Tm} (h : Srt S) : Ris S := h.imp (fun {x y} hxy => by
  unfold le cmpT at hxy
  unfold sgn at hxy
  by_cases h1 : x.t < y.t
  · omega
  · by_cases h2 : y.t < x.t
    · rw [if_pos (by rw [if_neg h1, if_pos h2]; decide), if_neg h1, if_pos h2] at hxy
      omega
    · omega)
theorem due_filter (m : Int) : ∀ {S : List Tm}, Ris S → due m S = S.filter (fun x => decide (x.t ≤ m)) ∧ rest m S = S.filter (fun x => decide (m < x.t))
  | [], _ => ⟨rfl, rfl⟩
  | x :: S, h => by
    obtain ⟨h1, h2⟩ := List.pairwise_cons.mp h
    have ih := due_filter m h2
    simp only [due, rest] at ih ⊢
    by_cases hx : x.t ≤ m
    · rw [List.takeWhile_cons_of_pos (by simpa using hx), List.dropWhile_cons_of_pos (by simpa using hx), List.filter_cons_of_pos (by simpa using hx), List.filter_cons_of_neg (by simp; omega), ih.1, ih.2]
      exact ⟨rfl, rfl⟩
    · rw [List.takeWhile_cons_of_neg (by simpa using hx), List.dropWhile_cons_of_neg (by simpa using hx), List.filter_cons_of_neg (by simpa using hx), List.filter_cons_of_pos (by simp; omega)]
      have e1 : S.filter (fun y => decide (y.t ≤ m)) = [] := List.filter_eq_nil_iff.mpr (fun y hy => by have := h1 y hy; simp; omega)
      have e2 : S.filter (fun y => decide (m < y.t)) = S := List.filter_eq_self.mpr (fun y hy => by have := h1 y hy; simp; omega)
      rw [e1, e2]
      exact ⟨rfl, rfl⟩
theorem ris_filter {S : List Tm} (h : Ris S) (q : Tm → Bool) : Ris (S.filter q) := h.filter q
theorem ris_rest (m : Int) {S : List Tm} (h : Ris S) : Ris (rest m S) := by rw [(due_filter m h).2]; exact ris_filter h _
theorem tick_ok0 {now n : Int} (h0 : 0 ≤ n) (h1 : n ≤ 1099511627776 - now) (S : List Tm) : tickC now n = 0 ∧ tickW S now n = gs (due (now + n) S) ∧ tickS S now n = rest (now + n) S ∧ tickN now n = now + n := by
  have e : tickC now n = 0 := by unfold tickC; rw [if_neg (by omega), if_neg (by omega)]
  unfold tickW tickS tickN
  rw [e, if_pos rfl, if_pos rfl, if_pos rfl]
  exact ⟨rfl, rfl, rfl, rfl⟩
end Go.Proofs.Ytldkdndgnojepaa.Heap
namespace Go.Proofs.Ytldkdndgnojepaa.PIn13
open Go.RowKit Go.Proofs.YtldkdndgnojepaaW.PrintWords Go.Proofs.YtldkdndgnojepaaW.PrintLast Go.Proofs.YtldkdndgnojepaaW.PrintMore
attribute [local go_sem] max2_int min2_int max_two min_two max_three min_three max_four min_four   -- for this text's walks alone
set_option linter.unusedVariables false
set_option linter.unusedSimpArgs false



def errW : Option Int → Value
  | none => .nilIface
  | some c => .iface 0 (.int .i64 c)
theorem errW_none : errW none = .nilIface := rfl
theorem errW_some (c : Int) : errW (some c) = .iface 0 (.int .i64 c) := rfl

-- the values' own types

end Go.Proofs.Ytldkdndgnojepaa.PIn13
namespace Go.Proofs.Ytldkdndgnojepaa.PIn13
open Go.RowKit Go.Proofs.YtldkdndgnojepaaW.PrintWords Go.Proofs.YtldkdndgnojepaaW.PrintLast Go.Proofs.YtldkdndgnojepaaW.PrintMore
attribute [local go_sem] max2_int min2_int max_two min_two max_three min_three max_four min_four   -- for this text's walks alone
set_option linter.unusedVariables false
set_option linter.unusedSimpArgs false

-- NOT PRINTED: function 11 (clock_Clock_Tick)

/-! ### catafalqueref01_In: function 15 -/
def catafalqueref01_In.l0 : Nat → List Int → Int → Int → Option (Bool)
  | 0, _, _, _ => none
  | k + 1, x0, x1, x5 => if x5 < (x0.length : Int) then (if 0 ≤ x5 then (if (rd x0 x5) = x1 then (some true) else (catafalqueref01_In.l0 k x0 x1 (wrap64 (x5 + 1)))) else (none)) else (some false)
def catafalqueref01_In.f (k : Nat) (l0 : List Int) (a1 : Int) : Option (Bool) := catafalqueref01_In.l0 k l0 a1 0
theorem catafalqueref01_In.mono_l : ∀ k, (∀ y0 y1 y2, LeO (catafalqueref01_In.l0 k y0 y1 y2) (catafalqueref01_In.l0 (k + 1) y0 y1 y2))
  | 0 => fun _ _ _ r h => by simp [catafalqueref01_In.l0] at h
  | k + 1 => by
    have ih0 := catafalqueref01_In.mono_l k
    · intro y0 y1 y2
      unfold catafalqueref01_In.l0
      repeat' first
      | (with_reducible exact ih0 _ _ _)
      | (with_reducible exact LeO.refl _)
      | (with_reducible exact LeO.none _)
      | (with_reducible refine LeO.ite ?_ ?_)
      | (with_reducible refine LeO.bind ?_ (fun _ => ?_))
      | exact ih0 _ _ _
      | exact LeO.none _
      | refine LeO.ite ?_ ?_
      | refine LeO.bind ?_ (fun _ => ?_)
theorem catafalqueref01_In.mono : ∀ a0 a1 k, LeO (catafalqueref01_In.f k a0 a1) (catafalqueref01_In.f (k + 1) a0 a1) := by
  intro a0 a1 k
  have ih0 := catafalqueref01_In.mono_l k
  unfold catafalqueref01_In.f
  repeat' first
      | (with_reducible exact ih0 _ _ _)
      | (with_reducible exact LeO.refl _)
      | (with_reducible exact LeO.none _)
      | (with_reducible refine LeO.ite ?_ ?_)
      | (with_reducible refine LeO.bind ?_ (fun _ => ?_))
      | exact ih0 _ _ _
      | exact LeO.none _
      | refine LeO.ite ?_ ?_
      | refine LeO.bind ?_ (fun _ => ?_)
set_option maxHeartbeats 8000000 in
set_option maxRecDepth 100000 in
theorem catafalqueref01_In.calls (k : Nat) (A0 : Option Addr) (c0 : Nat) (l0 : List Int) (a1 : Int) (r : Bool) (w : World) (hr0 : Kd.C (Kd.int .i64) w A0 l0.length l0) (hc0 : l0.length ≤ c0) (h : catafalqueref01_In.f k l0 a1 = some r) :
    Calls Try.prog 15 #[.slice A0 l0.length c0, .int .i64 a1] w fun e w' => e = .returned (.bool r) ∧ Drawn0 w w' := by
  have HR0 := Aside0.mk hr0
  have HC0 := Aside0.mk hc0
  clear hr0 hc0
  have H : (catafalqueref01_In.l0 k l0 a1 0) = some r := h
  clear h
  have H' := Aside0.mk H
  clear H
  go_enter Try.func15, Try.ntmps15
  go_wp2
  go_loopg [5] k (fun kq v5 w' => ∃ (x5_1 : Int), v5 = .int .i64 x5_1 ∧ Aside0 (catafalqueref01_In.l0 kq l0 a1 x5_1 = some r) ∧ Aside0 (kq ≤ k) ∧ Drawn0 w w')
  case atStart => exact ⟨(0), (by first | rfl | (simp; done) | (simp [*]; done)), H', ⟨Nat.le_refl _⟩, by repeat (first | exact Drawn0.refl _ | apply Drawn0.step)⟩
  case round =>
    clear H'
    try clear c1
    try clear p2
    obtain ⟨x5_1, rfl, HA, HK1, ⟨m1, rfl⟩⟩ := hrel
    cases gk with
    | zero => exact absurd HA.out (by simp [catafalqueref01_In.l0])
    | succ k1 =>
      have H := HA.out
      clear HA
      simp only [catafalqueref01_In.l0] at H
      by_cases c3 : x5_1 < (l0.length : Int)
      · rw [if_pos c3] at H
        have c3b0 : decide (x5_1 < (l0.length : Int)) = true := decide_eq_true c3
        clear c3
        by_cases c4 : 0 ≤ x5_1
        · rw [if_pos c4] at H
          have c4b0 : decide (0 ≤ x5_1) = true := decide_eq_true c4
          clear c4
          by_cases c5 : (rd l0 x5_1) = a1
          · rw [if_pos c5] at H
            have c5b0 : ((rd l0 x5_1) == a1) = true := beq_iff_eq.mpr c5
            have c5b1 : ((rd l0 x5_1) != a1) = false := bne_eq_false_iff_eq.mpr c5
            clear c5
            obtain rfl := Option.some.inj H
            have p108 : 0 ≤ (x5_1 : Int) := of_decide_eq_true (by first | (with_reducible assumption) | assumption)
            have q108 : x5_1 < (l0.length : Int) := of_decide_eq_true (by first | (with_reducible assumption) | assumption)
            obtain ⟨ad108, e108, hx108_0⟩ := Kd.at_int HR0.out x5_1 p108 q108
            cases e108
            replace p108 := eq_true p108
            replace q108 := eq_true q108
            go_wp2
            go_ret
            exact ⟨by first | rfl | (simp; done) | (simp [*]; done), by repeat (first | exact Drawn0.refl _ | apply Drawn0.step)⟩
          · rw [if_neg c5] at H
            have c5b0 : ((rd l0 x5_1) == a1) = false := beq_eq_false_iff_ne.mpr c5
            have c5b1 : ((rd l0 x5_1) != a1) = true := bne_iff_ne.mpr c5
            have H' := Aside0.mk H
            clear H
            have p108 : 0 ≤ (x5_1 : Int) := of_decide_eq_true (by first | (with_reducible assumption) | assumption)
            have q108 : x5_1 < (l0.length : Int) := of_decide_eq_true (by first | (with_reducible assumption) | assumption)
            obtain ⟨ad108, e108, hx108_0⟩ := Kd.at_int HR0.out x5_1 p108 q108
            cases e108
            replace p108 := eq_true p108
            replace q108 := eq_true q108
            go_wp2
            go_roundg k1
            case measure => have := HK1.out; omega
            case rel => exact ⟨(wrap64 (x5_1 + 1)), (by first | rfl | (simp; done) | (simp [*]; done)), H', ⟨by have := HK1.out; omega⟩, by repeat (first | exact Drawn0.refl _ | apply Drawn0.step)⟩
        · rw [if_neg c4] at H
          exact absurd H (by simp)
      · rw [if_neg c3] at H
        have c3b0 : decide (x5_1 < (l0.length : Int)) = false := decide_eq_false c3
        clear c3
        obtain rfl := Option.some.inj H
        go_wp2
        go_ret
        exact ⟨by first | rfl | (simp; done) | (simp [*]; done), by repeat (first | exact Drawn0.refl _ | apply Drawn0.step)⟩

-- NOT PRINTED: function 19 (clock_Clock_Wake)

-- NOT PRINTED: function 8 (catafalquelaw13_ClockStill)

end Go.Proofs.Ytldkdndgnojepaa.PIn13
namespace Go.Proofs.Ytldkdndgnojepaa.Heap
open Go Go.RowKit Go.Shelf Go.Proofs.Ytldkdndgnojepaa.Own Go.Proofs.YtldkdndgnojepaaW.PrintWords Go.Proofs.YtldkdndgnojepaaW.PrintLast Go.Proofs.YtldkdndgnojepaaW.PrintMore
set_option linter.unusedVariables false
set_option linter.unusedSimpArgs false
theorem in_l0 (l : List Int) (g : Int) (hl : l.length ≤ 1000000) : ∀ (k i : Nat), l.length - i < k → i ≤ l.length → PIn13.catafalqueref01_In.l0 k l g (i : Int) = some (decide (g ∈ l.drop i))
  | 0, i, hk, hi => by omega
  | k + 1, i, hk, hi => by
    simp only [PIn13.catafalqueref01_In.l0]
    by_cases h : i < l.length
    · have e1 : l.drop i = l[i] :: l.drop (i + 1) := List.drop_eq_getElem_cons h
      rw [if_pos (by omega), if_pos (by omega), rdn h, w64s (by omega), in_l0 l g hl k (i + 1) (by omega) (by omega), e1]
      by_cases hc : l[i] = g
      · rw [if_pos hc]
        exact congrArg some (decide_eq_true (by rw [hc]; exact List.mem_cons_self)).symm
      · rw [if_neg hc]
        exact congrArg some (decide_eq_decide.mpr ⟨fun h => List.mem_cons_of_mem _ h, fun h => by
          rcases List.mem_cons.mp h with h | h
          · exact absurd h.symm hc
          · exact h⟩)
    · obtain rfl : i = l.length := by omega
      rw [if_neg (by omega), List.drop_length]
      rfl
theorem in_n {A1 : Option Addr} {c n : Nat} {L : List Int} (w : World) (h1 : (Kd.int .i64).C w A1 n L) (c1 : n ≤ c) (g : Int) (hl : n ≤ 1000000) (b : Bool) (hb : decide (g ∈ L) = b) :
    Calls Try.prog 15 #[.slice A1 n c, .int .i64 g] w fun e w' => e = .returned (.bool b) ∧ Drawn0 w w' := by
  subst hb
  have hn := Kd.C_len h1
  subst hn
  refine PIn13.catafalqueref01_In.calls (L.length + 1) A1 c L g _ w h1 c1 ?_
  unfold PIn13.catafalqueref01_In.f
  exact in_l0 L g hl (L.length + 1) 0 (by omega) (by omega)
/-- Those that are not g. -/
def fl (g : Int) (L : List Int) : List Int := L.filter (fun x => !(x == g))
theorem fl_len (g : Int) (L : List Int) : (fl g L).length ≤ L.length := List.length_filter_le _ _
theorem fl_take (g : Int) (L : List Int) {k : Nat} (hk : k < L.length) : fl g (L.take (k + 1)) = fl g (L.take k) ++ (if L[k] = g then [] else [L[k]]) := by
  unfold fl
  rw [List.take_succ_eq_append_getElem hk, List.filter_append]
  congr 1
  by_cases h : L[k] = g
  · rw [if_pos h]; simp [h]
  · rw [if_neg h]; simp [h]
theorem gs_dropG (g : Int) (S : List Tm) : gs (dropG g S) = fl g (gs S) := by
  unfold gs dropG fl
  rw [List.filter_map]
  rfl
end Go.Proofs.Ytldkdndgnojepaa.Heap
namespace Go.Proofs.Ytldkdndgnojepaa.Own
open Go Go.RowKit Go.Proofs.YtldkdndgnojepaaW.PrintWords Go.Proofs.YtldkdndgnojepaaW.PrintLast Go.Proofs.YtldkdndgnojepaaW.PrintMore
set_option linter.unusedVariables false
section
variable {α β : Type} {d : Kd α} {d2 : Kd β} {e e2 : Nat} {w0 w w' : World} {F0 P0 : Nat → Prop} {ts : List Thing} {u v1 v2 : Value} {L L' : List α} {K : List β} {base : Nat} {ok : Nat → Prop}
theorem N_R (hflat : ∀ (w : World) (base : Nat) (ok : Nat → Prop) (x : α) (c : List Value), d.K w x c → d.M w base ok x c) (h : Kd.N d e w base ok u L) : d.R e w base ok u L := by
  obtain ⟨h0, rows, hl, ⟨-, inner, ho, hr⟩, hf⟩ := h
  refine ⟨h0, inner, by rw [← hl]; exact ho, ⟨by rw [← hl]; exact hr.1, fun j p hj => ?_⟩⟩
  have hjl : j < rows.length := by have := (List.getElem?_eq_some_iff.1 hj).1; omega
  obtain ⟨h1, -, -⟩ := hr.2 j _ (List.getElem?_eq_getElem hjl)
  have h2 := Kd.FK_now (hf j p _ hj (List.getElem?_eq_getElem hjl))
  rw [← h1] at h2
  exact hflat _ _ _ _ _ h2
/-- A row of one's own, as the print's calls want it. -/
theorem St.flat (hflat : ∀ (w : World) (base : Nat) (ok : Nat → Prop) (x : α) (c : List Value), d.K w x c → d.M w base ok x c) (hE : d.E = []) (h : St w0 F0 P0 (rowT d e u L :: ts) w) : d.R e w 0 (fun k => some k = u.ownBlock) u L := by
  obtain ⟨ok, hN⟩ := h.row
  exact Kd.R_tight hE (N_R hflat hN)
/-- The empty world: nothing lies below it. -/
def noHeap (w : World) : World := { w with heap := #[] }
theorem noHeap_below (w : World) : Below (noHeap w).heap.size (noHeap w) w := ⟨rfl, rfl, rfl, Nat.zero_le _, fun k hk => absurd hk (Nat.not_lt_zero k)⟩
theorem noHeap_os (h : Below (noHeap w).heap.size (noHeap w) w') : w'.os = w.os ∧ w'.tape = w.tape ∧ w'.output = w.output := ⟨h.os, h.tape, h.output⟩
theorem St.redo (hE : d.E = []) (h : St w0 F0 P0 (rowT d e u L :: ts) w) (hb : w'.os = w.os ∧ w'.tape = w.tape ∧ w'.output = w.output) (hk : Kept w w' (fun k => some k = u.ownBlock)) (hR : d.R e w' 0 (fun k => some k = u.ownBlock ∨ w.heap.size ≤ k) v1 L') : St w0 F0 P0 (rowT d e v1 L' :: ts) w' := by
  obtain ⟨F1, P1, h1, hf⟩ := St.part (ts1 := [rowT d e u L]) h
  refine hf w' [rowT d e v1 L'] ?_
  obtain ⟨F, ⟨G1, G2, g1, g2, g3, g4⟩, hm⟩ := h1
  have hFu : ∀ k, F k ↔ u.ownBlock = some k := fun k => by rw [g1]; exact ⟨fun a => a.elim (g2.1 k).mp (fun b => (g4 k b).elim), fun a => .inl ((g2.1 k).mpr a)⟩
  have hN := Kd.R_N (Kd.R_tight hE hR)
  refine ⟨⟨fun k => v1.ownBlock = some k, ⟨fun k => v1.ownBlock = some k, fun _ => False, fun k => by simp, ⟨fun k => Iff.rfl, Kd.N_mono hN (fun k a => .inl a.symm)⟩, fun k a => id, fun k => id⟩, ⟨hb.1, hb.2.1, hb.2.2, hk.1, fun k hk1 hF => hk.2 k hk1 (fun a => hF ?_), fun k a => ?_⟩⟩⟩
  · have := hm.fresh k ((hFu k).mpr a.symm)
    rcases this with c | c
    · exact c
    · omega
  · rcases hR.1 k a with c | c
    · exact hm.fresh k ((hFu k).mpr c.symm)
    · exact .inr c
theorem St.redo2 (hE : d.E = []) (hE2 : d2.E = []) (hne : e ≠ e2) (h : St w0 F0 P0 (rowT d e u L :: ts) w) (hb : w'.os = w.os ∧ w'.tape = w.tape ∧ w'.output = w.output) (hk : Kept w w' (fun k => some k = u.ownBlock)) (hR : d.R e w' 0 (fun k => some k = u.ownBlock ∨ w.heap.size ≤ k) v1 L') (hR2 : d2.R e2 w' 0 (fun k => some k = u.ownBlock ∨ w.heap.size ≤ k) v2 K) : St w0 F0 P0 (rowT d e v1 L' :: rowT d2 e2 v2 K :: ts) w' := by
  obtain ⟨F1, P1, h1, hf⟩ := St.part (ts1 := [rowT d e u L]) h
  refine hf w' [rowT d e v1 L', rowT d2 e2 v2 K] ?_
  obtain ⟨F, ⟨G1, G2, g1, g2, g3, g4⟩, hm⟩ := h1
  have hFu : ∀ k, F k ↔ u.ownBlock = some k := fun k => by rw [g1]; exact ⟨fun a => a.elim (g2.1 k).mp (fun b => (g4 k b).elim), fun a => .inl ((g2.1 k).mpr a)⟩
  have hN := Kd.R_N (Kd.R_tight hE hR)
  have hN2 := Kd.R_N (Kd.R_tight hE2 hR2)
  have hd : ∀ k, v1.ownBlock = some k → ¬ v2.ownBlock = some k := fun k a b => by
    obtain ⟨-, -, -, q1, hq1, c1, hc1⟩ := (Kd.R_bound hR).1 k a
    obtain ⟨-, -, -, q2, hq2, c2, hc2⟩ := (Kd.R_bound hR2).1 k b
    rw [hE] at hq1
    rw [hE2] at hq2
    simp only [List.mem_singleton] at hq1 hq2
    rw [hc1] at hc2
    injection hc2 with hc2
    injection hc2 with _ h5
    exact hne (by rw [← hq1, ← hq2]; exact h5)
  refine ⟨⟨fun k => v1.ownBlock = some k ∨ v2.ownBlock = some k, ⟨fun k => v1.ownBlock = some k, fun k => v2.ownBlock = some k, fun k => Iff.rfl, ⟨fun k => Iff.rfl, Kd.N_mono hN (fun k a => .inl a.symm)⟩, hd, fun k => v2.ownBlock = some k, fun _ => False, fun k => by simp, ⟨fun k => Iff.rfl, Kd.N_mono hN2 (fun k a => .inl a.symm)⟩, fun k a => id, fun k => id⟩, ⟨hb.1, hb.2.1, hb.2.2, hk.1, fun k hk1 hF => hk.2 k hk1 (fun a => hF ?_), fun k a => ?_⟩⟩⟩
  · have := hm.fresh k ((hFu k).mpr a.symm)
    rcases this with c | c
    · exact c
    · omega
  · have hp : some k = u.ownBlock ∨ w.heap.size ≤ k := a.elim (hR.1 k) (hR2.1 k)
    rcases hp with c | c
    · exact hm.fresh k ((hFu k).mpr c.symm)
    · exact .inr c
end
end Go.Proofs.Ytldkdndgnojepaa.Own
namespace Go.Proofs.Ytldkdndgnojepaa.PRef13
open Go.RowKit Go.Proofs.YtldkdndgnojepaaW.PrintWords Go.Proofs.YtldkdndgnojepaaW.PrintLast Go.Proofs.YtldkdndgnojepaaW.PrintMore
attribute [local go_sem] max2_int min2_int max_two min_two max_three min_three max_four min_four   -- for this text's walks alone
set_option linter.unusedVariables false
set_option linter.unusedSimpArgs false



def errW : Option Int → Value
  | none => .nilIface
  | some c => .iface 0 (.int .i64 c)
theorem errW_none : errW none = .nilIface := rfl
theorem errW_some (c : Int) : errW (some c) = .iface 0 (.int .i64 c) := rfl

theorem info3 : (Try.prog.info? 3).map (fun i => (i.zero, i.size, i.bytes)) = some (some (.int .i64 0), 1, 8) := by kernel_rfl
theorem info67 : (Try.prog.info? 67).map (fun i => (i.zero, i.size, i.bytes)) = some (some (.agg #[(.int .i64 0), (.int .i64 0)]), 2, 16) := by kernel_rfl
-- the values' own types
/-! #### struct type 67 -/
structure S67 where
  f0 : Int
  f1 : Int
def z67 : S67 := ⟨(0 : Int), (0 : Int)⟩
def k67 : Kd S67 := Kd.iso (Kd.pair (Kd.int .i64) (Kd.int .i64)) (fun x : S67 => (x.f0, x.f1))
theorem k67_open {w : World} {x : S67} {cs : List Value} (h : k67.K w x cs) : cs = [.int .i64 x.f0, .int .i64 x.f1] := by
  obtain ⟨_, _, rfl, rfl, rfl⟩ := h
  exact rfl
theorem k67_openM {w : World} {base : Nat} {ok : Nat → Prop} {x : S67} {cs : List Value} (h : k67.M w base ok x cs) : cs = [.int .i64 x.f0, .int .i64 x.f1] := by
  obtain ⟨_, _, rfl, rfl, rfl⟩ := h
  exact rfl
theorem k67_mk (w : World) (x : S67)  : k67.K w x [.int .i64 x.f0, .int .i64 x.f1] := ⟨[.int .i64 x.f0], [.int .i64 x.f1], rfl, rfl, rfl⟩
theorem k67_mkM (w : World) (base : Nat) (ok : Nat → Prop) (x : S67)  : k67.M w base ok x [.int .i64 x.f0, .int .i64 x.f1] := ⟨[.int .i64 x.f0], [.int .i64 x.f1], rfl, rfl, rfl⟩
def rd_T67 (xs : List S67) (i : Int) : S67 := xs.getD i.toNat z67
theorem at_T67 {w : World} {A : Option Addr} {n : Nat} {xs : List S67} (h : Kd.C k67 w A n xs) (i : Int) (h0 : 0 ≤ i) (h1 : i < n) : ∃ ad , A = some ad ∧ w.cell? (ad.add (i.toNat * 2)) = some (.int .i64 (rd_T67 xs i).f0) ∧ w.cell? ⟨(ad.add (i.toNat * 2)).block, (ad.add (i.toNat * 2)).off + 1, none⟩ = some (.int .i64 (rd_T67 xs i).f1) := by
  obtain ⟨ad, c, e, _, hK, hc0⟩ := Kd.C_get h z67 i h0 h1
  have hc : ∀ j u, c[j]? = some u → w.cell? (ad.add (i.toNat * 2 + j)) = some u := hc0
  obtain rfl := k67_open hK
  exact ⟨ad, e, hc 0 _ rfl, by rw [← add_field _ _ 1 (by omega)]; exact hc 1 _ rfl⟩

end Go.Proofs.Ytldkdndgnojepaa.PRef13
