/- Timers handed through an iterator, and gathered again. No condition. -/
import Derived.Test.YtkbjihnkbfjhmaaHeap8
import Derived.RangeFuncNested
import Derived.RangeFuncBox
import Derived.RangeFuncLeaves
import Derived.Shelf.Abstract
import Derived.WalkKit
import Derived.OwnWalkIn
import Derived.TacticsInMore
import Derived.LoopNIn
import Derived.LoopIn
namespace Go.Proofs.Ytkbjihnkbfjhmaa.Heap
open Go Go.Proofs Go.RowKit Go.Shelf Go.Proofs.Ytkbjihnkbfjhmaa.Own Go.Proofs.YtkbjihnkbfjhmaaW.PrintWords Go.Proofs.YtkbjihnkbfjhmaaW.PrintLast Go.Proofs.YtkbjihnkbfjhmaaW.PrintMore
set_option linter.unusedVariables false
set_option linter.unusedSimpArgs false
attribute [local go_sem] Oper.semAt_some
theorem at_elem {w : World} {A : Option Addr} {l : List Tm} (h : kTm.C w A l.length l) {i : Nat} (hi : i < l.length) : ∃ ad, A = some ad ∧ w.cell? (ad.add (i * 3)) = some (.int .i64 l[i].t) ∧ w.cell? ⟨(ad.add (i * 3)).block, (ad.add (i * 3)).off + 1, none⟩ = some (.int .i64 l[i].s) ∧ w.cell? ⟨(ad.add (i * 3)).block, (ad.add (i * 3)).off + 2, none⟩ = some (.int .i64 l[i].g) := by
  obtain ⟨ad, cs, e1, hl, hK, hc⟩ := Kd.C_get h ⟨0, 0, 0⟩ (i : Int) (by omega) (by omega)
  have hx : l.getD (i : Int).toNat ⟨0, 0, 0⟩ = l[i] := by simp [List.getD_eq_getElem?_getD, List.getElem?_eq_getElem hi]
  rw [hx] at hK
  obtain rfl := kTm_open hK
  have h0 := hc 0 _ rfl
  have h1 := hc 1 _ rfl
  have h2 := hc 2 _ rfl
  rw [Int.toNat_natCast] at h0 h1 h2
  refine ⟨ad, e1, h0, ?_, ?_⟩
  · rw [← add_field _ _ 1 (by omega)]; exact h1
  · rw [← add_field _ _ 2 (by omega)]; exact h2
set_option maxRecDepth 100000 in
set_option maxHeartbeats 2000000 in
/-- slices.Values's closure, for every loop body that keeps what lay below n₀. -/
theorem values1_in (F : Fence) (n : Nat) (hF : F.fn 36) (hro : F.round = none) (hn : 1 ≤ n) (l Bs n₀ : Nat) (A : Option Addr) (c : Nat) (zs : List Tm) (hsm : zs.length ≤ 1000000) (J Jx : List Tm → World → Prop)
    (hY : ∀ pre x W, J pre W → pre.length < zs.length → YieldAt F (n - 1) Try.prog l #[Tm.agg x] W fun e W' =>
      (e = .returned (.bool true) ∧ J (pre ++ [x]) W' ∧ Below n₀ W W') ∨ (e = .returned (.bool false) ∧ Jx (pre ++ [x]) W'))
    (W : World) (hJ : AbidesFrom W.heap.size J) (hn0 : n₀ ≤ W.heap.size) (hBs : W.cell? ⟨Bs, 0, none⟩ = some (.slice A zs.length c)) (hR : ∀ W', Below n₀ W W' → kTm.C W' A zs.length zs) (h0 : J [] W) :
    CallsIn F n Try.prog 36 #[.func (.yield l) #[] #[], .pointer (some ⟨Bs, 0, none⟩)] W fun e W' => (∃ v, e = .returned v) ∧
      ((∃ ys, ys = zs ∧ J ys W') ∨ (∃ pre, pre <+: zs ∧ Jx pre W')) := by
  refine callsIn_of_wp Try.func36 rfl hF ?_ hro
  simp only [Try.ntmps36, List.size_toArray, List.length_cons, List.length_nil, Nat.reduceAdd, Nat.reduceSub, Array.replicate_succ, Array.replicate_zero, List.push_toArray, List.append_toArray, List.nil_append, List.cons_append]
  gi_wp2
  gi_loopw [4, 7] (fun _ i wr => ∃ k : Nat, k ≤ zs.length ∧ i = .int .i64 k ∧ Aside0 (J (zs.take k) wr) ∧ Aside0 (Below n₀ W wr)) (fun _ i _ => zs.length - (intOf i).toNat)
  case atStart => exact ⟨0, Nat.zero_le _, rfl, ⟨h0⟩, ⟨Below.refl _ _⟩⟩
  case round =>
    obtain ⟨k, hk, rfl, hJs, hnx⟩ := hrel
    by_cases hlt : k < zs.length
    · obtain ⟨ad, rfl, a0, a1, a2⟩ := at_elem (hR _ hnx.out) hlt
      have hJ1 := hJ (zs.take k) wr (wr.alloc (.cells #[.int .i64 zs[k].t, .int .i64 zs[k].s, .int .i64 zs[k].g] 23)) none hJs.out (World.grownBy_alloc wr _ none) (fun r e => by cases e)
      obtain ⟨fn, tmps, assign, body, hy, hR2⟩ := hY (zs.take k) zs[k] (wr.alloc (.cells #[.int .i64 zs[k].t, .int .i64 zs[k].s, .int .i64 zs[k].g] 23)) hJ1 (by rw [List.length_take]; omega)
      have hT := Aside0.mk (List.take_succ_eq_append_getElem hlt)
      have c1 : decide (k < zs.length) = true := decide_eq_true hlt
      have k0 : (0 : Int) ≤ (k : Int) := by omega
      have k1 : (k : Int) < (zs.length : Int) := by omega
      unfold Tm.agg at hy
      generalize zs[k] = x at a0 a1 a2 hy hR2 hT
      gi_wp2
      refine hR2.mono ?_
      rintro e W3 (⟨rfl, hJ3, hk3⟩ | ⟨rfl, hJx3⟩)
      · have hJ4 := Aside0.mk hJ3
        have hB4 := Aside0.mk (hnx.out.trans (((Below.refl n₀ wr).alloc (Nat.le_trans hn0 hnx.out.size) _).trans hk3))
        clear hJ3 hk3
        gi_wp2
        go_roundw
        case rel => exact ⟨k + 1, by omega, by simp, ⟨by rw [hT.out]; exact hJ4.out⟩, hB4⟩
        case measure => simp [intOf]; omega
      · have hJ4 := Aside0.mk hJx3
        clear hJx3
        gi_wp2
        refine bodyPost_ret (results_none rfl _ _ _) rfl ?_
        exact ⟨⟨_, rfl⟩, .inr ⟨zs.take (k + 1), List.take_prefix _ _, by rw [hT.out]; exact hJ4.out⟩⟩
    · obtain rfl : k = zs.length := by omega
      have c1 : decide (zs.length < zs.length) = false := decide_eq_false (by omega)
      gi_wp2
      go_end0
      exact ⟨⟨_, rfl⟩, .inl ⟨_, rfl, by have h := hJs.out; rwa [List.take_length] at h⟩⟩
/-- slices.Values(s): the slice is boxed; the function value captures the box. -/
theorem values_in (F : Fence) (n : Nat) (hF : F.fn 27) (hro : F.round = none) (a : Option Addr) (len cap : Nat) (w : World) :
    CallsIn F n Try.prog 27 #[.slice a len cap] w fun e w' => e = .returned (.func (.func 36) #[] #[.pointer (some ⟨w.heap.size, 0, none⟩)]) ∧ w' = w.alloc (.cells #[.slice a len cap] 27) := by
  refine callsIn_of_wp Try.func27 rfl hF ?_ hro
  simp only [Try.ntmps27, List.size_toArray, List.length_cons, List.length_nil, Nat.reduceAdd, Nat.reduceSub, Array.replicate_succ, Array.replicate_zero, List.push_toArray, List.append_toArray, List.nil_append, List.cons_append]
  gi_wp2
  go_ret
  exact ⟨rfl, rfl⟩
theorem values_stops (F : Fence) (n : Nat) (hF : F.fn 36) (hro : F.round = none) (hn : 1 ≤ n) (Bs n₀ : Nat) (A : Option Addr) (c : Nat) (zs : List Tm) (hsm : zs.length ≤ 1000000) (w : World) (hBs : Bs < w.heap.size) (hn₀ : n₀ ≤ w.heap.size)
    (hc : w.cell? ⟨Bs, 0, none⟩ = some (.slice A zs.length c)) (hR : ∀ W', Below n₀ w W' → kTm.C W' A zs.length zs) :
    SeqStopsK F n Try.prog 36 #[.pointer (some ⟨Bs, 0, none⟩)] (fun x : Tm => #[Tm.agg x]) (Below n₀) (fun ys => ys = zs) (fun pre => pre <+: zs) zs.length w := fun l J Jx W hW hJ hJx hY h0 => by
  have hc' := (hW.cell (p := ⟨Bs, 0, none⟩) hBs).trans hc
  exact values1_in F n hF hro hn l Bs n₀ A c zs hsm J Jx hY W hJ (Nat.le_trans hn₀ hW.size) hc' (fun W' h => hR W' ((hW.mono hn₀).trans h)) h0
end Go.Proofs.Ytkbjihnkbfjhmaa.Heap
