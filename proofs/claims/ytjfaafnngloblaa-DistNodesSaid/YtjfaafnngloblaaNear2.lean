/- Who is near: the sort, in memory. No condition. -/
import Derived.Test.YtjfaafnngloblaaNearP
import Derived.Test.YtjfaafnngloblaaEvO
import Derived.Test.YtjfaafnngloblaaUp3
import Derived.Test.YtjfaafnngloblaaSorts
import Derived.Lib.OwnBridge
namespace Go.Proofs.Ytjfaafnngloblaa.Ev
open Go Go.Proofs Go.Sort
set_option linter.unusedVariables false
set_option linter.unusedSimpArgs false
set_option maxRecDepth 100000
theorem okx0 : OKX P X0 := fun f g args r h => by cases h
theorem low0 : Low X0 := fun _ _ => rfl
/-- What a call on values alone gives, a number. -/
theorem Gv.pcI {P : Program} {X : Prims} (hX : OKX P X) {f : FuncId} {args : List AV} {x : Value} (h : Gv P X f args (.v x)) (ha : args.all d2 = true) (hs : args.map s2 = args) : PC P f args (.v x) := by
  obtain ⟨k, hk⟩ := h
  obtain ⟨r0, S, T, h0, hd, hr⟩ := hk k (Nat.le_refl _)
  have hr0 : r0 = .v x := by
    cases r0 with
    | v x => simpa [s3, s2, s1, s0] using hr
    | _ => simp [s3, s2, s1, s0] at hr
  subst hr0
  exact FC.pure (evF_sound hX k f args [] [] _ S T h0).2 ha (fun i hi => by
    have h2 := congrArg (fun l => l.getD i .dead) hs
    simpa [List.getD_eq_getElem?_getD, hi] using h2) hd
theorem sw_keep {α : Type} [Inhabited α] (enc : α → Value) (W : World) (g q : Nat) (dk : Array α) (os : Array Obj) : Keep (fun k => k = g) W (Go.Proofs.sortWorld enc W g 0 q dk os) := by
  have hs : (putRow enc (Sort.ahead W q) g 0 dk).heap.size = W.heap.size := by simp [putRow, mapBlock, Sort.ahead]
  refine ⟨rfl, rfl, rfl, by simp [Go.Proofs.sortWorld, hs], fun k hk hne => ?_⟩
  simp only [Go.Proofs.sortWorld]
  rw [heap_grow_old _ _ (by omega)]
  simp [putRow, mapBlock, Sort.ahead, Array.getElem?_modify, Ne.symm hne]
theorem closure_at {t : List SVtx} {p n x y : Int} {Z : Zs} {W : World} {bt bp bn : Nat} {vt : Value} (ht : t.length ≤ 1000) (hx : 0 ≤ x ∧ x < n) (hy : 0 ≤ y ∧ y < n) (hp : 0 ≤ p ∧ p < n) (hn : n ≤ 1000000)
    (hz : ∀ b o, Z b o → b < W.heap.size) (hD : DR Z W (encT t) vt) (ct : W.cell? ⟨bt, 0, none⟩ = some vt) (cp : W.cell? ⟨bp, 0, none⟩ = some (.int .i64 p)) (cn : W.cell? ⟨bn, 0, none⟩ = some (.int .i64 n)) :
    Calls P 30 #[.int .i64 x, .int .i64 y, .pointer (some ⟨bt, 0, none⟩), .pointer (some ⟨bp, 0, none⟩), .pointer (some ⟨bn, 0, none⟩)] W fun e w' => e = .returned (.int .i64 (cf t n p x y)) ∧ Go.RowKit.Below W.heap.size W w' := by
  have hpc := (closure_g low0 t p n x y ht hx hy hp hn).pcI okx0 rfl rfl
  have E : ZExt Z (fun b o => Z b o ∨ (o = 0 ∧ (b = bt ∨ b = bp ∨ b = bn))) W W := ⟨fun b o h => .inl h, fun _ _ _ => rfl⟩
  have he : ∀ (a : AV) (b : Nat) (v : Value), (b = bt ∨ b = bp ∨ b = bn) → W.cell? ⟨b, 0, none⟩ = some v → DR (fun b o => Z b o ∨ (o = 0 ∧ (b = bt ∨ b = bp ∨ b = bn))) W a v → DR (fun b o => Z b o ∨ (o = 0 ∧ (b = bt ∨ b = bp ∨ b = bn))) W (.ea [a]) (.pointer (some ⟨b, 0, none⟩)) := by
    intro a b v hb hc hd
    refine .ea [a] b 0 (fun _ => v) (fun j hj => ?_) (fun j hj => ?_)
    · obtain rfl : j = 0 := by simpa using hj
      exact ⟨.inr ⟨rfl, hb⟩, hc⟩
    · obtain rfl : j = 0 := by simpa using hj
      exact hd
  refine (hpc (fun b o => Z b o ∨ (o = 0 ∧ (b = bt ∨ b = bp ∨ b = bn))) W _ ?_ rfl ?_).mono ?_
  · rintro b o (h | ⟨rfl, rfl | rfl | rfl⟩)
    · exact hz b o h
    · exact World.block_lt_of_cell? W _ ct
    · exact World.block_lt_of_cell? W _ cp
    · exact World.block_lt_of_cell? W _ cn
  · intro i hi
    match i, hi with
    | 0, _ => exact .v _ rfl
    | 1, _ => exact .v _ rfl
    | 2, _ => exact he _ _ _ (.inl rfl) ct (DR.ext E hD)
    | 3, _ => exact he _ _ _ (.inr (.inl rfl)) cp (.v _ rfl)
    | 4, _ => exact he _ _ _ (.inr (.inr rfl)) cn (.v _ rfl)
  · rintro e w' ⟨v, Z', rfl, G, _, _, _, hv⟩
    cases hv
    exact ⟨rfl, ⟨G.os, G.tape, G.output, G.size, fun k hk => G.old hk⟩⟩
theorem sort_run {t : List SVtx} {p : Int} {n : Nat} {Z : Zs} {W : World} {bt bp bn : Nat} {vt v : Value} (ht : t.length ≤ 1000) (hp : 0 ≤ p ∧ p < n) (hn : n ≤ 1000)
    (hz : ∀ b o, Z b o → b < W.heap.size) (hD : DR Z W (encT t) vt) (ct : W.cell? ⟨bt, 0, none⟩ = some vt) (cp : W.cell? ⟨bp, 0, none⟩ = some (.int .i64 p)) (cn : W.cell? ⟨bn, 0, none⟩ = some (.int .i64 n))
    (hrow : W.ownsRow 0 3 1 v (others p n).length ((others p n).map (Value.int .i64))) (hZg : ∀ g c k, v = .slice (some ⟨g, 0, none⟩) k c → 0 < k → (∀ o, ¬ Z g o) ∧ g ≠ bt ∧ g ≠ bp ∧ g ≠ bn) :
    Calls P 29 #[v, .func (.func 30) #[] #[.pointer (some ⟨bt, 0, none⟩), .pointer (some ⟨bp, 0, none⟩), .pointer (some ⟨bn, 0, none⟩)]] W fun e w' =>
      e = .returned (.tuple #[]) ∧ w'.ownsRow 0 3 1 v (others p n).length ((sorted n p t).map (Value.int .i64)) ∧ Keep (fun k => v.ownBlock = some k) W w' := by
  have eg : ∀ args w, (callFunc 30 args).run P w = .ok (.enter 30 args) w := enters_of Try.func30 (by kernel_rfl) rfl
  haveI : Inhabited (Q n) := ⟨⟨p, hp⟩⟩
  rcases Nat.eq_zero_or_pos (others p n).length with h0 | h0
  · obtain ⟨A1, c1, rfl⟩ : ∃ A c, v = .slice A 0 c := by
      rcases hrow.2 with ⟨rfl, _⟩ | ⟨g, cap, cur, rfl, _⟩
      · exact ⟨_, _, rfl⟩
      · rw [h0]; exact ⟨_, _, rfl⟩
    refine (Go.Proofs.AnyF.slices_SortFunc_none (P := P) (ρ := Try.sortL_ren) { Try.sortL with } A1 c1 (.func (.func 30) #[] #[.pointer (some ⟨bt, 0, none⟩), .pointer (some ⟨bp, 0, none⟩), .pointer (some ⟨bn, 0, none⟩)]) W).mono ?_
    rintro e w' ⟨rfl, rfl⟩
    have hnil : others p n = [] := List.eq_nil_of_length_eq_zero h0
    refine ⟨rfl, ?_, .refl _ _⟩
    have : sorted n p t = [] := by simp [sorted, hnil]
    rw [this, ← hnil]
    exact hrow
  · obtain ⟨g, cap, cur, rfl, hrow'⟩ : ∃ g cap cur, v = .slice (some ⟨g, 0, none⟩) (others p n).length cap ∧ W.heap[g]? = some (.cells cur 3 (0, 0)) := by
      rcases hrow.2 with ⟨_, h⟩ | ⟨g, cap, cur, h1, _, h2, _⟩
      · omega
      · exact ⟨g, cap, cur, h1, h2⟩
    obtain ⟨hg1, hg2, hg3, hg4⟩ := hZg g cap _ rfl h0
    obtain ⟨d, hd⟩ := lift n (others p n) fun x hx => by have := others_mem.mp hx; omega
    have hlen : d.length = (others p n).length := by rw [← hd, List.length_map]
    have henc : (others p n).map (Value.int .i64) = d.map enc := by rw [← hd, List.map_map]; rfl
    rw [henc] at hrow
    obtain ⟨g', cap', hv', -, hgW, -, -, -, hH⟩ := Go.Lib.holds_of_ownsRow hrow (by simp)
    have hgg : g' = g ∧ cap' = cap := by
      simp only [Value.slice.injEq, Option.some.injEq, Addr.mk.injEq] at hv'
      exact ⟨hv'.1.1.symm, hv'.2.2.symm⟩
    obtain ⟨rfl, rfl⟩ := hgg
    clear hv'
    have hcmp : Go.Proofs.CmpLays1 P 30 #[.pointer (some ⟨bt, 0, none⟩), .pointer (some ⟨bp, 0, none⟩), .pointer (some ⟨bn, 0, none⟩)] enc (fun x y : Q n => cf t n p x.1 y.1) g' 0 d.toArray.size W := by
      intro m os dk hdk x y
      have hS := sw_keep (enc (n := n)) W g' m dk os
      have hx := x.2
      have hy := y.2
      have hcell : ∀ b o, b ≠ g' → b < W.heap.size → (Go.Proofs.sortWorld (enc (n := n)) W g' 0 m dk os).cell? ⟨b, o, none⟩ = W.cell? ⟨b, o, none⟩ := fun b o hb hlt => World.cell?_of_block (w := W) (hS.block b hlt hb)
      refine Go.Proofs.Ytjfaafnngloblaa.Up.calls_grown ?_
      exact closure_at ht hx hy hp (by omega) (fun b o h => Nat.lt_of_lt_of_le (hz b o h) hS.size)
        (DR.ext ⟨fun _ _ h => h, fun b o h => hcell b o (fun hb => hg1 o (hb ▸ h)) (hz b o h)⟩ hD)
        ((hcell bt 0 (Ne.symm hg2) (World.block_lt_of_cell? W _ ct)).trans ct) ((hcell bp 0 (Ne.symm hg3) (World.block_lt_of_cell? W _ cp)).trans cp) ((hcell bn 0 (Ne.symm hg4) (World.block_lt_of_cell? W _ cn)).trans cn)
    have hS := Go.Proofs.Any.slices_SortFunc_total (P := P) Try.sortL enc (fun _ => rfl) (fun x y : Q n => cf t n p x.1 y.1) (swo n p t) 30 #[.pointer (some ⟨bt, 0, none⟩), .pointer (some ⟨bp, 0, none⟩), .pointer (some ⟨bn, 0, none⟩)] g' 0 cap' d.toArray W eg hcmp hH hgW
      (by have := @others_len p n; simp; omega) (tot n p hp t)
    have hsz : d.toArray.size = (others p n).length := by simp [hlen]
    rw [hsz] at hS
    refine Calls.mono hS ?_
    rintro e w' ⟨rfl, q, os, rfl⟩
    have hms := sort_map n p t d
    rw [hd] at hms
    have hl2 : (d.mergeSort fun x y => !(Go.Proofs.ltOf (fun x y : Q n => cf t n p x.1 y.1)) y x).length = (others p n).length := by rw [List.length_mergeSort, hlen]
    have ho := Go.Lib.ownsRow_putRow (q := q) hrow hl2 (Nat.le_refl _)
    rw [List.take_of_length_le (by omega)] at ho
    refine ⟨rfl, ?_, ?_⟩
    · have e1 : (sorted n p t).map (Value.int .i64) = (d.mergeSort fun x y => !(Go.Proofs.ltOf (fun x y : Q n => cf t n p x.1 y.1)) y x).map enc := by
        have e2 : sorted n p t = (d.mergeSort fun x y => !(Go.Proofs.ltOf (fun x y : Q n => cf t n p x.1 y.1)) y x).map (·.1) := hms.symm
        rw [e2, List.map_map]
        rfl
      rw [e1]
      refine ⟨ho.1, ?_⟩
      rcases ho.2 with h | ⟨g, cap, cur, h1, h2, h3, h4⟩
      · exact .inl h
      · refine .inr ⟨g, cap, cur, h1, h2, ?_, h4⟩
        simp only [Go.Proofs.sortWorld]
        rw [heap_grow_old]
        · exact h3
        · rcases Nat.lt_or_ge g (putRow (enc (n := n)) (Sort.ahead W q) g' 0 (d.mergeSort fun x y => !(Go.Proofs.ltOf (fun x y : Q n => cf t n p x.1 y.1)) y x).toArray).heap.size with h | h
          · exact h
          · rw [Array.getElem?_eq_none h] at h3; cases h3
    · have hk := sw_keep (enc (n := n)) W g' q (d.toArray.toList.mergeSort fun x y => !(Go.Proofs.ltOf (fun x y : Q n => cf t n p x.1 y.1)) y x).toArray os
      exact ⟨hk.os, hk.tape, hk.output, hk.size, fun k h1 h2 => hk.block k h1 (fun h => h2 (by rw [h]; rfl))⟩
end Go.Proofs.Ytjfaafnngloblaa.Ev
