/- Heap: all timers, in order. No condition. -/
import Derived.Test.YtkbjihnkbfjhmaaIter3
namespace Go.Proofs.Ytkbjihnkbfjhmaa.Heap
open Go Go.Proofs Go.RowKit Go.Shelf Go.Proofs.Ytkbjihnkbfjhmaa.Own Go.Proofs.YtkbjihnkbfjhmaaW.PrintWords Go.Proofs.YtkbjihnkbfjhmaaW.PrintLast Go.Proofs.YtkbjihnkbfjhmaaW.PrintMore
set_option linter.unusedVariables false
set_option linter.unusedSimpArgs false
def freeF : Fence := { fn := fun _ => True }
theorem appendSeq_calls (Bs : Nat) (A : Option Addr) (c : Nat) (zs : List Tm) (hsm : zs.length ≤ 1000000) (w : World) (hBs : Bs < w.heap.size)
    (hc : w.cell? ⟨Bs, 0, none⟩ = some (.slice A zs.length c)) (hR : kTm.C w A zs.length zs) :
    Calls Try.prog 38 #[.slice none 0 0, .func (.func 36) #[] #[.pointer (some ⟨Bs, 0, none⟩)]] w fun e W' => ∃ v, e = .returned v ∧ W'.ownsRow w.heap.size 23 3 v zs.length (flat zs) ∧ Below w.heap.size w W' :=
  (appendSeq_in freeF 4 trivial trivial rfl (by omega) Bs A c zs hsm w hBs hc (fun W' h => Kd.C_below hR h)).calls (fun k => by simp [Fence.room, freeF])
theorem values_calls (a : Option Addr) (len cap : Nat) (w : World) :
    Calls Try.prog 27 #[.slice a len cap] w fun e w' => e = .returned (.func (.func 36) #[] #[.pointer (some ⟨w.heap.size, 0, none⟩)]) ∧ w' = w.alloc (.cells #[.slice a len cap] 27) :=
  (values_in freeF 4 trivial rfl a len cap w).calls (fun k => by simp [Fence.room, freeF])
theorem collect_calls (Bs : Nat) (A : Option Addr) (c : Nat) (zs : List Tm) (hsm : zs.length ≤ 1000000) (w : World) (hBs : Bs < w.heap.size)
    (hc : w.cell? ⟨Bs, 0, none⟩ = some (.slice A zs.length c)) (hR : kTm.C w A zs.length zs) :
    Calls Try.prog 34 #[.func (.func 36) #[] #[.pointer (some ⟨Bs, 0, none⟩)]] w fun e W' => ∃ v, e = .returned v ∧ W'.ownsRow w.heap.size 23 3 v zs.length (flat zs) ∧ Below w.heap.size w W' := by
  have hap := appendSeq_calls Bs A c zs hsm w hBs hc hR
  clear hc hR
  go_enter Try.func34, Try.ntmps34
  go_wp2_with (go_at_call 38; (with_reducible refine hap.mono ?_); rintro e w' ⟨v, rfl, hO, hB⟩)
  go_ret
  exact ⟨v, rfl, hO, hB⟩
theorem sorted_calls (Bs : Nat) (A : Option Addr) (c : Nat) (zs : List Tm) (hsm : zs.length ≤ 1000000) (w : World) (hBs : Bs < w.heap.size)
    (hc : w.cell? ⟨Bs, 0, none⟩ = some (.slice A zs.length c)) (hR : kTm.C w A zs.length zs) :
    Calls Try.prog 26 #[.func (.func 36) #[] #[.pointer (some ⟨Bs, 0, none⟩)], .func (.func 10) #[] #[]] w fun e W' => ∃ v, e = .returned v ∧ W'.ownsRow w.heap.size 23 3 v zs.length (flat (sortL zs)) ∧ Below w.heap.size w W' := by
  have hap := collect_calls Bs A c zs hsm w hBs hc hR
  clear hc hR
  go_enter Try.func26, Try.ntmps26
  go_wp2_with (first | (go_at_call 34; (with_reducible refine hap.mono ?_); rintro e w1 ⟨v, rfl, hO, hB⟩; have hso := sort_calls w1 w.heap.size v zs hsm hO) | (go_at_call 35; (with_reducible refine hso.mono ?_); rintro e w2 ⟨rfl, hO2, hB2⟩))
  go_ret
  exact ⟨v, rfl, hO2, hB.trans hB2⟩
theorem M_of (w : World) (base : Nat) (ok : Nat → Prop) (x : Tm) : kTm.M w base ok x x.cells := ⟨[_], [_, _], rfl, rfl, [_], [_], rfl, rfl, rfl⟩
theorem reps_flat : ∀ (l : List Tm) (R : Tm → List Value → Prop), (∀ x, R x x.cells) → Reps R 3 l (flat l)
  | l, R, hR => by
    refine ⟨flat_len l, fun j p hp => ?_⟩
    have hj : j < l.length := (List.getElem?_eq_some_iff.mp hp).1
    have e : ((flat l).drop (j * 3)).take 3 = p.cells := by
      have h1 : ∀ (l : List Tm) (j : Nat) (p : Tm), l[j]? = some p → ((flat l).drop (j * 3)).take 3 = p.cells := by
        intro l
        induction l with
        | nil => intro j p h; simp at h
        | cons x l ih =>
          intro j p h
          have e0 : flat (x :: l) = x.cells ++ flat l := by simp [flat]
          rw [e0]
          cases j with
          | zero => simp at h; subst h; simp [Tm.cells]
          | succ j =>
            have e1 : (j + 1) * 3 = x.cells.length + j * 3 := by rw [cells_len]; omega
            rw [e1, List.drop_append, List.drop_of_length_le (by omega)]
            simp at h
            simpa using ih j p h
      exact h1 l j p hp
    rw [e]; exact hR p
theorem R_of {w : World} {base : Nat} {v : Value} {l : List Tm} (h : w.ownsRow base 23 3 v l.length (flat l)) : kTm.R 23 w base (fun _ => True) v l :=
  ⟨fun _ _ => trivial, flat l, h, reps_flat l _ (fun x => M_of _ _ _ x)⟩
section
variable {w0 w w' : World} {F0 P0 : Nat → Prop} {ts : List Thing} {p eB : Nat} {cells : Array Value} {v : Value} {l : List Tm}
theorem all_st (h : St w0 F0 P0 (boxT p eB cells :: rowT kTm 23 v l :: ts) w) (hv : cells[0]? = some v) (hlen : l.length ≤ 1000000) :
    Calls Try.prog 14 #[.pointer (some ⟨p, 0, none⟩)] w fun e w' => ∃ v', e = .returned v' ∧ w'.ownsRow w.heap.size 23 3 v' l.length (flat (sortL l)) ∧ Below w.heap.size w w' := by
  obtain ⟨A, c, rfl⟩ := h.drop.slice
  obtain ⟨-, -, hC⟩ := h.drop.reads
  obtain ⟨ch, -⟩ := h.box_cell 0 _ hv
  have hso := sorted_calls w.heap.size A c l hlen (w.alloc (.cells #[.slice A l.length c] 27)) (by simp) (Boxed.new w 27 (.slice A l.length c)).cell (Kd.C_alloc hC _)
  have hva := values_calls A l.length c w
  have hB0 : Below w.heap.size w (w.alloc (.cells #[.slice A l.length c] 27)) := (Below.refl _ w).alloc (Nat.le_refl _) _
  clear hC h
  go_enter Try.func14, Try.ntmps14
  go_wp2_with (first | (go_at_call 27; (with_reducible refine hva.mono ?_); rintro e w1 ⟨rfl, rfl⟩) | (go_at_call 26; (with_reducible refine hso.mono ?_); rintro e w2 ⟨v2, rfl, hO2, hB2⟩))
  go_ret
  exact ⟨v2, rfl, own_weaken hO2 (by simp), hB0.trans (hB2.mono (by simp))⟩
theorem all_none (w : World) :
    Calls Try.prog 14 #[.pointer none] w fun e w' => e = .returned (.slice none 0 0) ∧ w' = w := by
  go_enter Try.func14, Try.ntmps14
  go_wp2
  go_ret
  exact ⟨rfl, rfl⟩
theorem Hp.all (h : Hp w0 F0 P0 p l ts w) (hlen : l.length ≤ 1000000) :
    Calls Try.prog 14 #[.pointer (some ⟨p, 0, none⟩)] w fun e w' => ∃ A c, e = .returned (.slice A l.length c) ∧ l.length ≤ c ∧ Hp w0 F0 P0 p l (valT (fun W => kTm.C W A (sortL l).length (sortL l)) :: ts) w' := by
  obtain ⟨v, h⟩ := h
  refine (all_st h rfl hlen).mono ?_
  rintro e w' ⟨v', rfl, hO, hB⟩
  have hO2 : w'.ownsRow w.heap.size 23 3 v' (sortL l).length (flat (sortL l)) := by rw [sortL_len]; exact hO
  have hS := h.got (R_of hO2) hB (Nat.le_refl _)
  obtain ⟨A, c, rfl⟩ := hS.slice
  obtain ⟨-, hc, hV⟩ := hS.freeze
  refine ⟨A, c, by rw [sortL_len], by rw [← sortL_len]; exact hc, v, hV.nth2.nth2⟩
end
end Go.Proofs.Ytkbjihnkbfjhmaa.Heap
