/- Heap: a new one; the document's example. No condition. -/
import Derived.Test.YtkbjihnkbfjhmaaHeap7
import Derived.Test.YtkbjihnkbfjhmaaXOpen
namespace Go.Proofs.Ytkbjihnkbfjhmaa.Heap
open Go Go.RowKit Go.Proofs.Ytkbjihnkbfjhmaa.Own Go.Proofs.YtkbjihnkbfjhmaaW.PrintWords Go.Proofs.YtkbjihnkbfjhmaaW.PrintLast Go.Proofs.YtkbjihnkbfjhmaaW.PrintMore
set_option linter.unusedVariables false
set_option linter.unusedSimpArgs false
/-- A heap of a law's own, behind its pointer. -/
def Hp (w0 : World) (F0 P0 : Nat → Prop) (p : Nat) (l : List Tm) (ts : List Thing) (w : World) : Prop := ∃ v, St w0 F0 P0 (boxT p 30 #[v] :: rowT kTm 23 v l :: ts) w
section
variable {w0 w w' : World} {F0 P0 : Nat → Prop} {ts : List Thing} {p : Nat} {l : List Tm}
theorem Hp.new (h : St w0 F0 P0 ts w) : Hp w0 F0 P0 w.heap.size [] ts (w.alloc (.cells #[.slice none 0 0] 30)) := ⟨.slice none 0 0, ((h.box _ _).nil kTm 23).swap⟩
theorem Hp.below (h : Hp w0 F0 P0 p l ts w) (hb : Below w.heap.size w w') : Hp w0 F0 P0 p l ts w' := by
  obtain ⟨v, h⟩ := h
  exact ⟨v, h.below hb⟩
theorem Hp.drewN (h : Hp w0 F0 P0 p l ts w) (n : Nat) : Hp w0 F0 P0 p l ts (w.drewN n) := h.below (pw_below_drewN (Below.refl _ _) n)
theorem Hp.bel (h : Hp w0 (fun _ => False) P0 p l ts w) : Below w0.heap.size w0 w := by
  obtain ⟨v, h⟩ := h
  exact h.bel
theorem Hp.push (h : Hp w0 F0 P0 p l ts w) (hlen : l.length ≤ 100000) (x : Tm) {l' : List Tm} (hl : pushL l x = l') :
    Calls Try.prog 11 #[.pointer (some ⟨p, 0, none⟩), .agg #[.int .i64 x.t, .int .i64 x.s, .int .i64 x.g]] w fun e w' => e = .returned (.tuple #[]) ∧ Hp w0 F0 P0 p l' ts w' := by
  subst hl
  obtain ⟨v, h⟩ := h
  refine (push_st h rfl hlen x).mono ?_
  rintro e w' ⟨rfl, v', h'⟩
  exact ⟨rfl, v', h'⟩
theorem Hp.first_nil (h : Hp w0 F0 P0 p [] ts w) :
    Calls Try.prog 15 #[.pointer (some ⟨p, 0, none⟩)] w fun e w' => e = .returned (.tuple #[zeroTm.agg, .bool false]) ∧ Hp w0 F0 P0 p [] ts w' := by
  obtain ⟨v, h⟩ := h
  refine (Heap.first_nil h rfl).mono ?_
  rintro e w' ⟨rfl, hb⟩
  exact ⟨rfl, v, h.below hb⟩
theorem Hp.first_cons {x : Tm} (h : Hp w0 F0 P0 p (x :: l) ts w) (hlen : l.length ≤ 100000) :
    Calls Try.prog 15 #[.pointer (some ⟨p, 0, none⟩)] w fun e w' => e = .returned (.tuple #[x.agg, .bool true]) ∧ Hp w0 F0 P0 p (x :: l) ts w' := by
  obtain ⟨v, h⟩ := h
  refine (Heap.first_cons h rfl (by omega)).mono ?_
  rintro e w' ⟨rfl, hb⟩
  exact ⟨rfl, v, h.below hb⟩
theorem Hp.pop_nil (h : Hp w0 F0 P0 p [] ts w) :
    Calls Try.prog 12 #[.pointer (some ⟨p, 0, none⟩)] w fun e w' => e = .returned (.tuple #[zeroTm.agg, .bool false]) ∧ Hp w0 F0 P0 p [] ts w' := by
  obtain ⟨v, h⟩ := h
  refine (Heap.pop_nil h rfl).mono ?_
  rintro e w' ⟨rfl, h'⟩
  exact ⟨rfl, v, h'⟩
theorem Hp.pop_cons {x : Tm} (h : Hp w0 F0 P0 p (x :: l) ts w) (hlen : l.length ≤ 100000) :
    Calls Try.prog 12 #[.pointer (some ⟨p, 0, none⟩)] w fun e w' => e = .returned (.tuple #[x.agg, .bool true]) ∧ Hp w0 F0 P0 p (popL (x :: l)) ts w' := by
  obtain ⟨v, h⟩ := h
  refine (Heap.pop_cons h rfl hlen).mono ?_
  rintro e w' ⟨rfl, v', h'⟩
  exact ⟨rfl, v', h'⟩
theorem Hp.len (h : Hp w0 F0 P0 p l ts w) {n : Int} (hn : (l.length : Int) = n) :
    Calls Try.prog 13 #[.pointer (some ⟨p, 0, none⟩)] w fun e w' => e = .returned (.int .i64 n) ∧ w' = w := by
  subst hn
  obtain ⟨v, h⟩ := h
  obtain ⟨A, c, rfl⟩ := h.drop.slice
  exact len_st h rfl
end
set_option maxHeartbeats 1000000 in
theorem shown_calls (w : World) : Calls Try.prog 9 #[] w fun e w' => e = .returned (.bool true) ∧ Below w.heap.size w w' := by
  have HS := Aside0.mk (Hp.new (St.start w (fun _ => True)))
  go_enter Try.func9, Try.ntmps9
  go_wp2_with (first | (go_at_call 11; (with_reducible refine (HS.out.push (by decide) ⟨5, 0, 1⟩ (l' := [⟨5, 0, 1⟩]) (by decide +kernel)).mono ?_); rintro e w1 ⟨rfl, hS⟩; have HS1 := Aside0.mk hS; clear hS HS) | (go_at_call 11; (with_reducible refine (HS1.out.push (by decide) ⟨3, 0, 2⟩ (l' := [⟨3, 0, 2⟩, ⟨5, 0, 1⟩]) (by decide +kernel)).mono ?_); rintro e w2 ⟨rfl, hS⟩; have HS2 := Aside0.mk hS; clear hS HS1) | (go_at_call 15; (with_reducible refine (HS2.out.first_cons (by decide)).mono ?_); rintro e w3 ⟨rfl, hS⟩; unfold Tm.agg; have HS3 := Aside0.mk (hS.below (below_alloc (Below.refl _ _) (.cells #[.int .i64 3, .int .i64 0, .int .i64 2] 23))); clear hS HS2) | (go_at_call 13; (with_reducible refine (HS3.out.len (n := 2) (by decide)).mono ?_); rintro e w4 ⟨rfl, rfl⟩))
  go_ret
  exact ⟨rfl, HS3.out.bel⟩
theorem opTm : Go.Proofs.YtkbjihnkbfjhmaaX.Opens Try.prog 23 kTm (fun x => (Lit.int .i64 x.t).wf = true ∧ (Lit.int .i64 x.s).wf = true ∧ (Lit.int .i64 x.g).wf = true) :=
  Go.Proofs.YtkbjihnkbfjhmaaX.Opens.imp (Go.Proofs.YtkbjihnkbfjhmaaX.Opens.struct (fun x : Tm => (x.t, x.s, x.g)) (fun p => ⟨p.1, p.2.1, p.2.2⟩) (fun _ => rfl) Try.underlying23 (by kernel_rfl) (Go.Proofs.YtkbjihnkbfjhmaaX.OpensF.cons rfl (by kernel_rfl) (Go.Proofs.YtkbjihnkbfjhmaaX.Opens.int Try.underlying2) (Go.Proofs.YtkbjihnkbfjhmaaX.OpensF.cons rfl (by kernel_rfl) (Go.Proofs.YtkbjihnkbfjhmaaX.Opens.int Try.underlying2) (Go.Proofs.YtkbjihnkbfjhmaaX.OpensF.one rfl (by kernel_rfl) (Go.Proofs.YtkbjihnkbfjhmaaX.Opens.int Try.underlying3))))) (fun a h => by simpa using h)
end Go.Proofs.Ytkbjihnkbfjhmaa.Heap
