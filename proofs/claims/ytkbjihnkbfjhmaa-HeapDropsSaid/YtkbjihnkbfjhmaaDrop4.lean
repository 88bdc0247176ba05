/- Heap: Drop. No condition. -/
import Derived.Test.YtkbjihnkbfjhmaaDrop3
namespace Go.Proofs.Ytkbjihnkbfjhmaa.Heap
open Go Go.Proofs Go.RowKit Go.Shelf Go.Proofs.Ytkbjihnkbfjhmaa.Own Go.Proofs.YtkbjihnkbfjhmaaW.PrintWords Go.Proofs.YtkbjihnkbfjhmaaW.PrintLast Go.Proofs.YtkbjihnkbfjhmaaW.PrintMore
set_option linter.unusedVariables false
set_option linter.unusedSimpArgs false
def heapify : Nat → List Tm → List Tm
  | 0, l => l
  | k + 1, l => heapify k (downL (l.length + 1) l k)
theorem heapify_len : ∀ (k : Nat) (l : List Tm), (heapify k l).length = l.length
  | 0, _ => rfl
  | k + 1, l => by rw [heapify, heapify_len, downL_len]
theorem heapify_perm : ∀ (k : Nat) (l : List Tm), (heapify k l).Perm l
  | 0, _ => .refl _
  | k + 1, l => (heapify_perm k _).trans (down_perm _ _ _)
def dropL (g : Int) (l : List Tm) : List Tm := heapify ((dropG g l).length / 2) (dropG g l)
section
variable {w0 w w' : World} {F0 P0 : Nat → Prop} {ts : List Thing} {p eB : Nat} {cells : Array Value} {v : Value} {l : List Tm}
theorem down_eq {i : Nat} {x : Int} (h : St w0 F0 P0 (boxT p eB cells :: rowT kTm 23 v l :: ts) w) (hv : cells[0]? = some v) (hi : i ≤ l.length) (hlen : l.length ≤ 1000000) (hx : x = (i : Int)) :
    Calls Try.prog 25 #[.pointer (some ⟨p, 0, none⟩), .int .i64 x] w fun e w' => e = .returned (.tuple #[]) ∧ St w0 F0 P0 (boxT p eB cells :: rowT kTm 23 v (downL (l.length + 1) l i) :: ts) w' := by
  subst hx
  exact down_st h hv hi hlen
theorem drop_none (g : Int) (w : World) :
    Calls Try.prog 16 #[.pointer none, .int .i64 g] w fun e w' => e = .returned (.int .i64 0) ∧ Below w.heap.size w w' := by
  go_enter Try.func16, Try.ntmps16
  go_wp2
  go_ret
  exact ⟨rfl, below_alloc (Below.refl _ _) _⟩
set_option maxRecDepth 100000 in
set_option maxHeartbeats 4000000 in
theorem drop_st (h : St w0 F0 P0 (boxT p eB cells :: rowT kTm 23 v l :: ts) w) (hv : cells[0]? = some v) (hlen : l.length ≤ 100000) (g : Int) (n : Int) (hn : (l.length : Int) - ((dropG g l).length : Int) = n) :
    Calls Try.prog 16 #[.pointer (some ⟨p, 0, none⟩), .int .i64 g] w fun e w' => e = .returned (.int .i64 n) ∧ ∃ v', St w0 F0 P0 (boxT p eB (cells.setIfInBounds 0 v') :: rowT kTm 23 v' (dropL g l) :: ts) w' := by
  obtain ⟨A, c, hvs⟩ := h.drop.slice
  have HS := Aside0.mk (h.box #[.int .i64 g] 3).rot.rot
  have hch := (HS.out.drop.drop.box_cell 0 _ hv).1
  have hch0 := (h.box_cell 0 _ hv).1
  have HV := Aside0.mk hv
  have HZ : ∀ u : Value, (cells.setIfInBounds 0 u)[0]? = some u := fun u => by
    have h0 := (Array.getElem?_eq_some_iff.mp HV.out).1
    simp [h0]
  have HZ := Aside0.mk HZ
  have HLEN := Aside0.mk (show l.length ≤ 1000000 by omega)
  have HDL := Aside0.mk (dropG_len g l)
  have HN := Aside0.mk hn
  have p0 : (l.length : Int) ≤ 100000 := by omega
  subst hvs
  clear h hv hn
  go_enter Try.func16, Try.ntmps16
  go_wp2_with (go_at_call 29; go_loud ((with_reducible refine (delete_st HS.out HLEN.out).mono ?_); rintro e w1 ⟨v1, rfl, hS⟩; obtain ⟨A1, c1, hv1⟩ := hS.slice; subst hv1; have hk := hS.drop.drop.box_cell 0 _ HV.out; obtain ⟨k0, k1⟩ := hk; have HS1 := Aside0.mk (hS.swap.drop.swap.box_set 0 (.slice A1 (dropG g l).length c1)); clear hS HS))
  obtain ⟨m, hm⟩ : ∃ m, (dropG g l).length = m := ⟨_, rfl⟩
  have HM := Aside0.mk hm
  obtain ⟨dl, hdl⟩ : ∃ dl, dropG g l = dl := ⟨_, rfl⟩
  have HDL2 := Aside0.mk hdl
  rw [hm] at HS1 HN ⊢
  rw [hdl] at HS1
  have m0 : (m : Int) ≤ 100000 := by have := HDL.out; omega
  have w1e : wrap64 (wrap64 ((m : Int) / 2) - 1) = ((m / 2 : Nat) : Int) - 1 := by
    have h1 : wrap64 ((m : Int) / 2) = (m : Int) / 2 := by unfold wrap64; omega
    rw [h1]
    unfold wrap64
    omega
  rw [w1e]
  clear w1e hm hdl
  go_loopg [7] (m / 2 + 1) (fun kq v7 w' => ∃ (k : Nat) (l' : List Tm), v7 = .int .i64 ((k : Int) - 1) ∧ Aside0 (kq = k + 1 ∧ k ≤ m / 2 ∧ l'.length = m ∧ heapify k l' = dropL g l) ∧ Aside0 (St w0 F0 P0 (boxT p eB (cells.setIfInBounds 0 (.slice A1 m c1)) :: rowT kTm 23 (.slice A1 m c1) l' :: ts) w'))
  case atStart => exact ⟨m / 2, dl, rfl, ⟨rfl, Nat.le_refl _, by rw [← HDL2.out]; exact HM.out, by unfold dropL; rw [HM.out, HDL2.out]⟩, HS1⟩
  case round =>
    clear HS1
    obtain ⟨k, l', rfl, HK, HS⟩ := hrel
    cases gk with
    | zero => exact absurd HK.out.1 (by omega)
    | succ k1 =>
      have hz := (HS.out.box_cell 0 _ (HZ.out _)).1
      cases k with
      | zero =>
        have HE := Aside0.mk (show l' = dropL g l from HK.out.2.2.2)
        have c1 : decide ((0 : Int) ≤ -1) = false := rfl
        go_wp2
        go_ret
        exact ⟨by rw [← HN.out]; rfl, _, by rw [← HE.out]; exact HS.out⟩
      | succ k =>
        have c1 : decide ((0 : Int) ≤ (k : Int)) = true := decide_eq_true (by omega)
        have e1 : ((k + 1 : Nat) : Int) - 1 = (k : Int) := by omega
        rw [e1]
        have q0 : (k : Int) ≤ 100000 := by have := HK.out.2.1; omega
        have q1 : (0 : Int) ≤ (k : Int) := by omega
        have HIK := Aside0.mk (show k ≤ l'.length ∧ l'.length ≤ 1000000 by have := HK.out; omega)
        go_wp2_with (go_at_call 25; go_loud ((with_reducible refine (down_eq (x := (k : Int)) HS.out (HZ.out _) HIK.out.1 HIK.out.2 rfl).mono ?_); rintro e w2 ⟨rfl, hS⟩; have HS2 := Aside0.mk hS; clear hS HS))
        go_roundg k1
        case measure => have := HK.out; omega
        case rel => exact ⟨k, downL (l'.length + 1) l' k, by first | rfl | go_num, ⟨by have := HK.out; omega, by have := HK.out; omega, by rw [downL_len]; exact HK.out.2.2.1, HK.out.2.2.2⟩, HS2⟩
end
end Go.Proofs.Ytkbjihnkbfjhmaa.Heap
