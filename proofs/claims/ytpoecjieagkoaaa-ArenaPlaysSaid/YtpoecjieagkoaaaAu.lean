/- Arena: what its methods answer, and what they do to its memory. No condition. -/
import Derived.Test.YtpoecjieagkoaaaAt
namespace Go.Proofs.Ytpoecjieagkoaaa.Arena
open Go Go.ChangeMaps Go.RowKit Go.Proofs.YtpoecjieagkoaaaW.PrintWords Go.Proofs.YtpoecjieagkoaaaW.PrintLast Go.Proofs.YtpoecjieagkoaaaW.PrintMore
set_option linter.unusedVariables false
set_option linter.unusedSimpArgs false
section
variable {w w' w1 : World} {F F' : List Nat} {p m g : Nat} {fv : Value} {s : St}
theorem info3 : (Try.prog.info? 3).map (fun i => (i.zero, i.size, i.bytes)) = some (some (.int .i64 0), 1, 8) := by kernel_rfl
theorem Take_none (w : World) : Calls Try.prog 11 #[.pointer none] w fun e w' => e = .returned (.tuple #[.int .i64 0, .int .i64 0, .bool false]) ∧ w' = w := by
  go_enter Try.func11, Try.ntmps11
  go_wp2
  go_ret3
  exact ⟨rfl, rfl⟩
theorem Free_none (w : World) (x : Int) : Calls Try.prog 12 #[.pointer none, .int .i64 x] w fun e w' => e = .returned (.bool false) ∧ w' = w := by
  go_enter Try.func12, Try.ntmps12
  go_wp2_with (go_at_call 14; refine (Live_none _ _).mono ?_; rintro e w3 ⟨rfl, rfl⟩)
  go_ret
  exact ⟨rfl, rfl⟩
theorem Is.own (h : Is w F p s m g fv) (k : Nat) (hk : fv.ownBlock = some k) : k ∈ F ∧ k ≠ g ∧ k ≠ p ∧ k ≠ m := by
  have h1 := h.hf.1 k hk
  obtain ⟨cells, hc⟩ := Kd.R_typed h.hf k hk
  refine ⟨h1.1, h1.2, ?_, ?_⟩
  · rintro rfl; rw [h.hp] at hc; simp at hc
  · rintro rfl; rw [h.hm] at hc; cases hc
theorem Is.append (h : Is w F p s m g fv) {v1 : Value} {l : List Int} (hr : Kd.R (Kd.int .i64) 3 w1 0 (fun k => k ≠ g ∧ (k ∈ F ∨ w.heap.size ≤ k)) v1 l) (hg : w.grownBy w1 fv.ownBlock) :
    Is (w1.setCell ⟨p, 2, none⟩ v1) (F ++ v1.ownBlock.toList) p { s with freed := l } m g v1 ∧ Moved F (F ++ v1.ownBlock.toList) w (w1.setCell ⟨p, 2, none⟩ v1) := by
  have keep : ∀ k, k ∈ F → (∀ j, fv.ownBlock = some j → k ≠ j) → w1.heap[k]? = w.heap[k]? := fun k hk hj => hg.block k (h.lt k hk) (fun e => hj k e.symm rfl)
  have hp1 := (keep p h.pF (fun j hj => Ne.symm (h.own j hj).2.2.1)).trans h.hp
  have hm1 := (keep m h.mF (fun j hj => Ne.symm (h.own j hj).2.2.2)).trans h.hm
  have hg1 := (keep g h.gF (fun j hj => Ne.symm (h.own j hj).2.1)).trans h.hg
  have hr1 : Kd.R (Kd.int .i64) 3 w1 0 (fun k => k ∈ F ++ v1.ownBlock.toList ∧ k ≠ g) v1 l :=
    Kd.R_of_own (Kd.own_of_R hr) (fun k hk => ⟨List.mem_append_right _ (by rw [hk]; simp), (hr.1 k hk).1⟩)
  refine ⟨⟨by simp [World.setCell, Array.getElem?_modify, hp1], (Below.heap_setCell w1 _ _ _ h.ne_m).trans hm1, (Below.heap_setCell w1 _ _ _ h.ne_g).trans hg1, Kd.R_set hr1 hp1 (by simp [Kd.int, Kd.scalar]) 2 _,
    List.mem_append_left _ h.pF, List.mem_append_left _ h.mF, List.mem_append_left _ h.gF, fun k hk => ?_⟩, ⟨hg.os, hg.tape, hg.output, by simpa using hg.size, fun k hk hF => ?_, fun k hk => ?_⟩⟩
  · have hz : (w1.setCell ⟨p, 2, none⟩ v1).heap.size = w1.heap.size := by simp
    rw [hz]
    rcases List.mem_append.mp hk with hk | hk
    · exact Nat.lt_of_lt_of_le (h.lt k hk) hg.size
    · exact Kd.R_lt hr1 k (by simpa [Option.mem_toList] using hk)
  · exact (Below.heap_setCell w1 _ _ _ (by rintro rfl; exact hF h.pF)).trans (hg.block k hk (fun e => hF (h.own k e.symm).1))
  · rcases List.mem_append.mp hk with hk | hk
    · exact .inl hk
    · rcases (hr.1 k (by simpa [Option.mem_toList] using hk)).2 with h3 | h3
      · exact .inl h3
      · exact .inr h3
theorem Is.cell2 (h : Is w F p s m g fv) (hg : w.grownBy w1 fv.ownBlock) : w1.cell? ⟨p, 2, none⟩ = some fv ∧ w1.frozen? ⟨p, 2, none⟩ = false := by
  have hp1 := (hg.block p (h.lt p h.pF) (fun e => (h.own p e.symm).2.2.1 rfl)).trans h.hp
  constructor
  · simp [World.cell?, hp1]
  · simp [World.frozen?, hp1]
def freeS (s : St) (x : Int) : St := if has s.live x then { s with live := del s.live x, freed := s.freed ++ [x] } else s
theorem free_calls (h : Is w F p s m g fv) (x : Int) (hl : s.freed.length ≤ 1000000) :
    Calls Try.prog 12 #[.pointer (some ⟨p, 0, none⟩), .int .i64 x] w fun e w' => e = .returned (.bool (has s.live x)) ∧ ∃ F', (∃ fv', Is w' F' p (freeS s x) m g fv') ∧ Moved F F' w w' := by
  have hc := Live_calls h x
  unfold freeS
  cases hx : has s.live x with
  | false =>
    rw [hx] at hc
    have h' := Aside0.mk h
    clear h
    go_enter Try.func12, Try.ntmps12
    go_wp2_with (go_at_call 14; refine hc.mono ?_; rintro e w3 ⟨rfl, rfl⟩)
    go_ret
    exact ⟨rfl, F, ⟨fv, h'.out⟩, Moved.refl _ _⟩
  | true =>
    rw [hx] at hc
    have hd := delete_ents h.hm x hx
    have hI4 := h.setMap (del s.live x) s.clock
    have hM4 : Moved F F w _ := Moved.setB h.mF (.map (ents (del s.live x)) s.clock)
    obtain ⟨c0, c1, c2, c3, c4⟩ := h.cell
    generalize setBlock w m (.map (ents (del s.live x)) s.clock) = w4 at hd hI4 hM4
    obtain ⟨e0, e1, e2, e3, e4⟩ := hI4.cell
    obtain ⟨Af, cf, hfv⟩ := Kd.R_slice hI4.hf
    have zf := hI4.froz 2
    have HI := Aside0.mk hI4
    have HM := Aside0.mk hM4
    clear hI4 hM4 h
    rw [if_pos rfl]
    subst hfv
    go_enter Try.func12, Try.ntmps12
    go_wp2_with (first | (go_at_call 14; refine hc.mono ?_; rintro e w3 ⟨rfl, rfl⟩) | ((with_reducible refine gate_builtin (b := .append) (xs := #[.tmp 18, .tmp 20]) rfl ?_); at_builtin; refine Kd.R_append (Kd.int .i64) (w0 := w4) 0 rfl (.tmp 18) (.tmp 20) 30 3 (.int .i64 0) 8 rfl Try.underlying30 info3 rfl (by decide) (by omega) (.slice Af s.freed.length cf) s.freed x [.int .i64 x] (fun k => k ≠ g ∧ (k ∈ F ∨ w4.heap.size ≤ k)) (fun _ => False) rfl rfl ?aP (fun _ hk => hk.elim) ?aF ?aO ?aB ?aS ?aL ?_; (case aP => exact rfl); (case aB => exact Below.refl _ _); (case aF => exact (fun k hk => ⟨fun e => by have := HI.out.lt g HI.out.gF; omega, .inr hk⟩)); (case aO => exact Kd.R_mono HI.out.hf (fun k hk => ⟨hk.2, .inl hk.1⟩)); (case aS => exact Nat.zero_le _); (case aL => omega); intro v1 w8 ho hb hg hat; obtain ⟨k2, k3⟩ := HI.out.cell2 hg; obtain ⟨A9, c9, hv9⟩ := Kd.R_slice ho; subst hv9; have HO := Aside0.mk ho; have HG := Aside0.mk hg; clear ho hb hg hat))
    go_ret
    obtain ⟨h1, h2⟩ := HI.out.append (l := s.freed ++ [x]) HO.out HG.out
    have hlen : (s.freed ++ [x]).length = s.freed.length + 1 := by simp
    rw [hlen] at h1 h2
    exact ⟨rfl, _, ⟨_, h1⟩, HM.out.trans h2⟩
def newS (room : Int) : St := { room := room, ever := 0, freed := [], live := [], clock := 0, gens := List.replicate (room + 1).toNat 0 }
theorem new_bad (room : Int) (hr : room < 1 ∨ room > 64) (w : World) : Calls Try.prog 10 #[.int .i64 room] w fun e w' => e = .returned (.tuple #[.pointer none, .int .i64 1]) ∧ w' = w := by
  by_cases h1 : room < 1
  · have e1 : decide (room < 1) = true := decide_eq_true h1
    go_enter Try.func10, Try.ntmps10
    go_wp2
    go_ret2
    exact ⟨rfl, rfl⟩
  · have e1 : decide (room < 1) = false := decide_eq_false h1
    have e2 : decide (64 < room) = true := decide_eq_true (by omega)
    go_enter Try.func10, Try.ntmps10
    go_wp2
    go_ret2
    exact ⟨rfl, rfl⟩
theorem make_run (n : Int) (h0 : 0 ≤ n) (h1 : n ≤ 1000000) : ∀ W : World, (Instr.makeSlice 30 (.int .i64 n) (.int .i64 n)).run Try.prog W = .ok (.slice (some ⟨W.heap.size, 0, none⟩) n.toNat n.toNat) (W.alloc (.cells (nums .i64 (List.replicate n.toNat 0)).toArray 3)) := by
  intro W
  obtain ⟨i0, hi, hzz⟩ := Option.map_eq_some_iff.1 info3
  simp only [Prod.mk.injEq] at hzz
  obtain ⟨hz0, hz1, hz2⟩ := hzz
  have hr := run_make (P := Try.prog) (w := W) 30 3 i0 (.int .i64 0) Try.underlying30 hi hz0 .i64 .i64 n n h0 (by omega) (by rw [hz2]; omega) (by omega)
  have e : madeCells (Value.int .i64 0).cells (n.toNat * i0.size) = (nums .i64 (List.replicate n.toNat 0)).toArray := by
    rw [hz1, Nat.mul_one]
    apply Array.ext
    · simp [madeCells, nums]
    · intro i h1 h2
      have hi1 : i % 1 = 0 := Nat.mod_one i
      simp [madeCells, nums, Value.cells, hi1]
  rw [e] at hr
  exact hr
theorem push_2 (h : Array Obj) (a b c : Obj) : (((h.push a).push b).push c)[h.size + 2]? = some c := by rw [Array.getElem?_push, if_pos (by simp)]
theorem push_1 (h : Array Obj) (a b c : Obj) : (((h.push a).push b).push c)[h.size + 1]? = some b := by rw [Array.getElem?_push, if_neg (by simp), Array.getElem?_push, if_pos (by simp)]
theorem push_0 (h : Array Obj) (a b c : Obj) : (((h.push a).push b).push c)[h.size]? = some a := by rw [Array.getElem?_push, if_neg (by simp; omega), Array.getElem?_push, if_neg (by simp), Array.getElem?_push, if_pos rfl]
theorem map_run : ∀ W : World, (Instr.makeMap 49 none).run Try.prog W = .ok (.map (some W.heap.size)) (W.alloc (.map #[] 0)) := by
  intro W
  rfl
theorem new_calls (room : Int) (hr : 1 ≤ room ∧ room ≤ 64) (w : World) : Calls Try.prog 10 #[.int .i64 room] w fun e w' => ∃ p, e = .returned (.tuple #[.pointer (some ⟨p, 0, none⟩), .int .i64 0]) ∧ (∃ F m g fv, Is w' F p (newS room) m g fv ∧ (∀ k ∈ F, w.heap.size ≤ k)) ∧ Below w.heap.size w w' := by
  have e1 : decide (room < 1) = false := decide_eq_false (by omega)
  have e2 : decide (64 < room) = false := decide_eq_false (by omega)
  have e3 : wrap64 (room + 1) = room + 1 := by unfold wrap64; omega
  have hm := make_run (room + 1) (by omega) (by omega)
  have hmm := map_run
  go_enter Try.func10, Try.ntmps10
  go_wp2
  go_ret2
  refine ⟨_, rfl, ⟨[w.heap.size + 2, w.heap.size, w.heap.size + 1], w.heap.size, w.heap.size + 1, .slice none 0 0, ⟨?_, ?_, ?_, Kd.R_nil _ _ _ _ _, ?_, ?_, ?_, ?_⟩, ?_⟩, below_alloc (below_alloc (below_alloc (Below.refl _ _) _) _) _⟩
  · refine (push_2 w.heap _ _ _).trans ?_
    simp [newS]
  · exact push_0 w.heap _ _ _
  · exact push_1 w.heap _ _ _
  · simp
  · simp
  · simp
  · intro k hk
    simp at hk
    show k < (((w.heap.push _).push _).push _).size
    simp
    omega
  · intro k hk
    simp at hk
    omega
end
end Go.Proofs.Ytpoecjieagkoaaa.Arena
