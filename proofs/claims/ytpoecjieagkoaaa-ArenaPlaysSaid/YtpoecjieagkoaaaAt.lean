/- Arena: what its methods answer, and what they do to its memory. No condition. -/
import Derived.Test.YtpoecjieagkoaaaAs
namespace Go.Proofs.Ytpoecjieagkoaaa.Arena
open Go Go.ChangeMaps Go.RowKit Go.Proofs.YtpoecjieagkoaaaW.PrintWords Go.Proofs.YtpoecjieagkoaaaW.PrintLast Go.Proofs.YtpoecjieagkoaaaW.PrintMore
set_option linter.unusedVariables false
set_option linter.unusedSimpArgs false
section
variable {w w' : World} {F F' : List Nat} {p m g : Nat} {fv : Value} {s : St}
theorem Is.ne_m (h : Is w F p s m g fv) : m ≠ p := by rintro rfl; have := h.hp.symm.trans h.hm; cases this
theorem Is.ne_g (h : Is w F p s m g fv) : g ≠ p := by rintro rfl; have := h.hp.symm.trans h.hg; simp at this
theorem Is.ne_mg (h : Is w F p s m g fv) : m ≠ g := by rintro rfl; have := h.hm.symm.trans h.hg; cases this
theorem Moved.set (h : p ∈ F) (j : Nat) (u : Value) : Moved F F w (w.setCell ⟨p, j, none⟩ u) :=
  ⟨rfl, rfl, rfl, by simp, fun k _ hF => Below.heap_setCell w _ u k (by rintro rfl; exact hF h), fun _ h => .inl h⟩
theorem Moved.of_drewN {n : Nat} (h : Moved F F' (w.drewN n) w') : Moved F F' w w' := ⟨h.os, h.tape, h.output, h.size, h.block, h.fresh⟩
theorem Is.lt_set (h : Is w F p s m g fv) (q j : Nat) (u : Value) : ∀ k ∈ F, k < (w.setCell ⟨q, j, none⟩ u).heap.size := fun k hk => by simpa using h.lt k hk
theorem Is.setEver (h : Is w F p s m g fv) (n : Int) : Is (w.setCell ⟨p, 1, none⟩ (.int .i64 n)) F p { s with ever := n } m g fv :=
  ⟨by simp [World.setCell, Array.getElem?_modify, h.hp], (Below.heap_setCell w _ _ _ h.ne_m).trans h.hm, (Below.heap_setCell w _ _ _ h.ne_g).trans h.hg,
    Kd.R_set h.hf h.hp (by simp [Kd.int, Kd.scalar]) 1 _, h.pF, h.mF, h.gF, h.lt_set _ _ _⟩
theorem Is.setFreed (h : Is w F p s m g fv) (v : Value) (l : List Int) (hr : Kd.R (Kd.int .i64) 3 w 0 (fun k => k ∈ F ∧ k ≠ g) v l) : Is (w.setCell ⟨p, 2, none⟩ v) F p { s with freed := l } m g v :=
  ⟨by simp [World.setCell, Array.getElem?_modify, h.hp], (Below.heap_setCell w _ _ _ h.ne_m).trans h.hm, (Below.heap_setCell w _ _ _ h.ne_g).trans h.hg,
    Kd.R_set hr h.hp (by simp [Kd.int, Kd.scalar]) 2 _, h.pF, h.mF, h.gF, h.lt_set _ _ _⟩

theorem Is.froz (h : Is w F p s m g fv) (j : Nat) : w.frozen? ⟨p, j, none⟩ = false := by simp [World.frozen?, h.hp]
def pickG (s : St) : Int := if s.freed = [] then (if s.ever = s.room then 0 else s.ever + 1) else rd s.freed (s.freed.length - 1 : Int)
def pickS (s : St) : St := if s.freed = [] then (if s.ever = s.room then s else { s with ever := s.ever + 1 }) else { s with freed := s.freed.take (s.freed.length - 1) }
theorem pick_calls (h : Is w F p s m g fv) (hl : s.freed.length ≤ 1000000) (he : 0 ≤ s.ever ∧ s.ever ≤ 1000000) :
    Calls Try.prog 21 #[.pointer (some ⟨p, 0, none⟩)] w fun e w' => e = .returned (.int .i64 (pickG s)) ∧ (∃ fv', Is w' F p (pickS s) m g fv') ∧ Moved F F w w' := by
  obtain ⟨c0, c1, c2, c3, c4⟩ := h.cell
  have z1 := h.froz 1
  have z2 := h.froz 2
  by_cases hf : s.freed = []
  · obtain ⟨A, c, hv⟩ := Kd.R_slice h.hf
    rw [hf] at hv
    subst hv
    have h' := Aside0.mk h
    clear h
    unfold pickG pickS
    rw [if_pos hf, if_pos hf]
    by_cases hr : s.ever = s.room
    · have e1 : (s.ever == s.room) = true := beq_iff_eq.mpr hr
      rw [if_pos hr, if_pos hr]
      go_enter Try.func21, Try.ntmps21
      go_wp2
      go_quiet (fail)
      go_wp2
      go_ret
      exact ⟨rfl, ⟨_, h'.out.drewN _⟩, (Moved.refl F w).drawn ⟨_, rfl⟩⟩
    · have e1 : (s.ever == s.room) = false := beq_eq_false_iff_ne.mpr hr
      have e2 : wrap64 (s.ever + 1) = s.ever + 1 := by unfold wrap64; omega
      rw [if_neg hr, if_neg hr]
      go_enter Try.func21, Try.ntmps21
      go_wp2
      go_quiet (fail)
      go_wp2
      go_ret
      exact ⟨rfl, ⟨_, (h'.out.drewN _).setEver _⟩, (Moved.set (h'.out.pF) 1 _).of_drewN⟩
  · have hpos : 0 < s.freed.length := by cases hs : s.freed with
      | nil => exact absurd hs hf
      | cons a b => simp
    obtain ⟨q, c, hv, -, hq, -⟩ := Kd.R_form h.hf hpos
    subst hv
    have hc := Kd.R_celln (0 : Int) h.hf ((s.freed.length : Int) - 1) (by omega) (by omega)
    have hle := (Kd.R_reads' h.hf).2.1
    have hrd : rdOf (0 : Int) s.freed ((s.freed.length : Int) - 1) = rd s.freed ((s.freed.length : Int) - 1) := rfl
    rw [hrd] at hc
    have hn : ((s.freed.length : Int) - 1).toNat = s.freed.length - 1 := by omega
    rw [hn] at hc
    obtain ⟨hc1, hc2⟩ := hc
    have e2 : wrap64 ((s.freed.length : Int) - 1) = (s.freed.length : Int) - 1 := by unfold wrap64; omega
    have e3 : (0 : Int) ≤ (s.freed.length : Int) - 1 := by omega
    have e4 : (s.freed.length : Int) - 1 < (s.freed.length : Int) := by omega
    have e5 : (s.freed.length : Int) - 1 ≤ (c : Int) := by omega
    have ht := Kd.R_take h.hf (m := s.freed.length - 1) (by omega)
    have h' := Aside0.mk h
    have ht' := Aside0.mk ht
    clear h ht
    unfold pickG pickS
    rw [if_neg hf, if_neg hf]
    go_enter Try.func21, Try.ntmps21
    go_wp2
    go_ret
    exact ⟨rfl, ⟨_, h'.out.setFreed _ _ ht'.out⟩, Moved.set h'.out.pF 2 _⟩
theorem heap_setBlock (w : World) (b : Nat) (o : Obj) (k : Nat) (h : k ≠ b) : (setBlock w b o).heap[k]? = w.heap[k]? := by
  simp [setBlock, Array.getElem?_setIfInBounds, Ne.symm h]
theorem Is.setMap (h : Is w F p s m g fv) (l : List (Int × Nat)) (c : Nat) : Is (setBlock w m (.map (ents l) c)) F p { s with live := l, clock := c } m g fv := by
  refine ⟨(heap_setBlock _ _ _ _ (Ne.symm h.ne_m)).trans h.hp, ?_, (heap_setBlock _ _ _ _ (Ne.symm h.ne_mg)).trans h.hg, ?_, h.pF, h.mF, h.gF, fun k hk => by have := h.lt k hk; simpa [setBlock] using this⟩
  · have := h.lt m h.mF
    simp [setBlock, this]
  · refine Kd.R_mono (Kd.R_move (Kd.R_bound h.hf) (fun k hk => heap_setBlock _ _ _ _ ?_)) (fun _ hk => hk.1)
    rintro rfl
    obtain ⟨-, -, -, q, -, cells, hc⟩ := hk
    rw [h.hm] at hc
    cases hc
theorem Moved.setB (h : m ∈ F) (o : Obj) : Moved F F w (setBlock w m o) :=
  ⟨rfl, rfl, rfl, by simp [setBlock], fun k _ hF => heap_setBlock _ _ _ _ (by rintro rfl; exact hF h), fun _ h => .inl h⟩
theorem Moved.trans {F1 F2 F3 : List Nat} {w1 w2 w3 : World} (h : Moved F1 F2 w1 w2) (k : Moved F2 F3 w2 w3) : Moved F1 F3 w1 w3 :=
  ⟨k.os.trans h.os, k.tape.trans h.tape, k.output.trans h.output, Nat.le_trans h.size k.size, fun q hq hF => (k.block q (Nat.lt_of_lt_of_le hq h.size) (fun h2 => by rcases h.fresh q h2 with h3 | h3; exact hF h3; omega)).trans (h.block q hq hF),
    fun q hq => by rcases k.fresh q hq with h2 | h2; exact h.fresh q h2; exact .inr (Nat.le_trans h.size h2)⟩
theorem Is.setGen (h : Is w F p s m g fv) (i : Nat) (hi : i < s.gens.length) (v : Int) : Is (w.setCell ⟨g, i, none⟩ (.int .i64 v)) F p { s with gens := s.gens.set i v } m g fv := by
  refine ⟨?_, (Below.heap_setCell w _ _ _ h.ne_mg).trans h.hm, ?_, Kd.R_far h.hf (fun k hk => hk.2) _, h.pF, h.mF, h.gF, h.lt_set _ _ _⟩
  · rw [Below.heap_setCell w _ _ _ (Ne.symm h.ne_g), h.hp]; simp
  · simp [World.setCell, Array.getElem?_modify, h.hg, nums, List.map_set]
def takeS (s : St) : St := if pickG s = 0 then pickS s else { pickS s with live := s.live ++ [(pickG s, s.clock)], clock := s.clock + 1, gens := s.gens.set (pickG s).toNat (rd s.gens (pickG s) + 1) }
theorem pickS_live (s : St) : (pickS s).live = s.live ∧ (pickS s).clock = s.clock ∧ (pickS s).gens = s.gens := by
  unfold pickS
  split
  · split
    · exact ⟨rfl, rfl, rfl⟩
    · exact ⟨rfl, rfl, rfl⟩
  · exact ⟨rfl, rfl, rfl⟩
theorem take_calls (h : Is w F p s m g fv) (hl : s.freed.length ≤ 1000000) (he : 0 ≤ s.ever ∧ s.ever ≤ 1000000) (hfree : pickG s ≠ 0 → has s.live (pickG s) = false) (hr : pickG s ≠ 0 → 1 ≤ pickG s ∧ pickG s < s.gens.length) (hb : 0 ≤ rd s.gens (pickG s) ∧ rd s.gens (pickG s) ≤ 1000000) :
    Calls Try.prog 11 #[.pointer (some ⟨p, 0, none⟩)] w fun e w' => e = .returned (.tuple #[.int .i64 (pickG s), .int .i64 (if pickG s = 0 then 0 else rd s.gens (pickG s) + 1), .bool (decide (pickG s ≠ 0))]) ∧ (∃ fv', Is w' F p (takeS s) m g fv') ∧ Moved F F w w' := by
  have hc := pick_calls h hl he
  obtain ⟨q1, q2, q3⟩ := pickS_live s
  unfold takeS
  generalize pickG s = x at hc hfree hr hb ⊢
  generalize pickS s = s1 at hc q1 q2 q3 ⊢
  by_cases hx : x = 0
  · subst hx
    go_enter Try.func11, Try.ntmps11
    go_wp2_with (go_at_call 21; refine hc.mono ?_; rintro e w3 ⟨rfl, ⟨fv3, hI⟩, hM⟩; have HI := Aside0.mk hI; have HM := Aside0.mk hM; clear hI hM)
    go_ret3
    exact ⟨rfl, ⟨_, HI.out⟩, HM.out⟩
  · have hx1 : (x == 0) = false := beq_eq_false_iff_ne.mpr hx
    obtain ⟨r1, r2⟩ := hr hx
    rw [if_neg hx, if_neg hx, decide_eq_true hx]
    go_enter Try.func11, Try.ntmps11
    go_wp2_with (go_at_call 21; refine hc.mono ?_; rintro e w3 ⟨rfl, ⟨fv3, hI⟩, hM⟩; have hu := update_ents hI.hm x (by rw [q1]; exact hfree hx); have hI4 := hI.setMap (s1.live ++ [(x, s1.clock)]) (s1.clock + 1); have hM4 := hM.trans (Moved.setB hI.mF (.map (ents (s1.live ++ [(x, s1.clock)])) (s1.clock + 1))); obtain ⟨d0, d1, d2, d3, d4⟩ := hI.cell; generalize setBlock w3 m (.map (ents (s1.live ++ [(x, s1.clock)])) (s1.clock + 1)) = w4 at hu hI4 hM4; obtain ⟨e0, e1, e2, e3, e4⟩ := hI4.cell; obtain ⟨y1, y2⟩ := hI4.gen x (by omega) (by simp only [q3]; omega); have HI := Aside0.mk hI4; have HM := Aside0.mk hM4; clear hI hM hI4 hM4)
    have hlen : x.toNat < s1.gens.length := by rw [q3]; omega
    have hI5 := HI.out.setGen x.toNat hlen (rd s.gens x + 1)
    have hM5 := HM.out.trans (Moved.set HI.out.gF x.toNat (.int .i64 (rd s.gens x + 1)))
    obtain ⟨f0, f1, f2, f3, f4⟩ := hI5.cell
    obtain ⟨y3, y4⟩ := hI5.gen x (by omega) (by simp only [List.length_set]; omega)
    have hset : rd (s1.gens.set x.toNat (rd s.gens x + 1)) x = rd s.gens x + 1 := by
      show (s1.gens.set x.toNat _).getD x.toNat 0 = _
      rw [List.getD_eq_getElem?_getD, List.getElem?_set_self hlen]; rfl
    simp only [hset] at y3
    go_quiet (fail)
    go_wp2
    go_ret3
    refine ⟨rfl, ⟨fv3, ?_⟩, hM5.drawn ⟨nq, rfl⟩⟩
    have h6 := hI5.drewN nq
    simp only [q1, q2, q3] at h6 ⊢
    exact h6
end
end Go.Proofs.Ytpoecjieagkoaaa.Arena
