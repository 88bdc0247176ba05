/- Heap: all of one G are taken out. No condition. -/
import Derived.Test.YtkbjihnkbfjhmaaDrop2
namespace Go.Proofs.Ytkbjihnkbfjhmaa.Heap
open Go Go.Proofs Go.RowKit Go.Shelf Go.Proofs.Ytkbjihnkbfjhmaa.Own Go.Proofs.YtkbjihnkbfjhmaaW.PrintWords Go.Proofs.YtkbjihnkbfjhmaaW.PrintLast Go.Proofs.YtkbjihnkbfjhmaaW.PrintMore
set_option linter.unusedVariables false
set_option linter.unusedSimpArgs false
section
variable {w0 w w' : World} {F0 P0 : Nat → Prop} {ts : List Thing} {l : List Tm}
theorem put3 {g c i : Nat} {n : Nat} (h : St w0 F0 P0 (rowT kTm 23 (.slice (some ⟨g, 0, none⟩) n c) l :: ts) w) (hi : i < l.length) (x : Tm) :
    St w0 F0 P0 (rowT kTm 23 (.slice (some ⟨g, 0, none⟩) n c) (l.set i x) :: ts) (((w.setCell ⟨g, i * 3, none⟩ (.int .i64 x.t)).setCell ⟨g, i * 3 + 1, none⟩ (.int .i64 x.s)).setCell ⟨g, i * 3 + 2, none⟩ (.int .i64 x.g)) :=
  (St.put kTm (h.pure (fun W => kTm_mk W x)) hi).1
theorem cell3 {g c i : Nat} {n : Nat} (h : St w0 F0 P0 (rowT kTm 23 (.slice (some ⟨g, 0, none⟩) n c) l :: ts) w) (hi : i < l.length) :
    (w.cell? ⟨g, i * 3, none⟩ = some (.int .i64 l[i].t) ∧ w.cell? ⟨g, i * 3 + 1, none⟩ = some (.int .i64 l[i].s) ∧ w.cell? ⟨g, i * 3 + 2, none⟩ = some (.int .i64 l[i].g)) ∧ (w.frozen? ⟨g, i * 3, none⟩ = false ∧ w.frozen? ⟨g, i * 3 + 1, none⟩ = false ∧ w.frozen? ⟨g, i * 3 + 2, none⟩ = false) ∧ g < w.heap.size := by
  obtain ⟨-, cur, hb, -⟩ := St.put kTm (h.pure (fun W => kTm_mk W l[i])) hi
  obtain ⟨g', c', e1, a0, a1, a2⟩ := elem h hi
  injection e1 with e1
  injection e1 with e1
  injection e1 with e1
  subst e1
  exact ⟨⟨a0, a1, a2⟩, ⟨by simp [World.frozen?, hb], by simp [World.frozen?, hb], by simp [World.frozen?, hb]⟩, (Array.getElem?_eq_some_iff.mp hb).1⟩
set_option maxRecDepth 100000 in
set_option maxHeartbeats 4000000 in
theorem delete_st {v : Value} {g : Int} {gb : Nat} (h : St w0 F0 P0 (rowT kTm 23 v l :: boxT gb 3 #[.int .i64 g] :: ts) w) (hlen : l.length ≤ 1000000) :
    Calls Try.prog 29 #[v, .func (.func 28) #[] #[.pointer (some ⟨gb, 0, none⟩)]] w fun e w' => ∃ v', e = .returned v' ∧ St w0 F0 P0 (rowT kTm 23 v' (dropG g l) :: boxT gb 3 #[.int .i64 g] :: ts) w' := by
  have hg := (h.drop.box_cell 0 _ rfl).1
  have HS := Aside0.mk h
  obtain ⟨A, c, rfl⟩ := h.slice
  have hC := h.reads.2.2
  by_cases hf : fi g l < l.length
  · obtain ⟨g0, c', hv, -⟩ := elem h hf
    injection hv with hv1 _ hv2
    subst hv1 hv2
    have hix := index_calls (some ⟨g0, 0, none⟩) c l g gb hlen w hC hg (fi g l : Int) (by rw [if_pos hf])
    have hcap : l.length ≤ c := h.reads.2.1
    have HF := Aside0.mk hf
    have e1 : ((fi g l : Int) == -1) = false := beq_eq_false_iff_ne.mpr (by omega)
    have e2 : decide ((fi g l : Int) = -1) = false := decide_eq_false (by omega)
    obtain ⟨k0, hk0⟩ : ∃ k, fi g l = k := ⟨_, rfl⟩
    have HK0 := Aside0.mk hk0
    rw [hk0] at hix e1 e2
    have p9 : (k0 : Int) ≤ 1000000 := by omega
    clear h hg hC hf hk0
    go_enter Try.func29, Try.ntmps29
    go_wp2_with (go_at_call 37; (with_reducible refine hix.mono ?_); rintro e w1 ⟨rfl, hb⟩; have HS1 := Aside0.mk (HS.out.below hb); clear hb HS hix)
    clear e1 e2
    go_loopg [5, 6, 7] (l.length + 1) (fun kq v5 v6 v7 w' => ∃ (i j : Nat) (l' : List Tm), v5 = .int .i64 (i : Int) ∧ v6 = .int .i64 (j : Int) ∧ Aside0 (j + kq = l.length + 2 + k0 ∧ i < j ∧ j ≤ l.length ∧ l'.length = l.length ∧ l'.take i = dropG g (l.take j) ∧ l'.drop j = l.drop j) ∧ Aside0 (St w0 F0 P0 (rowT kTm 23 (.slice (some ⟨g0, 0, none⟩) l.length c) l' :: boxT gb 3 #[.int .i64 g] :: ts) w'))
    case atStart =>
      refine ⟨k0, k0 + 1, l, rfl, by first | rfl | go_num, ⟨by omega, by omega, by have := HF.out; have := HK0.out; omega, rfl, ?_, rfl⟩, HS1⟩
      have h1 : k0 < l.length := by have := HF.out; have := HK0.out; omega
      have h2 : (l[k0].g == g) = true := by
        have h3 : l.findIdx (fun x => x.g == g) < l.length := HF.out
        have h4 := List.findIdx_getElem (p := fun x : Tm => x.g == g) (w := h3)
        have h5 : l.findIdx (fun x => x.g == g) = k0 := HK0.out
        simp only [h5] at h4
        exact h4
      rw [List.take_succ_eq_append_getElem h1, dropG_snoc, if_pos h2, List.append_nil, dropG_before g l k0 (by have := HK0.out; omega) (by omega)]
    case round =>
      clear HS1
      obtain ⟨i, j, l', rfl, rfl, HK, HS⟩ := hrel
      cases gk with
      | zero => exact absurd HK.out.1 (by have := HK.out.2.2.1; omega)
      | succ k1 =>
        obtain ⟨q1, q2, q3, q4, q5, q6⟩ := HK.out
        have hi' : i < l'.length := by omega
        have i0 : (i : Int) ≤ 1000000 := by omega
        have i1 : (0 : Int) ≤ (i : Int) := by omega
        have i2 : (i : Int) < (l.length : Int) := by omega
        have j0 : (j : Int) ≤ 1000000 := by omega
        have j1 : (0 : Int) ≤ (j : Int) := by omega
        by_cases hin : j < l.length
        · have c1 : decide ((j : Int) < (l.length : Int)) = true := decide_eq_true (by omega)
          have c1n : decide (j < l.length) = true := decide_eq_true (by omega)
          have j2 : (j : Int) < (l.length : Int) := by omega
          have hj' : j < l'.length := by omega
          have hlj : l'[j] = l[j] := by
            have h1 : (l'.drop j)[0]? = (l.drop j)[0]? := by rw [q6]
            rw [List.getElem?_drop, List.getElem?_drop, Nat.add_zero, List.getElem?_eq_getElem hj', List.getElem?_eq_getElem hin] at h1
            injection h1
          have q6' : l'.drop (j + 1) = l.drop (j + 1) := by
            rw [← List.drop_drop, q6, List.drop_drop]
          have q5' := fun b (hb : (l[j].g == g) = b) => show dropG g (l.take (j + 1)) = l'.take i ++ (if b = true then [] else [l[j]]) by
            rw [List.take_succ_eq_append_getElem hin, dropG_snoc, ← q5, hb]
          obtain ⟨⟨a0, a1, a2⟩, -, -⟩ := cell3 HS.out hj'
          rw [hlj] at a0 a1 a2
          obtain ⟨x, hx⟩ : ∃ x, x = l[j] := ⟨_, rfl⟩
          rw [← hx] at a0 a1 a2 q5'
          have hB := Aside0.mk (HS.out.box #[.int .i64 x.t, .int .i64 x.s, .int .i64 x.g] 23)
          have hg := (hB.out.drop.drop.box_cell 0 _ rfl).1
          have HG := Aside0.mk hg
          obtain ⟨b, hb⟩ : ∃ b, (x.g == g) = b := ⟨_, rfl⟩
          have Q5 := Aside0.mk (q5' b hb)
          have Q6 := Aside0.mk q6'
          have HBX := Aside0.mk hb
          have HI := Aside0.mk hi'
          have HJ := Aside0.mk hin
          clear q1 q2 q3 q4 q5 q6 q5' q6' hx hlj hg hb hi' hj' hin
          cases b with
          | true =>
            go_wp2_with (go_at_call 28; (with_reducible refine (del1_calls x g gb true HBX.out _ HG.out).mono ?_); rintro e w2 ⟨rfl, hb⟩; have HS2 := Aside0.mk (hB.out.drop.below hb); clear hb hB)
            go_roundg k1
            case measure => have := HK.out; omega
            case rel => exact ⟨i, j + 1, l', rfl, by first | rfl | go_num, ⟨by have := HK.out; omega, by have := HK.out; omega, by have := HJ.out; omega, HK.out.2.2.2.1, by rw [Q5.out]; simp, Q6.out⟩, HS2⟩
          | false =>
            go_wp2_with (go_at_call 28; (with_reducible refine (del1_calls x g gb false HBX.out _ HG.out).mono ?_); rintro e w2 ⟨rfl, hb⟩; have hS := hB.out.below hb; obtain ⟨⟨m0, m1, m2⟩, -, -⟩ := box_cells3 hS; obtain ⟨⟨n0, n1, n2⟩, ⟨n3, n4, n5⟩, n6⟩ := cell3 hS.drop HI.out; have HS2 := Aside0.mk (put3 hS.drop HI.out x); clear hb hB hS)
            go_roundg k1
            case measure => have := HK.out; omega
            case rel =>
              refine ⟨i + 1, j + 1, l'.set i x, by first | rfl | go_num, by first | rfl | go_num, ⟨by have := HK.out; omega, by have := HK.out; omega, by have := HJ.out; omega, by rw [List.length_set]; exact HK.out.2.2.2.1, ?_, ?_⟩, HS2⟩
              · rw [Q5.out]
                have h1 := HI.out
                rw [List.take_succ_eq_append_getElem (by rw [List.length_set]; exact h1), List.take_set_of_le (Nat.le_refl i)]
                simp
              · rw [List.drop_set_of_lt (by have := HK.out; omega)]
                exact Q6.out
        · obtain rfl : j = l.length := by omega
          have c1 : decide ((l.length : Int) < (l.length : Int)) = false := decide_eq_false (by omega)
          have c1n : decide (l.length < l.length) = false := decide_eq_false (by omega)
          rw [List.take_length] at q5
          have hil : i < l.length := by omega
          have hci : ¬ c = i := by omega
          obtain ⟨g', c', cur, hv', hb', h1', h2', h3', -⟩ := owns (l := l') (by rw [← q4] at HS; exact HS.out) (by omega)
          injection hv' with r1 _ r3
          injection r1 with r1
          injection r1 with r1
          subst r1 r3
          have hcl : ∀ ty, (Builtin.clear_ #[27] ty #[.slice (some ⟨g0, i * 3, none⟩) (l.length - i) (c - i)]).run Try.prog wr = _ := fun ty => clear_run ty wr g0 (i * 3) (l.length - i) (c - i) cur (by omega) hb' (by omega)
          have HS2 := Aside0.mk (cut (l := l') (by rw [← q4] at HS; exact HS.out) (by rw [q4]) (Nat.le_of_lt hi') (by omega) (Builtin.zeroCells #[.int .i64 0, .int .i64 0, .int .i64 0] (l.length - i)).toList)
          rw [q5] at HS2
          generalize (Builtin.zeroCells #[.int .i64 0, .int .i64 0, .int .i64 0] (l.length - i)).toList = vs at hcl HS2
          clear q1 q2 q3 q4 q5 q6 hb' h1' h2' h3' HS hin HK
          go_wp2_with (simp only [hcl])
          go_ret
          exact ⟨_, rfl, HS2.out⟩
  · have hix := index_calls A c l g gb hlen w hC hg (-1) (by rw [if_neg hf])
    have HF := Aside0.mk (show dropG g l = l by
      have h1 := dropG_before g l l.length (by have := fi_le g l; omega) (Nat.le_refl _)
      rwa [List.take_length] at h1)
    clear h hg hC hf
    go_enter Try.func29, Try.ntmps29
    go_wp2_with (go_at_call 37; (with_reducible refine hix.mono ?_); rintro e w1 ⟨rfl, hb⟩; have HS1 := Aside0.mk (HS.out.below hb); clear hb HS hix)
    go_ret
    exact ⟨_, rfl, by rw [HF.out]; exact HS1.out⟩
end
end Go.Proofs.Ytkbjihnkbfjhmaa.Heap
