/- HeapDrops: with all of one G dropped the others come in the order in which they came. No condition. -/
import Derived.Test.YtkbjihnkbfjhmaaHHeapNobody
import Derived.Test.YtkbjihnkbfjhmaaHHeapFirst
import Derived.Test.YtkbjihnkbfjhmaaOwn4
namespace Go.Proofs.Ytkbjihnkbfjhmaa.Heap
open Go Go.RowKit Go.Shelf Go.Proofs.Ytkbjihnkbfjhmaa.Own Go.Proofs.YtkbjihnkbfjhmaaW.PrintWords Go.Proofs.YtkbjihnkbfjhmaaW.PrintLast Go.Proofs.YtkbjihnkbfjhmaaW.PrintMore
set_option linter.unusedVariables false
set_option linter.unusedSimpArgs false
def cntG (g : Int) (l : List Tm) : Nat := (l.filter (fun x => x.g == g)).length
theorem cnt_drop (g : Int) : ∀ l : List Tm, cntG g l + (dropG g l).length = l.length
  | [] => rfl
  | x :: l => by
    have ih := cnt_drop g l
    unfold cntG dropG at ih ⊢
    by_cases h : (x.g == g) = true
    · rw [List.filter_cons_of_pos (by exact h), List.filter_cons_of_neg (by simp [h]), List.length_cons, List.length_cons]; omega
    · rw [List.filter_cons_of_neg (by exact h), List.filter_cons_of_pos (by simp [h]), List.length_cons, List.length_cons]; omega
theorem cnt_perm {g : Int} {l m : List Tm} (h : l.Perm m) : cntG g l = cntG g m := (h.filter _).length_eq
theorem cnt_snoc (g : Int) (l : List Tm) (x : Tm) : cntG g (l ++ [x]) = cntG g l + (if (x.g == g) = true then 1 else 0) := by
  unfold cntG
  rw [List.filter_append, List.length_append]
  by_cases h : (x.g == g) = true <;> simp [h]
/-- Two heaps. -/
def Hh (w0 : World) (a : Nat) (la : List Tm) (b : Nat) (lb : List Tm) (ts : List Thing) (w : World) : Prop := ∃ u, Hp w0 (fun _ => False) (fun _ => True) a la (boxT b 30 #[u] :: rowT kTm 23 u lb :: ts) w
section
variable {w0 w w' : World} {a b : Nat} {la lb : List Tm} {ts : List Thing}
theorem Hh.new (h : Below w0.heap.size w0 w) : Hh w0 w.heap.size [] (w.heap.size + 1) [] [] ((w.alloc (.cells #[.slice none 0 0] 30)).alloc (.cells #[.slice none 0 0] 30)) := by
  obtain ⟨v, h1⟩ := Hp.new ((St.start w0 (fun _ => True)).below h)
  have h2 := ((h1.box #[.slice none 0 0] 30).nil kTm 23).swap
  rw [World.size_alloc] at h2
  exact ⟨_, v, St.turn (ts1 := [_, _]) (ts2 := [_, _]) (ts := []) h2⟩
theorem Hh.flip (h : Hh w0 a la b lb ts w) : Hh w0 b lb a la ts w := by
  obtain ⟨u, v, h⟩ := h
  exact ⟨v, u, St.turn (ts1 := [_, _]) (ts2 := [_, _]) h⟩
theorem Hh.below (h : Hh w0 a la b lb ts w) (hb : Below w.heap.size w w') : Hh w0 a la b lb ts w' := by
  obtain ⟨u, h⟩ := h
  exact ⟨u, h.below hb⟩
theorem Hh.bel (h : Hh w0 a la b lb ts w) : Below w0.heap.size w0 w := by
  obtain ⟨u, h⟩ := h
  exact h.bel
theorem Hh.push (h : Hh w0 a la b lb ts w) (hlen : la.length ≤ 100000) (x : Tm) :
    Calls Try.prog 11 #[.pointer (some ⟨a, 0, none⟩), .agg #[.int .i64 x.t, .int .i64 x.s, .int .i64 x.g]] w fun e w' => e = .returned (.tuple #[]) ∧ Hh w0 a (pushL la x) b lb ts w' := by
  obtain ⟨u, h⟩ := h
  refine (h.push hlen x rfl).mono ?_
  rintro e w' ⟨rfl, h'⟩
  exact ⟨rfl, u, h'⟩
theorem Hh.push2 (h : Hh w0 a la b lb ts w) (hlen : lb.length ≤ 100000) (x : Tm) :
    Calls Try.prog 11 #[.pointer (some ⟨b, 0, none⟩), .agg #[.int .i64 x.t, .int .i64 x.s, .int .i64 x.g]] w fun e w' => e = .returned (.tuple #[]) ∧ Hh w0 a la b (pushL lb x) ts w' := by
  refine (h.flip.push hlen x).mono ?_
  rintro e w' ⟨rfl, h'⟩
  exact ⟨rfl, h'.flip⟩
theorem Hh.dropped (h : Hh w0 a la b lb ts w) (hlen : la.length ≤ 100000) (g n : Int) (hn : (la.length : Int) - ((dropG g la).length : Int) = n) :
    Calls Try.prog 16 #[.pointer (some ⟨a, 0, none⟩), .int .i64 g] w fun e w' => e = .returned (.int .i64 n) ∧ Hh w0 a (dropL g la) b lb ts w' := by
  obtain ⟨u, h⟩ := h
  refine (h.dropped hlen g n hn).mono ?_
  rintro e w' ⟨rfl, h'⟩
  exact ⟨rfl, u, h'⟩
theorem Hh.all (h : Hh w0 a la b lb ts w) (hlen : la.length ≤ 1000000) (S : List Tm) (hS : sortL la = S) :
    Calls Try.prog 14 #[.pointer (some ⟨a, 0, none⟩)] w fun e w' => ∃ A c, e = .returned (.slice A S.length c) ∧ S.length ≤ c ∧ Hh w0 a la b lb (valT (fun W => kTm.C W A S.length S) :: ts) w' := by
  obtain ⟨u, h⟩ := h
  subst hS
  refine (h.all hlen).mono ?_
  rintro e w' ⟨A, c, rfl, hc, v, h'⟩
  refine ⟨A, c, by rw [sortL_len], by rw [sortL_len]; exact hc, u, v, h'.perm ?_⟩
  exact ((List.perm_append_comm (l₁ := [_]) (l₂ := [_, _])).append_right ts).cons _ |>.cons _
theorem Hh.all2 (h : Hh w0 a la b lb ts w) (hlen : lb.length ≤ 1000000) (S : List Tm) (hS : sortL lb = S) :
    Calls Try.prog 14 #[.pointer (some ⟨b, 0, none⟩)] w fun e w' => ∃ A c, e = .returned (.slice A S.length c) ∧ S.length ≤ c ∧ Hh w0 a la b lb (valT (fun W => kTm.C W A S.length S) :: ts) w' := by
  refine (h.flip.all hlen S hS).mono ?_
  rintro e w' ⟨A, c, rfl, hc, h'⟩
  exact ⟨A, c, rfl, hc, h'.flip⟩
theorem Hh.two {Q1 Q2 : World → Prop} (h : Hh w0 a la b lb (valT Q2 :: valT Q1 :: ts) w) : Q1 w ∧ Q2 w := by
  obtain ⟨u, v, h⟩ := h
  exact ⟨h.drop.drop.drop.drop.drop.now, h.drop.drop.drop.drop.now⟩
end
set_option maxRecDepth 100000 in
set_option maxHeartbeats 4000000 in
theorem drops_calls (w : World) (A : Option Addr) (c : Nat) (l : List Tm) (hr : kTm.C w A l.length l) (hc : l.length ≤ c) (wf : (∀ x ∈ l, (Lit.int .i64 x.t).wf = true ∧ (Lit.int .i64 x.s).wf = true ∧ (Lit.int .i64 x.g).wf = true) ∧ l.length * 24 ≤ 140737488351232 ∧ l.length ≤ maxLen) (g : Int) (wg : (Lit.int .i64 g).wf = true) :
    Calls Try.prog 6 #[.slice A l.length c, .int .i64 g] w fun e w' => e = .returned (.bool true) ∧ Below w.heap.size w w' := by
  have HR := Aside0.mk hr
  clear hr wf wg
  by_cases hbig : 200 < l.length
  · have b1 : decide (200 < l.length) = true := decide_eq_true hbig
    have b2 : decide ((200 : Int) < (l.length : Int)) = true := decide_eq_true (by omega)
    go_enter Try.func6, Try.ntmps6
    go_wp2_with (go_at_call 9; (with_reducible refine (shown_calls _).mono ?_); rintro e w1 ⟨rfl, hb⟩; have HB := Aside0.mk hb; clear hb)
    go_ret
    exact ⟨rfl, HB.out⟩
  · have b1 : decide (200 < l.length) = false := decide_eq_false hbig
    have b2 : decide ((200 : Int) < (l.length : Int)) = false := decide_eq_false (by omega)
    go_enter Try.func6, Try.ntmps6
    go_wp2_with (go_at_call 9; (with_reducible refine (shown_calls _).mono ?_); rintro e w1 ⟨rfl, hb⟩; have HS := Aside0.mk (Hh.new hb); clear hb)
    clear b1 b2
    go_loopg [8, 9] (l.length + 1) (fun kq v8 v9 w' => ∃ (i m : Nat) (la lb : List Tm), v8 = .int .i64 (m : Int) ∧ v9 = .int .i64 (i : Int) ∧ Aside0 (i + kq = l.length + 1 ∧ i ≤ l.length ∧ la.Perm (l.take i) ∧ lb.Perm (dropG g (l.reverse.take i)) ∧ m = cntG g (l.reverse.take i)) ∧ Aside0 (Hh w w1.heap.size la (w1.heap.size + 1) lb [] w'))
    case atStart => exact ⟨0, 0, [], [], rfl, rfl, ⟨by omega, Nat.zero_le _, by simp, by simp [dropG], by simp [cntG]⟩, HS⟩
    case round =>
      clear HS
      obtain ⟨i, m, la, lb, rfl, rfl, HK, HS⟩ := hrel
      cases gk with
      | zero => exact absurd HK.out.1 (by have := HK.out.2.1; omega)
      | succ k1 =>
        obtain ⟨q1, q2, q3, q4, q5⟩ := HK.out
        by_cases hin : i < l.length
        · have c1 : decide ((i : Int) < (l.length : Int)) = true := decide_eq_true (by omega)
          have c1n : decide (i < l.length) = true := decide_eq_true (by omega)
          have hwr := Kd.C_below HR.out HS.out.bel
          obtain ⟨j, hj⟩ : ∃ j, j = l.length - 1 - i := ⟨_, rfl⟩
          have hjl : j < l.length := by omega
          obtain ⟨ad, rfl, a0, a1, a2⟩ := arg_elem hwr hin
          have hlai := Aside0.mk (show la.length ≤ 100000 ∧ lb.length ≤ 100000 ∧ m ≤ 200 by
            refine ⟨by rw [q3.length_eq, List.length_take]; omega, ?_, ?_⟩
            · rw [q4.length_eq]
              have := dropG_len g (l.reverse.take i)
              rw [List.length_take, List.length_reverse] at this
              omega
            · have := cnt_drop g (l.reverse.take i)
              rw [List.length_take, List.length_reverse] at this
              omega)
          have q3' : ∀ x, x = l[i] → (pushL la x).Perm (l.take (i + 1)) := fun x hx => by
            rw [List.take_succ_eq_append_getElem hin, ← hx]
            exact (push_perm la x).trans ((q3.cons x).trans (List.perm_append_singleton x _).symm)
          have hrj : (l.reverse)[i]'(by rw [List.length_reverse]; exact hin) = l[j] := by
            rw [List.getElem_reverse]; congr 1; omega
          have hri : i < l.reverse.length := by rw [List.length_reverse]; exact hin
          have q4' : ∀ y, y = l[j] → dropG g (l.reverse.take (i + 1)) = dropG g (l.reverse.take i) ++ (if (y.g == g) = true then [] else [y]) := fun y hy => by
            rw [List.take_succ_eq_append_getElem hri, hrj, ← hy, dropG_snoc]
          have q5' : ∀ y, y = l[j] → cntG g (l.reverse.take (i + 1)) = cntG g (l.reverse.take i) + (if (y.g == g) = true then 1 else 0) := fun y hy => by
            rw [List.take_succ_eq_append_getElem hri, hrj, ← hy, cnt_snoc]
          obtain ⟨x, hx⟩ : ∃ x, x = l[i] := ⟨_, rfl⟩
          obtain ⟨y, hy⟩ : ∃ y, y = l[j] := ⟨_, rfl⟩
          have HRy := Aside0.mk (show ∀ h : j < l.length, l[j]'h = y from fun _ => hy.symm)
          rw [← hx] at a0 a1 a2
          have p0 : (i : Int) ≤ 200 := by omega
          have p1 : (0 : Int) ≤ (i : Int) := by omega
          have p2 : (i : Int) < (l.length : Int) := by omega
          have p3 : (l.length : Int) ≤ 200 := by omega
          have p4 : (0 : Int) ≤ (l.length : Int) - 1 - (i : Int) := by omega
          have p5 : (l.length : Int) - 1 - (i : Int) < (l.length : Int) := by omega
          have p6 : (m : Int) ≤ 200 := by have := hlai.out.2.2; omega
          have tn : ((l.length : Int) - 1 - (i : Int)).toNat = j := by omega
          have Q3 := Aside0.mk (q3' x hx)
          have Q4 := Aside0.mk (q4' y hy)
          have Q5 := Aside0.mk (q5' y hy)
          have HJ := Aside0.mk hjl
          have HIN := Aside0.mk hin
          clear q1 q2 q3 q4 q5 q3' q4' q5' hwr hj hri hrj hy hx hin hjl
          have hgo := Aside0.mk (fun (w2 : World) (hb : Below w.heap.size w w2) => show w2.cell? (ad.add (j * 3)) = some (.int .i64 y.t) ∧ w2.cell? ⟨(ad.add (j * 3)).block, (ad.add (j * 3)).off + 1, none⟩ = some (.int .i64 y.s) ∧ w2.cell? ⟨(ad.add (j * 3)).block, (ad.add (j * 3)).off + 2, none⟩ = some (.int .i64 y.g) by
            obtain ⟨ad2, e2, d0, d1, d2⟩ := arg_elem (Kd.C_below HR.out hb) HJ.out
            injection e2 with e2
            subst e2
            rw [HRy.out HJ.out] at d0 d1 d2
            exact ⟨d0, d1, d2⟩)
          obtain ⟨ad0, had⟩ : ∃ ad0, ad.add (j * 3) = ad0 := ⟨_, rfl⟩
          rw [had] at hgo
          by_cases hy : (y.g == g) = true
          · rw [if_pos hy] at Q4 Q5
            go_wp2_with (go_at_call 11; go_loud ((with_reducible refine (HS.out.push hlai.out.1 x).mono ?_); rintro e w2 ⟨rfl, hS⟩; obtain ⟨d0, d1, d2⟩ := hgo.out _ hS.bel; have HS2 := Aside0.mk hS; clear hS HS))
            go_roundg k1
            case measure => have := HK.out; omega
            case rel => exact ⟨i + 1, m + 1, _, lb, by first | rfl | go_num, by first | rfl | go_num, ⟨by have := HK.out; omega, by have := HIN.out; omega, Q3.out, by rw [Q4.out, List.append_nil]; exact HK.out.2.2.2.1, by rw [Q5.out, HK.out.2.2.2.2]⟩, HS2⟩
          · rw [Bool.not_eq_true] at hy
            rw [if_neg (by rw [hy]; decide)] at Q4 Q5
            go_wp2_with (first | (go_at_call 11; ((with_reducible refine (HS.out.push hlai.out.1 x).mono ?_); rintro e w2 ⟨rfl, hS⟩; obtain ⟨d0, d1, d2⟩ := hgo.out _ hS.bel; have HS2 := Aside0.mk hS; clear hS HS)) | (go_at_call 11; ((with_reducible refine (HS2.out.push2 hlai.out.2.1 y).mono ?_); rintro e w3 ⟨rfl, hS⟩; have HS3 := Aside0.mk hS; clear hS HS2)))
            go_roundg k1
            case measure => have := HK.out; omega
            case rel => exact ⟨i + 1, m, _, _, rfl, by first | rfl | go_num, ⟨by have := HK.out; omega, by have := HIN.out; omega, Q3.out, by rw [Q4.out]; exact (push_perm lb y).trans ((HK.out.2.2.2.1.cons y).trans (List.perm_append_singleton y _).symm), by rw [Q5.out, HK.out.2.2.2.2]; rfl⟩, HS3⟩
        · have c1 : decide ((i : Int) < (l.length : Int)) = false := decide_eq_false (by omega)
          have c1n : decide (i < l.length) = false := decide_eq_false (by omega)
          obtain rfl : i = l.length := by omega
          rw [List.take_length] at q3
          rw [show l.length = l.reverse.length by rw [List.length_reverse], List.take_length] at q4 q5
          have e1 : lb.Perm (dropG g l) := q4.trans (dropG_perm (List.reverse_perm l))
          have e2 : m = cntG g l := q5.trans (cnt_perm (List.reverse_perm l))
          have e3 : (dropG g la).Perm (dropG g l) := dropG_perm q3
          obtain ⟨S, hS⟩ : ∃ S, sortL lb = S := ⟨_, rfl⟩
          have hS2 : sortL (dropL g la) = S := by rw [← hS]; exact sortL_congr (((dropL_perm g la).trans e3).trans e1.symm)
          have hSl : S.length + m = l.length := by
            have h1 := cnt_drop g l
            rw [← hS, sortL_len, e1.length_eq, e2]
            omega
          have hSg : ∀ x ∈ S, (x.g == g) = false := fun x hx => by
            rw [← hS] at hx
            have h1 := e1.mem_iff.mp ((sortL_perm lb).mem_iff.mp hx)
            unfold dropG at h1
            have h2 := (List.mem_filter.mp h1).2
            simpa using h2
          have HLA := Aside0.mk (show la.length ≤ 100000 ∧ lb.length ≤ 1000000 ∧ (dropL g la).length ≤ 1000000 ∧ (la.length : Int) - ((dropG g la).length : Int) = (m : Int) by
            have h1 := q3.length_eq
            have h2 := e1.length_eq
            have h3 := dropG_len g l
            have h4 := (dropL_perm g la).length_eq
            have h5 := dropG_len g la
            have h6 := e3.length_eq
            have h7 := cnt_drop g l
            omega)
          have HSS := Aside0.mk (And.intro hS (And.intro hS2 (And.intro hSl hSg)))
          have HLN := Aside0.mk (Nat.le_of_not_lt hbig)
          obtain ⟨n, hn⟩ : ∃ n, n = l.length := ⟨_, rfl⟩
          have hnn : n = S.length + m := by omega
          rw [← hn]
          rw [← hn] at c1 c1n
          subst hnn
          have HN := Aside0.mk hn
          have m0 : (m : Int) ≤ 200 := by omega
          have m1 : (S.length : Int) ≤ 200 := by omega
          clear q1 q2 q3 q4 q5 e1 e2 e3 hS hS2 hSl hSg HK hin hn
          go_wp2_with (first
            | (go_at_call 16; ((with_reducible refine (HS.out.dropped HLA.out.1 g m HLA.out.2.2.2).mono ?_); rintro e w2 ⟨rfl, hS⟩; have HS2 := Aside0.mk hS; clear hS HS))
            | (go_at_call 14; ((with_reducible refine (HS2.out.all HLA.out.2.2.1 S HSS.out.2.1).mono ?_); rintro e w3 ⟨A1, c1, rfl, h1, hS⟩; have HS3 := Aside0.mk hS; clear hS HS2))
            | (go_at_call 14; ((with_reducible refine (HS3.out.all2 HLA.out.2.1 S HSS.out.1).mono ?_); rintro e w4 ⟨A2, c2, rfl, h2, hS⟩; have HS4 := Aside0.mk (And.intro hS.bel hS.two); clear hS HS3)))
          have HB := Aside0.mk (Below.refl w4.heap.size w4)
          go_loopg [13] (S.length + 1) (fun kq v13 w' => ∃ j : Nat, v13 = .int .i64 (j : Int) ∧ Aside0 (j + kq = S.length + 1 ∧ j ≤ S.length) ∧ Aside0 (Below w4.heap.size w4 w'))
          case atStart => exact ⟨0, rfl, ⟨by omega, Nat.zero_le _⟩, HB⟩
          case round =>
            clear HB
            obtain ⟨j, rfl, HK, HS⟩ := hrel
            cases gk with
            | zero => exact absurd HK.out (by omega)
            | succ k2 =>
              by_cases hin : j < S.length
              · have c1 : decide ((j : Int) < (S.length : Int)) = true := decide_eq_true (by omega)
                have c1n : decide (j < S.length) = true := decide_eq_true (by omega)
                obtain ⟨ad1, rfl, a0, a1, a2⟩ := at_elem (Kd.C_below HS4.out.2.1 HS.out) hin
                obtain ⟨ad2, rfl, b0, b1, b2⟩ := at_elem (Kd.C_below HS4.out.2.2 HS.out) hin
                have hgg : (S[j].g == g) = false := HSS.out.2.2.2 _ (List.getElem_mem _)
                have hgg2 : decide (S[j].g = g) = false := decide_eq_false (by intro h; rw [h] at hgg; simp at hgg)
                have p0 : (j : Int) ≤ 300 := by omega
                have p1 : (0 : Int) ≤ (j : Int) := by omega
                have p2 : (j : Int) < (S.length : Int) := by omega
                have HIN := Aside0.mk hin
                generalize S[j] = y at a0 a1 a2 b0 b1 b2 hgg hgg2
                clear hin
                go_wp2
                go_quiet (fail)
                have HB2 := Aside0.mk (HS.out.trans (pw_below_drewN (Below.refl w4.heap.size wr) nq))
                clear HS
                go_wp2
                go_roundg k2
                case measure => have := HK.out; omega
                case rel => exact ⟨j + 1, by first | rfl | go_num, ⟨by have := HK.out; omega, by have := HIN.out; omega⟩, HB2⟩
              · have c1 : decide ((j : Int) < (S.length : Int)) = false := decide_eq_false (by omega)
                have c1n : decide (j < S.length) = false := decide_eq_false (by omega)
                clear hin
                go_wp2
                go_ret
                exact ⟨rfl, HS4.out.1.trans (HS.out.mono HS4.out.1.size)⟩
end Go.Proofs.Ytkbjihnkbfjhmaa.Heap
