/- ClockWakes: nobody sleeps longer than until the first tick that isn't ahead of its end, nor shorter. No condition. -/
import Derived.Test.YtldkdndgnojepaaMLib2
namespace Go.Proofs.Ytldkdndgnojepaa.Heap
open Go Go.RowKit Go.Shelf Go.Proofs.Ytldkdndgnojepaa.Own Go.Proofs.YtldkdndgnojepaaW.PrintWords Go.Proofs.YtldkdndgnojepaaW.PrintLast Go.Proofs.YtldkdndgnojepaaW.PrintMore
set_option linter.unusedVariables false
set_option linter.unusedSimpArgs false
theorem in_q {A1 : Option Addr} {c n : Nat} {L : List Int} (w : World) (h1 : (Kd.int .i64).C w A1 n L) (c1 : n ≤ c) (g : Int) (hl : n ≤ 1000000) (b : Bool) (hb : decide (g ∈ L) = b) (q : Nat) :
    Calls Try.prog 15 #[.slice A1 n c, .int .i64 g] (w.drewN q) fun e w'' => e = .returned (.bool b) ∧ ∃ m, w'' = w.drewN m :=
  Calls.quiet_of ((in_n (w.drewN q) (Kd.C_below h1 (pw_below_drewN (Below.refl _ _) q)) c1 g hl b hb).mono (fun e w' h => ⟨h.1, h.2.out⟩))
/-- Those who sleep beyond m. -/
def beyond (m : Int) (S : List Tm) : List Tm := S.filter (fun x => decide (m < x.t))
theorem beyond_step {m m' : Int} (h : m ≤ m') {S : List Tm} (hr : Ris S) : rest m' (beyond m S) = beyond m' S ∧ due m' (beyond m S) = (beyond m S).filter (fun x => decide (x.t ≤ m')) := by
  obtain ⟨h1, h2⟩ := due_filter m' (ris_filter hr (fun x => decide (m < x.t)))
  refine ⟨h2.trans ?_, h1⟩
  unfold beyond
  rw [List.filter_filter]
  refine List.filter_congr (fun x _ => ?_)
  by_cases hx : m' < x.t
  · simp [hx]; omega
  · simp [hx]
theorem mem_slept {l : List Int} {x : Tm} (hx : x ∈ sleptN l (many l)) : ∃ j, ∃ hj : j < l.length, j < many l ∧ x.g = (j : Int) + 1 ∧ x.t = 1 + l[j] := by
  obtain ⟨j, hj, rfl⟩ := (sleptN_mem l).mp hx
  have hjl : j < l.length := by have := many_le l; omega
  refine ⟨j, hjl, hj, rfl, ?_⟩
  show 1 + l.getD j 0 = _
  rw [List.getD_eq_getElem?_getD, List.getElem?_eq_getElem hjl]; rfl
theorem mem_beyond {l : List Int} {m : Int} {k : Nat} (hk : k < many l) (hkl : k < l.length) : ((k : Int) + 1 ∈ gs (beyond m (sleptN l (many l)))) ↔ m < 1 + l[k] := by
  have hone : (oneT l k).t = 1 + l[k] := by
    show 1 + l.getD k 0 = _
    rw [List.getD_eq_getElem?_getD, List.getElem?_eq_getElem hkl]; rfl
  unfold gs beyond
  rw [List.mem_map]
  constructor
  · rintro ⟨x, hx, e⟩
    obtain ⟨h1, h2⟩ := List.mem_filter.mp hx
    obtain ⟨j, hjl, hj, e1, e2⟩ := mem_slept h1
    have hjk : j = k := by omega
    subst hjk
    rw [← e2]; simpa using h2
  · intro h
    exact ⟨oneT l k, List.mem_filter.mpr ⟨(sleptN_mem l).mpr ⟨k, hk, rfl⟩, by rw [hone]; simpa using h⟩, rfl⟩
set_option maxRecDepth 100000 in
set_option maxHeartbeats 8000000 in
theorem wakes_calls (w : World) (A : Option Addr) (c : Nat) (l : List Int) (hr : Kd.C (Kd.int .u8) w A l.length l) (hc : l.length ≤ c) (wf : (∀ x ∈ l, (Lit.int .u8 x).wf = true) ∧ l.length * 1 ≤ 140737488351232 ∧ l.length ≤ maxLen) (A2 : Option Addr) (c2 : Nat) (tk : List Int) (hr2 : Kd.C (Kd.int .u8) w A2 tk.length tk) (hc2 : tk.length ≤ c2) (wf2 : (∀ x ∈ tk, (Lit.int .u8 x).wf = true) ∧ tk.length * 1 ≤ 140737488351232 ∧ tk.length ≤ maxLen) :
    Calls Try.prog 4 #[.slice A l.length c, .slice A2 tk.length c2] w fun e w' => e = .returned (.bool true) ∧ Below w.heap.size w w' := by
  have HB := Aside0.mk (fun x hx => u8_bound (wf.1 x hx))
  have HM := Aside0.mk wf.2.2
  have HC := Aside0.mk hc
  have HTB := Aside0.mk (fun x hx => u8_bound (wf2.1 x hx))
  have HS0 := Aside0.mk (show St w (fun _ => False) (fun _ => True) [Bytes A l, Bytes A2 tk] w from St.swap (St.arg (law_start w hr) (fun _ => id) (fun _ _ => trivial) (Kd.C_F (Kd.heap_int _) hr2)))
  have hri := srt_ris (sleptN_srt l (many l))
  have HMG := Aside0.mk (fun (m : Int) (k : Nat) (hk : k < many l) (hkl : k < l.length) => mem_beyond (m := m) hk hkl)
  have HMS := Aside0.mk (fun (x : Tm) (hx : x ∈ sleptN l (many l)) => mem_slept hx)
  obtain ⟨S0, hS0⟩ : ∃ S, sleptN l (many l) = S := ⟨_, rfl⟩
  have hlen0 : S0.length ≤ 64 := by rw [← hS0, sleptN_len]; exact (many_le l).2
  have hb0 : beyond 0 S0 = S0 := List.filter_eq_self.mpr (fun x hx => by
    obtain ⟨j, hjl, hj, e1, e2⟩ := HMS.out x (by rw [hS0]; exact hx)
    have := HB.out l[j] (List.getElem_mem _)
    simp; omega)
  rw [hS0] at HMG HMS hri
  have HSL := Aside0.mk hS0
  have HL0 := Aside0.mk hlen0
  have HRI := Aside0.mk hri
  have HB0 := Aside0.mk hb0
  have HBL := Aside0.mk (fun m => show (beyond m S0).length ≤ 64 from Nat.le_trans (List.length_filter_le _ _) hlen0)
  have hc2i : (tk.length : Int) ≤ (c2 : Int) := by omega
  clear hS0 hlen0 hri hb0 wf wf2 hr hc hr2
  go_enter Try.func4, Try.ntmps4
  go_wp2_with (first
    | (go_at_call 9; (with_reducible refine (shown_calls _).mono ?_); rintro e w1 ⟨rfl, hb⟩; have HS1 := Aside0.mk (HS0.out.below hb); clear hb HS0)
    | (go_at_call 10; (with_reducible refine (slept_calls HS1.out HC.out HM.out HB.out).mono ?_); rintro e w2 ⟨p1, rfl, hS⟩; rw [HSL.out] at hS; have HS2 := Aside0.mk hS; clear hS HS1))
  go_loopg [7, 8] (tk.length + 1) (fun kq v7 v8 w' => ∃ (k : Nat) (m : Int), v7 = .int .i64 m ∧ v8 = .int .i64 (k : Int) ∧ Aside0 (k + kq = tk.length + 1 ∧ k ≤ 100 ∧ k ≤ tk.length) ∧ Aside0 (0 ≤ m ∧ m ≤ 40 * (k : Int)) ∧ Aside0 (St w (fun _ => False) (fun _ => True) (ckT p1 (beyond m S0) m ((many l : Nat) : Int) :: Bytes A l :: Bytes A2 tk :: []) w'))
  case atStart => exact ⟨0, 0, rfl, rfl, ⟨by omega, by omega, Nat.zero_le _⟩, ⟨by decide, by decide⟩, ⟨by rw [HB0.out]; exact HS2.out⟩⟩
  case round =>
    clear HS2
    obtain ⟨k, m, rfl, rfl, HK, HI, HS⟩ := hrel
    cases gk with
    | zero => exact absurd HK.out (by omega)
    | succ k1 =>
      have hk0 : (0 : Int) ≤ (k : Int) := by omega
      have hk1 : (k : Int) ≤ 100 := by have := HK.out; omega
      by_cases hin : k < tk.length
      · have d1 : decide ((k : Int) < (tk.length : Int)) = true := decide_eq_true (by omega)
        have d1n : decide (k < tk.length) = true := decide_eq_true hin
        by_cases hin2 : k < 100
        · have d2 : decide ((k : Int) < 100) = true := decide_eq_true (by omega)
          have d2n : decide (k < 100) = true := decide_eq_true hin2
          have hlt : (k : Int) < (tk.length : Int) := by omega
          obtain ⟨ad, rfl, a0⟩ := at_num HS.out.drop.drop.now hin
          have ht := HTB.out tk[k] (List.getElem_mem _)
          generalize tk[k] = t at a0 ht
          obtain ⟨ht0, ht1⟩ := ht
          obtain ⟨n, hn⟩ : ∃ n, t % 40 = n := ⟨_, rfl⟩
          have hn0 : 0 ≤ n := by omega
          have hn1 : n < 40 := by omega
          have hm0 := HI.out.1
          have hm1 : m ≤ 4000 := by have := HI.out.2; omega
          have HIN := Aside0.mk (And.intro hin hin2)
          have HN := Aside0.mk (And.intro hn0 hn1)
          obtain ⟨t1, t2, t3, t4⟩ := tick_ok0 (now := m) (n := n) hn0 (by omega) (beyond m S0)
          obtain ⟨r1, r2⟩ := beyond_step (m := m) (m' := m + n) (by omega) HRI.out
          rw [r1] at t3
          rw [r2] at t2
          obtain ⟨W, hW⟩ : ∃ W, gs ((beyond m S0).filter (fun x => decide (x.t ≤ m + n))) = W := ⟨_, rfl⟩
          have hWel : ∀ i, (hi : i < W.length) → ∃ j, ∃ hj : j < l.length, j < many l ∧ W[i] = (j : Int) + 1 ∧ m < 1 + l[j] ∧ 1 + l[j] ≤ m + n := fun i hi => by
            have h1 : W[i] ∈ gs ((beyond m S0).filter (fun x => decide (x.t ≤ m + n))) := by rw [hW]; exact List.getElem_mem _
            obtain ⟨x, hx, e⟩ := List.mem_map.mp h1
            obtain ⟨h2, h3⟩ := List.mem_filter.mp hx
            obtain ⟨h4, h5⟩ := List.mem_filter.mp h2
            obtain ⟨j, hjl, hj, e1, e2⟩ := HMS.out x h4
            refine ⟨j, hjl, hj, by rw [← e1, e], ?_, ?_⟩
            · rw [← e2]; simpa using h5
            · rw [← e2]; simpa using h3
          rw [hW] at t2
          obtain ⟨kw, hkw⟩ : ∃ kw, W.length = kw := ⟨_, rfl⟩
          have hkw64 : kw ≤ 64 := by
            rw [← hkw, ← hW, gs_len]
            exact Nat.le_trans (List.length_filter_le _ _) (HBL.out m)
          have hkwi : (kw : Int) ≤ 64 := by omega
          obtain ⟨k2, hk2⟩ : ∃ k2, (beyond (m + n) S0).length = k2 := ⟨_, rfl⟩
          have HT := Aside0.mk (And.intro t1 (And.intro t2 (And.intro hkw (And.intro t3 t4))))
          have HK2 := Aside0.mk hk2
          have HW := Aside0.mk hWel
          clear t1 t2 t3 t4 r1 r2 hin hin2 hkw hk2 hW hWel
          go_wp2_with (first
            | (go_at_call 11; (with_reducible refine (ck_tick_to HS.out (by have := HBL.out m; omega) n (by have := HI.out; omega) 0 W kw (beyond (m + n) S0) (m + n) HT.out.1 HT.out.2.1 HT.out.2.2.1 HT.out.2.2.2.1 HT.out.2.2.2.2).mono ?_); rintro e w4 ⟨A4, c4, rfl, hc4, hS⟩; have HS4 := Aside0.mk hS; have HC4 := Aside0.mk hc4; clear hS HS a0))
          have hc4i : (kw : Int) ≤ (c4 : Int) := by omega
          go_loopg [12] (kw + 1) (fun kq v12 w' => ∃ (i : Nat), v12 = .int .i64 (i : Int) ∧ Aside0 (i + kq = kw + 1 ∧ i ≤ kw) ∧ Aside0 (St w (fun _ => False) (fun _ => True) (ckT p1 (beyond (m + n) S0) (m + n) ((many l : Nat) : Int) :: Nums A4 W :: Bytes A l :: Bytes (some ad) tk :: []) w'))
          case atStart => exact ⟨0, rfl, ⟨by omega, Nat.zero_le _⟩, HS4⟩
          case round =>
            clear HS4
            obtain ⟨i, rfl, HKi, HSi⟩ := hrel
            cases gk with
            | zero => exact absurd HKi.out (by omega)
            | succ k3 =>
              have hi0 : (0 : Int) ≤ (i : Int) := by omega
              have hi1 : (i : Int) ≤ 64 := by have := HKi.out; omega
              by_cases hik : i < kw
              · have d3 : decide ((i : Int) < (kw : Int)) = true := decide_eq_true (by omega)
                have d3n : decide (i < kw) = true := decide_eq_true hik
                have hlt3 : (i : Int) < (kw : Int) := by omega
                have hiW : i < W.length := by have := HT.out.2.2.1; omega
                obtain ⟨ad4, rfl, b0⟩ := at_num (nums_now HSi.out.swap kw HT.out.2.2.1) hiW
                obtain ⟨j, hjl, hj, eW, hx1, hx2⟩ := HW.out i hiW
                rw [eW] at b0
                obtain ⟨adl, rfl, l0⟩ := at_num HSi.out.drop.drop.now hjl
                have hb := HB.out l[j] (List.getElem_mem _)
                generalize l[j] = x at l0 hx1 hx2 hb
                obtain ⟨hxb0, hxb1⟩ := hb
                have hj64 : (j : Int) ≤ 64 := by have := many_le l; omega
                have hj0 : (0 : Int) ≤ (j : Int) := by omega
                have hjl' : (j : Int) < (l.length : Int) := by omega
                have f1 : decide ((j : Int) < 0) = false := decide_eq_false (by omega)
                have f2 : decide ((l.length : Int) ≤ (j : Int)) = false := decide_eq_false (by omega)
                have f2n : decide (l.length ≤ j) = false := decide_eq_false (by omega)
                have f3 : decide (1 + x ≤ m) = false := decide_eq_false (by omega)
                have f4 : decide (m + n < 1 + x) = false := decide_eq_false (by omega)
                have f5 : wrap64 ((j : Int) + 1 - 1) = (j : Int) := by unfold wrap64; omega
                have f6 : (j : Int) + 1 - 1 = (j : Int) := by omega
                have HIK := Aside0.mk hik
                clear hik hiW eW hx1 hx2
                go_wp2
                go_roundg k3
                case measure => have := HKi.out; omega
                case rel => exact ⟨i + 1, by first | rfl | go_num, ⟨by have := HKi.out; omega, by have := HIK.out; omega⟩, HSi⟩
              · have d3 : decide ((i : Int) < (kw : Int)) = false := decide_eq_false (by omega)
                have d3n : decide (i < kw) = false := decide_eq_false hik
                clear hik hi1
                go_wp2_with (first
                  | (go_at_call 13; (with_reducible refine (ck_asleep_n HSi.out (by have := HBL.out (m + n); omega) k2 HK2.out).mono ?_); rintro e w5 ⟨A5, c5, rfl, hc5, hS⟩; have HS5 := Aside0.mk hS; have HC5 := Aside0.mk hc5; clear hS HSi))
                go_loopg [15] (l.length + 1) (fun kq v15 w' => ∃ (i : Nat), v15 = .int .i64 (i : Int) ∧ Aside0 (i + kq = l.length + 1 ∧ i ≤ l.length ∧ i ≤ 64) ∧ Aside0 (St w (fun _ => False) (fun _ => True) (ckT p1 (beyond (m + n) S0) (m + n) ((many l : Nat) : Int) :: Nums A5 (gs (beyond (m + n) S0)) :: Nums A4 W :: Bytes A l :: Bytes (some ad) tk :: []) w'))
                case atStart => exact ⟨0, rfl, ⟨by omega, Nat.zero_le _, Nat.zero_le _⟩, HS5⟩
                case round =>
                  clear HS5
                  obtain ⟨q, rfl, HKq, HSq⟩ := hrel
                  cases gk with
                  | zero => exact absurd HKq.out (by omega)
                  | succ k4 =>
                    have hq0 : (0 : Int) ≤ (q : Int) := by omega
                    have hq1 : (q : Int) ≤ 64 := by have := HKq.out; omega
                    by_cases hql : q < l.length
                    · have d4 : decide ((q : Int) < (l.length : Int)) = true := decide_eq_true (by omega)
                      have d4n : decide (q < l.length) = true := decide_eq_true hql
                      by_cases hq64 : q < 64
                      · have d5 : decide ((q : Int) < 64) = true := decide_eq_true (by omega)
                        have d5n : decide (q < 64) = true := decide_eq_true hq64
                        have hlt5 : (q : Int) < (l.length : Int) := by omega
                        obtain ⟨adl, rfl, l0⟩ := at_num HSq.out.drop.drop.drop.now hql
                        have hb := HB.out l[q] (List.getElem_mem _)
                        have hmem := HMG.out (m + n) q (by unfold many; omega) hql
                        generalize l[q] = x at l0 hb hmem
                        obtain ⟨hxb0, hxb1⟩ := hb
                        have hg1 : IntKind.i64.wrap ((q : Int) + 1) = (q : Int) + 1 := Go.IntWalk.i64_in _ (by omega)
                        have hg2 : IntKind.i64.wrap (1 + x) = 1 + x := Go.IntWalk.i64_in _ (by omega)
                        have HQL := Aside0.mk (And.intro hql hq64)
                        clear hql hq64
                        by_cases hbx : m + n < 1 + x
                        · have f4 : decide (m + n < 1 + x) = true := decide_eq_true hbx
                          have HIN2 := Aside0.mk (decide_eq_true (hmem.mpr hbx))
                          clear hbx hmem
                          go_wp2
                          go_quiet ((go_at_call 15; exact in_q _ (nums_now HSq.out.swap k2 (by rw [gs_len]; exact HK2.out)) HC5.out _ (by have := HBL.out (m + n); have := HK2.out; omega) true HIN2.out _))
                          go_wp2
                          go_roundg k4
                          case measure => have := HKq.out; omega
                          case rel => exact ⟨q + 1, by first | rfl | go_num, ⟨by have := HKq.out; omega, by have := HQL.out; omega, by have := HQL.out; omega⟩, ⟨HSq.out.below (pw_below_drewN (Below.refl _ _) _)⟩⟩
                        · have f4 : decide (m + n < 1 + x) = false := decide_eq_false hbx
                          have HIN2 := Aside0.mk (decide_eq_false (fun h => hbx (hmem.mp h)))
                          clear hbx hmem
                          go_wp2
                          go_quiet ((go_at_call 15; exact in_q _ (nums_now HSq.out.swap k2 (by rw [gs_len]; exact HK2.out)) HC5.out _ (by have := HBL.out (m + n); have := HK2.out; omega) false HIN2.out _))
                          go_wp2
                          go_roundg k4
                          case measure => have := HKq.out; omega
                          case rel => exact ⟨q + 1, by first | rfl | go_num, ⟨by have := HKq.out; omega, by have := HQL.out; omega, by have := HQL.out; omega⟩, ⟨HSq.out.below (pw_below_drewN (Below.refl _ _) _)⟩⟩
                      · have d5 : decide ((q : Int) < 64) = false := decide_eq_false (by omega)
                        have d5n : decide (q < 64) = false := decide_eq_false hq64
                        clear hql hq64
                        go_wp2
                        go_roundg k1
                        case measure => have := HK.out; omega
                        case rel => exact ⟨k + 1, m + n, by first | rfl | go_num, by first | rfl | go_num, ⟨by have := HK.out; omega, by have := HIN.out; omega, by have := HIN.out; omega⟩, ⟨by have := HI.out; have := HN.out; omega, by have := HI.out; have := HN.out; omega⟩, ⟨HSq.out.swap.drop.swap.drop⟩⟩
                    · have d4 : decide ((q : Int) < (l.length : Int)) = false := decide_eq_false (by omega)
                      have d4n : decide (q < l.length) = false := decide_eq_false hql
                      clear hql
                      go_wp2
                      go_roundg k1
                      case measure => have := HK.out; omega
                      case rel => exact ⟨k + 1, m + n, by first | rfl | go_num, by first | rfl | go_num, ⟨by have := HK.out; omega, by have := HIN.out; omega, by have := HIN.out; omega⟩, ⟨by have := HI.out; have := HN.out; omega, by have := HI.out; have := HN.out; omega⟩, ⟨HSq.out.swap.drop.swap.drop⟩⟩
        · have d2 : decide ((k : Int) < 100) = false := decide_eq_false (by omega)
          have d2n : decide (k < 100) = false := decide_eq_false hin2
          clear hin hin2
          go_wp2
          go_ret
          exact ⟨rfl, HS.out.bel⟩
      · have d1 : decide ((k : Int) < (tk.length : Int)) = false := decide_eq_false (by omega)
        have d1n : decide (k < tk.length) = false := decide_eq_false hin
        clear hin
        go_wp2
        go_ret
        exact ⟨rfl, HS.out.bel⟩
end Go.Proofs.Ytldkdndgnojepaa.Heap
