/- HeapPlays: whatever is pushed, popped, and dropped, each answer, and all timers, are the document's. No condition. -/
import Derived.Test.YtkbjihnkbfjhmaaMp2
namespace Go.Proofs.Ytkbjihnkbfjhmaa.Heap
open Go Go.RowKit Go.Shelf Go.Proofs.Ytkbjihnkbfjhmaa.Own Go.Proofs.YtkbjihnkbfjhmaaW.PrintWords Go.Proofs.YtkbjihnkbfjhmaaW.PrintLast Go.Proofs.YtkbjihnkbfjhmaaW.PrintMore
set_option linter.unusedVariables false
set_option linter.unusedSimpArgs false
structure Dd where
  k : Int
  x : Tm
def Dd.cells (d : Dd) : List Value := [.int .i64 d.k, .int .i64 d.x.t, .int .i64 d.x.s, .int .i64 d.x.g]
def kDd : Kd Dd := Kd.iso (Kd.pair (Kd.int .i64) kTm) (fun d => (d.k, d.x))
theorem kDd_open {w : World} {d : Dd} {cs : List Value} (h : kDd.K w d cs) : cs = d.cells := by
  obtain ⟨a, b, rfl, h1, h2⟩ := h
  obtain rfl := kTm_open h2
  have h3 : a = [Value.int .i64 d.k] := h1
  rw [h3]
  rfl
theorem opDd : Go.Proofs.YtkbjihnkbfjhmaaX.Opens Try.prog 42 kDd (fun d => (Lit.int .i64 d.k).wf = true) :=
  Go.Proofs.YtkbjihnkbfjhmaaX.Opens.imp (Go.Proofs.YtkbjihnkbfjhmaaX.Opens.struct (fun d : Dd => (d.k, d.x)) (fun p => ⟨p.1, p.2⟩) (fun _ => rfl) Try.underlying42 (by kernel_rfl) (Go.Proofs.YtkbjihnkbfjhmaaX.OpensF.cons rfl (by kernel_rfl) (Go.Proofs.YtkbjihnkbfjhmaaX.Opens.int Try.underlying3) (Go.Proofs.YtkbjihnkbfjhmaaX.OpensF.one rfl (by kernel_rfl) opTm))) (fun a h => h.1)
theorem deed_elem {w : World} {A : Option Addr} {l : List Dd} (h : kDd.C w A l.length l) {i : Nat} (hi : i < l.length) : ∃ ad, A = some ad ∧ w.cell? (ad.add (i * 4)) = some (.int .i64 l[i].k) ∧ w.cell? ⟨(ad.add (i * 4)).block, (ad.add (i * 4)).off + 1, none⟩ = some (.int .i64 l[i].x.t) ∧ w.cell? ⟨(ad.add (i * 4)).block, (ad.add (i * 4)).off + 2, none⟩ = some (.int .i64 l[i].x.s) ∧ w.cell? ⟨(ad.add (i * 4)).block, (ad.add (i * 4)).off + 3, none⟩ = some (.int .i64 l[i].x.g) := by
  obtain ⟨ad, cs, e1, hl, hK, hc⟩ := Kd.C_get h ⟨0, ⟨0, 0, 0⟩⟩ (i : Int) (by omega) (by omega)
  have hx : l.getD (i : Int).toNat ⟨0, ⟨0, 0, 0⟩⟩ = l[i] := by simp [List.getD_eq_getElem?_getD, List.getElem?_eq_getElem hi]
  rw [hx] at hK
  obtain rfl := kDd_open hK
  have h0 := hc 0 _ rfl
  have h1 := hc 1 _ rfl
  have h2 := hc 2 _ rfl
  have h3 := hc 3 _ rfl
  rw [Int.toNat_natCast] at h0 h1 h2 h3
  refine ⟨ad, e1, h0, ?_, ?_, ?_⟩
  · rw [← add_field _ _ 1 (by omega)]; exact h1
  · rw [← add_field _ _ 2 (by omega)]; exact h2
  · rw [← add_field _ _ 3 (by omega)]; exact h3
theorem C_one (W : World) (y : Tm) : kTm.C (W.alloc (.cells #[.int .i64 y.t, .int .i64 y.s, .int .i64 y.g] 23)) (some ⟨W.heap.size, 0, none⟩) 1 [y] :=
  ⟨rfl, by decide, fun _ => ⟨_, rfl, fun j p hp => by
    have hj : j = 0 := by
      have := (List.getElem?_eq_some_iff.mp hp).1
      simp at this; omega
    subst hj
    simp at hp
    subst hp
    refine ⟨y.cells, rfl, kTm_mk _ _, fun i u hu => ?_⟩
    have := cells_three W (.int .i64 y.t) (.int .i64 y.s) (.int .i64 y.g) 23 i u hu
    simpa using this⟩⟩
section
variable {w0 w w' : World} {F0 P0 : Nat → Prop} {p : Nat} {l : List Tm} {ts : List Thing}
/-- The document's list, made anew. -/
theorem Hp.got4 {v : Value} {m : List Tm} (h : Hp w0 F0 P0 p l ts w) (hr : Kd.R k44 44 w' w.heap.size (fun _ => True) v (m.map e4)) (hb : Below w.heap.size w w') : ∃ A c, v = .slice A m.length c ∧ m.length ≤ c ∧ Hp w0 F0 P0 p l (valT (fun W => kTm.C W A m.length m) :: ts) w' := by
  obtain ⟨u, h⟩ := h
  have hS := h.got hr hb (Nat.le_refl _)
  obtain ⟨A, c, rfl⟩ := hS.slice
  obtain ⟨-, hc, hV⟩ := hS.freeze
  rw [List.length_map] at hc
  refine ⟨A, c, by rw [List.length_map], hc, u, ?_⟩
  refine (St.imp hV (fun W hW => ?_)).nth2.nth2
  rw [List.length_map] at hW
  exact of4 hW
theorem Hp.nth2 {a b : Thing} (h : Hp w0 F0 P0 p l (a :: b :: ts) w) : Hp w0 F0 P0 p l (b :: a :: ts) w := by
  obtain ⟨u, h⟩ := h
  exact ⟨u, h.perm (((List.Perm.swap b a ts).cons _).cons _)⟩
theorem Hp.drop1 {a : Thing} (h : Hp w0 F0 P0 p l (a :: ts) w) : Hp w0 F0 P0 p l ts w := by
  obtain ⟨u, h⟩ := h
  exact ⟨u, (h.nth2.drop)⟩
theorem Hp.valmap {Q Q' : World → Prop} (h : Hp w0 F0 P0 p l (valT Q :: ts) w) (hi : ∀ W, Q W → Q' W) : Hp w0 F0 P0 p l (valT Q' :: ts) w := by
  obtain ⟨u, h⟩ := h
  exact ⟨u, (St.imp h.nth2 hi).nth2.nth2⟩
theorem Hp.start_val {Q : World → Prop} (h : Hp w0 F0 P0 p l ts w) (hQ : ∀ W, Q W) : Hp w0 F0 P0 p l (valT Q :: ts) w := by
  obtain ⟨u, h⟩ := h
  exact ⟨u, (h.pure hQ).nth2.nth2⟩
theorem Hp.now1 {Q : World → Prop} (h : Hp w0 F0 P0 p l (valT Q :: ts) w) : Q w := by
  obtain ⟨u, h⟩ := h
  exact h.drop.drop.now
end
def Lst (A : Option Addr) (L : List Tm) : Thing := valT (fun W => kTm.C W A L.length L)
section
variable {w0 w w' : World} {F0 P0 : Nat → Prop} {p : Nat} {l H m : List Tm} {ts : List Thing} {B : Thing} {A5 : Option Addr} {c5 : Nat}
theorem Hp.lst (h : Hp w0 F0 P0 p l (B :: Lst A5 H :: ts) w) : kTm.C w A5 H.length H := h.nth2.now1
theorem Hp.renew {v : Value} (h : Hp w0 F0 P0 p l (B :: Lst A5 H :: ts) w) (hr : Kd.R k44 44 w' w.heap.size (fun _ => True) v (m.map e4)) (hb : Below w.heap.size w w') : ∃ A c, v = .slice A m.length c ∧ m.length ≤ c ∧ Hp w0 F0 P0 p l (B :: Lst A m :: ts) w' := by
  obtain ⟨A, c, rfl, hc, h'⟩ := h.got4 hr hb
  refine ⟨A, c, rfl, hc, ?_⟩
  obtain ⟨u, h'⟩ := h'
  have h1 : Hp w0 F0 P0 p l (Lst A5 H :: B :: Lst A m :: ts) w' := ⟨u, h'.perm (((((List.Perm.swap B (Lst A m) (Lst A5 H :: ts)).trans ((List.Perm.swap (Lst A5 H) (Lst A m) ts).cons B)).trans (List.Perm.swap (Lst A5 H) B (Lst A m :: ts))).cons _).cons _)⟩
  exact h1.drop1
theorem Hp.rpush (h : Hp w0 F0 P0 p m (B :: Lst A5 (sortL H) :: ts) w) (hl : H.length ≤ 100000) (c1 : H.length ≤ c5) (x : Tm) (hm : m.Perm (x :: H)) :
    Calls Try.prog 17 #[.slice A5 H.length c5, .agg #[.int .i64 x.t, .int .i64 x.s, .int .i64 x.g]] w fun e w' => ∃ A c, e = .returned (.slice A m.length c) ∧ m.length ≤ c ∧ Hp w0 F0 P0 p m (B :: Lst A (sortL m) :: ts) w' := by
  have h1 := refPush_calls (c := c5) w x (by rw [sortL_len]; omega) h.lst (by rw [sortL_len]; exact c1)
  rw [sortL_len] at h1
  refine h1.mono ?_
  rintro e w' ⟨v, rfl, hr, hb⟩
  rw [insL_sort hm] at hr
  obtain ⟨A, c, rfl, hc, h'⟩ := h.renew hr hb
  rw [sortL_len] at hc ⊢
  exact ⟨A, c, rfl, hc, h'⟩
theorem Hp.rdrop (h : Hp w0 F0 P0 p m (B :: Lst A5 (sortL H) :: ts) w) (hl : H.length ≤ 100000) (c1 : H.length ≤ c5) (g : Int) (hm : m.Perm (dropG g H)) :
    Calls Try.prog 19 #[.slice A5 H.length c5, .int .i64 g] w fun e w' => ∃ A c, e = .returned (.slice A m.length c) ∧ m.length ≤ c ∧ Hp w0 F0 P0 p m (B :: Lst A (sortL m) :: ts) w' := by
  have h1 := refDrop_calls (c := c5) w g (by rw [sortL_len]; omega) h.lst (by rw [sortL_len]; exact c1)
  rw [sortL_len] at h1
  refine h1.mono ?_
  rintro e w' ⟨v, rfl, hr, hb⟩
  rw [dropG_sort hm] at hr
  obtain ⟨A, c, rfl, hc, h'⟩ := h.renew hr hb
  rw [sortL_len] at hc ⊢
  exact ⟨A, c, rfl, hc, h'⟩
end
section
variable {w0 w w' : World} {F0 P0 : Nat → Prop} {p : Nat} {l H m : List Tm} {ts : List Thing} {B : Thing} {A5 A7 : Option Addr} {c5 c7 n : Nat}
theorem Hp.all_n (h : Hp w0 F0 P0 p l ts w) (hlen : l.length ≤ 100000) (hn : l.length = n) :
    Calls Try.prog 14 #[.pointer (some ⟨p, 0, none⟩)] w fun e w' => ∃ A c, e = .returned (.slice A n c) ∧ n ≤ c ∧ Hp w0 F0 P0 p l (Lst A (sortL l) :: ts) w' := by
  subst hn
  exact h.all (by omega)
theorem Hp.same_n (h : Hp w0 F0 P0 p l (Lst A7 (sortL l) :: B :: Lst A5 (sortL l) :: ts) w) (hlen : l.length ≤ 100000) (hn : l.length = n) (h7 : n ≤ c7) (h5 : n ≤ c5) :
    Calls Try.prog 18 #[.slice A7 n c7, .slice A5 n c5] w fun e w' => e = .returned (.bool true) ∧ Hp w0 F0 P0 p l (B :: Lst A5 (sortL l) :: ts) w' := by
  subst hn
  have h1 := same_calls (l := sortL l) (c := c7) (c' := c5) w (by rw [sortL_len]; omega) h.now1 (by rw [sortL_len]; exact h7) h.drop1.lst (by rw [sortL_len]; exact h5)
  rw [sortL_len] at h1
  refine h1.mono ?_
  rintro e w' ⟨rfl, hd⟩
  exact ⟨rfl, h.drop1.below hd.below⟩
theorem Hp.same_one {y : Tm} (h : Hp w0 F0 P0 p l (B :: Lst A5 (y :: H) :: ts) w) (h5 : H.length + 1 ≤ c5) :
    Calls Try.prog 18 #[.slice (some ⟨w.heap.size, 0, none⟩) 1 1, .slice A5 1 c5] (w.alloc (.cells #[.int .i64 y.t, .int .i64 y.s, .int .i64 y.g] 23)) fun e w' => e = .returned (.bool true) ∧ Hp w0 F0 P0 p l (B :: Lst A5 (y :: H) :: ts) w' := by
  have h0 := h.below (below_alloc (Below.refl _ _) (.cells #[.int .i64 y.t, .int .i64 y.s, .int .i64 y.g] 23))
  have h2 := Kd.C_take (m := 1) h0.lst (by simp)
  have h1 := same_calls (l := [y]) (c := 1) (c' := c5) (w.alloc (.cells #[.int .i64 y.t, .int .i64 y.s, .int .i64 y.g] 23)) (by simp) (C_one w y) (by simp) h2 (by simp; omega)
  refine Calls.mono h1 ?_
  rintro e w' ⟨rfl, hd⟩
  exact ⟨rfl, h0.below hd.below⟩
theorem Hp.same_top {y : Tm} {l1 : List Tm} (h : Hp w0 F0 P0 p l1 (B :: Lst A5 (sortL (y :: H)) :: ts) w) (hh : isHeap (y :: H)) (hn : (y :: H).length = n) (h5 : n ≤ c5) :
    Calls Try.prog 18 #[.slice (some ⟨w.heap.size, 0, none⟩) 1 1, .slice A5 1 c5] (w.alloc (.cells #[.int .i64 y.t, .int .i64 y.s, .int .i64 y.g] 23)) fun e w' => e = .returned (.bool true) ∧ Hp w0 F0 P0 p l1 (B :: Lst A5 (sortL (y :: H)) :: ts) w' := by
  rw [sortL_pop hh] at h ⊢
  exact h.same_one (by rw [sortL_len, popL_len, hn]; rw [List.length_cons] at hn; omega)
theorem add3 (x : Addr) : x.add (1 * 3) = { block := x.block, off := x.off + 3 } := by
  simp only [Addr.add]
  split <;> simp_all
theorem Hp.cut1 {x : Tm} {l1 : List Tm} {A6 : Option Addr} (h : Hp w0 F0 P0 p l1 (Lst A5 (sortL (x :: H)) :: ts) w) (hh : isHeap (x :: H)) (hc : (x :: H).length ≤ c5) (hA : (if c5 = 1 then A5 else Option.map (fun x => ({ block := x.block, off := x.off + 3 } : Addr)) A5) = A6) : Hp w0 F0 P0 p l1 (Lst A6 (sortL (popL (x :: H))) :: ts) w := by
  refine h.valmap (fun W hW => ?_)
  have h1 := Kd.C_drop (m := 1) (c := c5) hW (by rw [sortL_len]; simp) (by rw [sortL_len]; exact hc)
  have h2 : (sortL (x :: H)).drop 1 = sortL (popL (x :: H)) := by rw [sortL_pop hh]; rfl
  rw [h2] at h1
  have h3 : (fun y : Addr => y.add (1 * kTm.sz)) = fun x => { block := x.block, off := x.off + 3 } := funext fun y => add3 y
  rw [h3, hA] at h1
  exact h1
end
set_option maxRecDepth 100000 in
set_option maxHeartbeats 8000000 in
theorem plays_calls (w : World) (A : Option Addr) (c : Nat) (l : List Dd) (hr : kDd.C w A l.length l) (hc : l.length ≤ c) (wf : (∀ d ∈ l, (Lit.int .i64 d.k).wf = true) ∧ l.length * 32 ≤ 140737488351232 ∧ l.length ≤ maxLen) :
    Calls Try.prog 7 #[.slice A l.length c] w fun e w' => e = .returned (.bool true) ∧ Below w.heap.size w w' := by
  have HR := Aside0.mk hr
  clear hr wf
  go_enter Try.func7, Try.ntmps7
  go_wp2_with (go_at_call 9; (with_reducible refine (shown_calls _).mono ?_); rintro e w1 ⟨rfl, hb⟩; have HS := Aside0.mk (Hp.new ((St.start w (fun _ => True)).below hb)); clear hb)
  go_loopg [5, 6, 7, 8, 9, 10, 11, 12, 13] 301 (fun kq v5 v6 v7 v8 v9 v10 v11 v12 v13 w' => ∃ (i : Nat) (H : List Tm) (A5 : Option Addr) (c5 : Nat), v5 = .slice A5 H.length c5 ∧ v6 = .int .i64 (i : Int) ∧ Aside0 (i + kq = 301 ∧ i ≤ l.length ∧ H.length ≤ i ∧ isHeap H ∧ H.length ≤ c5) ∧ Aside0 (i ≤ 300) ∧ Aside0 (Hp w (fun _ => False) (fun _ => True) w1.heap.size H [Lst A5 (sortL H)] w'))
  case atStart => exact ⟨0, [], none, 0, rfl, rfl, ⟨by omega, Nat.zero_le _, Nat.zero_le _, heap_nil, Nat.zero_le _⟩, ⟨by omega⟩, ⟨HS.out.start_val (fun W => by rw [show sortL [] = [] from List.length_eq_zero_iff.mp (sortL_len [])]; exact Kd.C_nil _ _)⟩⟩
  case round =>
    clear HS
    obtain ⟨i, H, A5, c5, rfl, rfl, HK, HI3, HS⟩ := hrel
    cases gk with
    | zero => exact absurd HK.out.1 (by have := HK.out.2.1; have := HI3.out; omega)
    | succ k1 =>
      obtain ⟨q1, q2, q3, q4, q5⟩ := HK.out
      by_cases hin : i < l.length
      · have c1 : decide ((i : Int) < (l.length : Int)) = true := decide_eq_true (by omega)
        have c1n : decide (i < l.length) = true := decide_eq_true (by omega)
        by_cases h300 : i < 300
        · have c2 : decide ((i : Int) < 300) = true := decide_eq_true (by omega)
          have c2n : decide (i < 300) = true := decide_eq_true (by omega)
          obtain ⟨ad, rfl, a0, a1, a2, a3⟩ := deed_elem (Kd.C_below HR.out HS.out.bel) hin
          have p1 : (0 : Int) ≤ (i : Int) := by omega
          have p2 : (i : Int) < (l.length : Int) := by omega
          have p3 : (i : Int) ≤ 300 := by omega
          have HIN := Aside0.mk (And.intro hin h300)
          obtain ⟨d, hd⟩ : ∃ d, d = l[i] := ⟨_, rfl⟩
          rw [← hd] at a0 a1 a2 a3
          clear hd hin h300
          obtain ⟨dk, ⟨xt, xs, xg⟩⟩ := d
          simp only at a0 a1 a2 a3
          obtain ⟨ad0, had⟩ : ∃ ad0, ad.add (i * 4) = ad0 := ⟨_, rfl⟩
          rw [had] at a0 a1 a2 a3
          have a4 : wr.cell? ⟨ad0.block, ad0.off + 1 + 1, none⟩ = _ := a2
          have a5 : wr.cell? ⟨ad0.block, ad0.off + 1 + 2, none⟩ = _ := a3
          clear a2 a3
          have hb0 := World.block_lt_of_cell? wr _ a0
          have HL := Aside0.mk (show H.length ≤ 100000 ∧ H.length ≤ c5 ∧ isHeap H by exact ⟨by omega, q5, q4⟩)
          clear q1 q2 q3 q4 q5
          have HB0 := Aside0.mk (HS.out.tbox #[.int .i64 xt, .int .i64 xs, .int .i64 xg] 23)
          by_cases hk0 : dk = 0
          · subst hk0
            go_wp2_with (first
              | (go_at_call 11; go_loud ((with_reducible refine (HB0.out.push HL.out.1 ⟨xt, xs, xg⟩ rfl).mono ?_); rintro e w2 ⟨rfl, hS⟩; obtain ⟨⟨z0, z1, z2⟩, z3⟩ := hS.tcells; have HS2 := Aside0.mk hS; clear hS HS HB0))
              | (go_at_call 17; go_loud ((with_reducible refine (HS2.out.rpush HL.out.1 HL.out.2.1 ⟨xt, xs, xg⟩ (push_perm H _)).mono ?_); rintro e w3 ⟨A6, c6, rfl, hc6, hS⟩; have HS3 := Aside0.mk (Hp.drop1 hS); have HC6 := Aside0.mk hc6; have HH := Aside0.mk (And.intro (pushL_len H ⟨xt, xs, xg⟩) (push_heap HL.out.2.2 ⟨xt, xs, xg⟩)); clear hS HS2))
              | (go_at_call 15; fail))
            obtain ⟨H1, hH1⟩ : ∃ H1, pushL H ⟨xt, xs, xg⟩ = H1 := ⟨_, rfl⟩
            have HH1 := Aside0.mk (show H1.length ≤ i + 1 ∧ isHeap H1 by rw [← hH1]; exact ⟨by have h1 := HH.out.1; have h2 := HK.out.2.2.1; omega, HH.out.2⟩)
            have hne : 0 < H1.length := by rw [← hH1, HH.out.1]; omega
            rw [hH1] at HS3 HC6 ⊢
            clear hH1 HH
            cases H1 with
            | nil => exact absurd hne (by simp)
            | cons y H2 =>
            clear hne
            obtain ⟨n1, hn1⟩ : ∃ n, (y :: H2).length = n := ⟨_, rfl⟩
            have n1pos : 0 < n1 := by rw [← hn1]; simp
            have n1posZ : (0 : Int) < (n1 : Int) := by omega
            have n1le : (1 : Nat) ≤ n1 := by omega
            have HLX := Aside0.mk (show (y :: H2).length ≤ 100000 ∧ (y :: H2).length = n1 from ⟨by have := HH1.out.1; have := HIN.out; omega, hn1⟩)
            have HLN := Aside0.mk (show (((y :: H2).length : Nat) : Int) = (n1 : Int) by omega)
            have hc6 : n1 ≤ c6 := by have := HC6.out; omega
            rw [hn1] at HC6 ⊢
            have hc6b : 1 ≤ c6 := by omega
            have hc6z : (1 : Int) ≤ (c6 : Int) := by omega
            clear hn1
            go_wp2_with (go_at_call 15; go_loud ((with_reducible refine (Hp.first_cons HS3.out (by have := HLX.out.1; simp at this; omega)).mono ?_); rintro e w4 ⟨rfl, hS⟩; unfold Tm.agg; have HS4 := Aside0.mk (hS.tbox #[.int .i64 y.t, .int .i64 y.s, .int .i64 y.g] 23); clear hS HS3))
            refine start_ (n := 30) (S := fun _ => True) (ds := [1, 3, 7, 22, 23, 26]) #[false, false, false, false, false, false, false, false, false, false, false, false, false, false, false, false, false, false, false, false, false, false, false, false, false, false, false, false, false, false] (by kernel_rfl) rfl rfl ?_ (fun hHeld => ?_)
            · trivial
            refine pure_ (i := 0) (N := (some 98)) (v := ?_) (a' := ?_) #[true, false, false, false, false, false, false, false, false, false, false, false, false, false, false, false, false, false, false, false, false, false, false, false, false, false, false, false, false, false] rfl rfl (by kernel_rfl) (fun _ _ _ h => h) (Or.inl ⟨by rfl, ?_⟩) ?_ ?_
            rotate_left
            · intro w'; go_simp; with_reducible rfl
            rotate_left
            · simp only [Act.put, List.setIfInBounds_toArray, List.set_cons_zero, List.set_cons_succ]; rfl
            refine pure_ (i := 2) (N := (some 100)) (v := ?_) (a' := ?_) #[true, false, true, false, false, false, false, false, false, false, false, false, false, false, false, false, false, false, false, false, false, false, false, false, false, false, false, false, false, false] rfl rfl (by kernel_rfl) (fun _ _ _ h => h) (Or.inl ⟨by rfl, ?_⟩) ?_ ?_
            rotate_left
            · intro w'; go_simp; with_reducible rfl
            rotate_left
            · simp only [Act.put, List.setIfInBounds_toArray, List.set_cons_zero, List.set_cons_succ]; rfl
            refine last_ (i := 1) (N := (some 99)) #[true, true, true, false, false, false, false, false, false, false, false, false, false, false, false, false, false, false, false, false, false, false, false, false, false, false, false, false, false, false] rfl rfl (by kernel_rfl) (by decide) (fun K hK => ?_)
            refine goes_ Try.func14 (by kernel_rfl) rfl #[.pointer (some ⟨w1.heap.size, 0, none⟩)] (by rfl) rfl rfl (by simp [Act.eval]) ?_
            with_reducible refine (Hp.all_n (Hp.below HS4.out (below_drew1 (Below.refl _ _))) HLX.out.1 HLX.out.2).mono ?_
            rintro e w5 ⟨A7, c7, rfl, hc7, hS⟩
            refine ⟨_, rfl, ?_⟩
            have HS5 := Aside0.mk hS
            have HC7 := Aside0.mk hc7
            clear hS HS4 hc7
            refine hK.out _ _ ?_
            clear hK
            refine norm_ (a' := ?_) ?_ ?_
            rotate_left
            · simp only [Act.put, List.setIfInBounds_toArray, List.set_cons_zero, List.set_cons_succ]; rfl
            refine last_ (i := 3) (N := (some 101)) #[true, true, true, true, false, false, false, false, false, false, false, false, false, false, false, false, false, false, false, false, false, false, false, false, false, false, false, false, false, false] rfl rfl (by kernel_rfl) (by decide) (fun K hK => ?_)
            refine goes_ Try.func18 (by kernel_rfl) rfl #[.slice A7 n1 c7, .slice A6 n1 c6] (by rfl) rfl rfl (by simp [Act.eval]) ?_
            with_reducible refine (Hp.same_n HS5.out HLX.out.1 HLX.out.2 HC7.out HC6.out).mono ?_
            rintro e w6 ⟨rfl, hS⟩
            refine ⟨_, rfl, ?_⟩
            have HS6 := Aside0.mk hS
            clear hS HS5
            refine hK.out _ _ ?_
            clear hK
            refine norm_ (a' := ?_) ?_ ?_
            rotate_left
            · simp only [Act.put, List.setIfInBounds_toArray, List.set_cons_zero, List.set_cons_succ]; rfl
            refine pure_ (i := 4) (N := (some 102)) (v := ?_) (a' := ?_) #[true, true, true, true, true, false, false, false, false, false, false, false, false, false, false, false, false, false, false, false, false, false, false, false, false, false, false, false, false, false] rfl rfl (by kernel_rfl) (fun _ _ _ h => h) (Or.inl ⟨by rfl, ?_⟩) ?_ ?_
            rotate_left
            · intro w'; go_simp; with_reducible rfl
            rotate_left
            · simp only [Act.put, List.setIfInBounds_toArray, List.set_cons_zero, List.set_cons_succ]; rfl
            refine pure_ (i := 5) (N := (some 103)) (v := ?_) (a' := ?_) #[true, true, true, true, true, true, false, false, false, false, false, false, false, false, false, false, false, false, false, false, false, false, false, false, false, false, false, false, false, false] rfl rfl (by kernel_rfl) (fun _ _ _ h => h) (Or.inl ⟨by rfl, ?_⟩) ?_ ?_
            rotate_left
            · intro w'; go_simp; with_reducible rfl
            rotate_left
            · simp only [Act.put, List.setIfInBounds_toArray, List.set_cons_zero, List.set_cons_succ]; rfl
            refine pure_ (i := 6) (N := (some 104)) (v := ?_) (a' := ?_) #[true, true, true, true, true, true, true, false, false, false, false, false, false, false, false, false, false, false, false, false, false, false, false, false, false, false, false, false, false, false] rfl rfl (by kernel_rfl) (fun _ _ _ h => h) (Or.inl ⟨by rfl, ?_⟩) ?_ ?_
            rotate_left
            · intro w'; go_simp; with_reducible rfl
            rotate_left
            · simp only [Act.put, List.setIfInBounds_toArray, List.set_cons_zero, List.set_cons_succ]; rfl
            refine pure_ (i := 8) (N := (some 106)) (v := ?_) (a' := ?_) #[true, true, true, true, true, true, true, false, true, false, false, false, false, false, false, false, false, false, false, false, false, false, false, false, false, false, false, false, false, false] rfl rfl (by kernel_rfl) (fun _ _ _ h => h) (Or.inl ⟨by rfl, ?_⟩) ?_ ?_
            rotate_left
            · intro w'; go_simp; with_reducible rfl
            rotate_left
            · simp only [Act.put, List.setIfInBounds_toArray, List.set_cons_zero, List.set_cons_succ]; rfl
            refine pure_ (i := 9) (N := (some 107)) (v := ?_) (a' := ?_) #[true, true, true, true, true, true, true, false, true, true, false, false, false, false, false, false, false, false, false, false, false, false, false, false, false, false, false, false, false, false] rfl rfl (by kernel_rfl) (fun _ _ _ h => h) (Or.inl ⟨by rfl, ?_⟩) ?_ ?_
            rotate_left
            · intro w'; go_simp; with_reducible rfl
            rotate_left
            · simp only [Act.put, List.setIfInBounds_toArray, List.set_cons_zero, List.set_cons_succ]; rfl
            refine last_ (i := 7) (N := (some 105)) #[true, true, true, true, true, true, true, true, true, true, false, false, false, false, false, false, false, false, false, false, false, false, false, false, false, false, false, false, false, false] rfl rfl (by kernel_rfl) (by decide) (fun K hK => ?_)
            refine goes_ Try.func13 (by kernel_rfl) rfl #[.pointer (some ⟨w1.heap.size, 0, none⟩)] (by rfl) rfl rfl (by simp [Act.eval]) ?_
            with_reducible refine (Hp.len HS6.out (n := (n1 : Int)) HLN.out).mono ?_
            rintro e w7 ⟨rfl, rfl⟩
            refine ⟨_, rfl, ?_⟩
            refine hK.out _ _ ?_
            clear hK
            refine norm_ (a' := ?_) ?_ ?_
            rotate_left
            · simp only [Act.put, List.setIfInBounds_toArray, List.set_cons_zero, List.set_cons_succ]; rfl
            refine pure_ (i := 10) (N := (some 108)) (v := ?_) (a' := ?_) #[true, true, true, true, true, true, true, true, true, true, true, false, false, false, false, false, false, false, false, false, false, false, false, false, false, false, false, false, false, false] rfl rfl (by kernel_rfl) (fun _ _ _ h => h) (Or.inl ⟨by rfl, ?_⟩) ?_ ?_
            rotate_left
            · intro w'; go_simp; with_reducible rfl
            rotate_left
            · simp only [Act.put, List.setIfInBounds_toArray, List.set_cons_zero, List.set_cons_succ]; rfl
            refine pure_ (i := 11) (N := (some 109)) (v := ?_) (a' := ?_) #[true, true, true, true, true, true, true, true, true, true, true, true, false, false, false, false, false, false, false, false, false, false, false, false, false, false, false, false, false, false] rfl rfl (by kernel_rfl) (fun _ _ _ h => h) (Or.inl ⟨by rfl, ?_⟩) ?_ ?_
            rotate_left
            · intro w'; go_simp; with_reducible rfl
            rotate_left
            · simp only [Act.put, List.setIfInBounds_toArray, List.set_cons_zero, List.set_cons_succ]; rfl
            refine pure_ (i := 12) (N := (some 110)) (v := ?_) (a' := ?_) #[true, true, true, true, true, true, true, true, true, true, true, true, true, false, false, false, false, false, false, false, false, false, false, false, false, false, false, false, false, false] rfl rfl (by kernel_rfl) (fun _ _ _ h => h) (Or.inl ⟨by rfl, ?_⟩) ?_ ?_
            rotate_left
            · intro w'; go_simp; with_reducible rfl
            rotate_left
            · simp only [Act.put, List.setIfInBounds_toArray, List.set_cons_zero, List.set_cons_succ]; rfl
            refine pure_ (i := 13) (N := (some 111)) (v := ?_) (a' := ?_) #[true, true, true, true, true, true, true, true, true, true, true, true, true, true, false, false, false, false, false, false, false, false, false, false, false, false, false, false, false, false] rfl rfl (by kernel_rfl) (fun _ _ _ h => h) (Or.inl ⟨by rfl, ?_⟩) ?_ ?_
            rotate_left
            · intro w'; go_simp; with_reducible rfl
            rotate_left
            · simp only [Act.put, List.setIfInBounds_toArray, List.set_cons_zero, List.set_cons_succ]; rfl
            refine pure_ (i := 14) (N := (some 112)) (v := ?_) (a' := ?_) #[true, true, true, true, true, true, true, true, true, true, true, true, true, true, true, false, false, false, false, false, false, false, false, false, false, false, false, false, false, false] rfl rfl (by kernel_rfl) (fun _ _ _ h => h) (Or.inl ⟨by rfl, ?_⟩) ?_ ?_
            rotate_left
            · intro w'; go_simp; with_reducible rfl
            rotate_left
            · simp only [Act.put, List.setIfInBounds_toArray, List.set_cons_zero, List.set_cons_succ]; rfl
            refine pure_ (i := 15) (N := (some 113)) (v := ?_) (a' := ?_) #[true, true, true, true, true, true, true, true, true, true, true, true, true, true, true, true, false, false, false, false, false, false, false, false, false, false, false, false, false, false] rfl rfl (by kernel_rfl) (fun _ _ _ h => h) (Or.inl ⟨by rfl, ?_⟩) ?_ ?_
            rotate_left
            · intro w'; go_simp; with_reducible rfl
            rotate_left
            · simp only [Act.put, List.setIfInBounds_toArray, List.set_cons_zero, List.set_cons_succ]; rfl
            refine pure_ (i := 16) (N := (some 114)) (v := ?_) (a' := ?_) #[true, true, true, true, true, true, true, true, true, true, true, true, true, true, true, true, true, false, false, false, false, false, false, false, false, false, false, false, false, false] rfl rfl (by kernel_rfl) (fun _ _ _ h => h) (Or.inl ⟨by rfl, ?_⟩) ?_ ?_
            rotate_left
            · intro w'; go_simp; with_reducible rfl
            rotate_left
            · simp only [Act.put, List.setIfInBounds_toArray, List.set_cons_zero, List.set_cons_succ]; rfl
            refine pure_ (i := 17) (N := (some 115)) (v := ?_) (a' := ?_) #[true, true, true, true, true, true, true, true, true, true, true, true, true, true, true, true, true, true, false, false, false, false, false, false, false, false, false, false, false, false] rfl rfl (by kernel_rfl) (fun _ _ _ h => h) (Or.inl ⟨by rfl, ?_⟩) ?_ ?_
            rotate_left
            · intro w'; go_simp; with_reducible rfl
            rotate_left
            · simp only [Act.put, List.setIfInBounds_toArray, List.set_cons_zero, List.set_cons_succ]; rfl
            refine pure_ (i := 18) (N := (some 116)) (v := ?_) (a' := ?_) #[true, true, true, true, true, true, true, true, true, true, true, true, true, true, true, true, true, true, true, false, false, false, false, false, false, false, false, false, false, false] rfl rfl (by kernel_rfl) (fun _ _ _ h => h) (Or.inl ⟨by rfl, ?_⟩) ?_ ?_
            rotate_left
            · intro w'; go_simp; with_reducible rfl
            rotate_left
            · simp only [Act.put, List.setIfInBounds_toArray, List.set_cons_zero, List.set_cons_succ]; rfl
            refine pure_ (i := 19) (N := (some 117)) (v := ?_) (a' := ?_) #[true, true, true, true, true, true, true, true, true, true, true, true, true, true, true, true, true, true, true, true, false, false, false, false, false, false, false, false, false, false] rfl rfl (by kernel_rfl) (fun _ _ _ h => h) (Or.inl ⟨by rfl, ?_⟩) ?_ ?_
            rotate_left
            · intro w'; go_simp; with_reducible rfl
            rotate_left
            · simp only [Act.put, List.setIfInBounds_toArray, List.set_cons_zero, List.set_cons_succ]; rfl
            refine pure_ (i := 20) (N := (some 118)) (v := ?_) (a' := ?_) #[true, true, true, true, true, true, true, true, true, true, true, true, true, true, true, true, true, true, true, true, true, false, false, false, false, false, false, false, false, false] rfl rfl (by kernel_rfl) (fun _ _ _ h => h) (Or.inl ⟨by rfl, ?_⟩) ?_ ?_
            rotate_left
            · intro w'; go_simp; with_reducible rfl
            rotate_left
            · simp only [Act.put, List.setIfInBounds_toArray, List.set_cons_zero, List.set_cons_succ]; rfl
            refine pure_ (i := 21) (N := (some 119)) (v := ?_) (a' := ?_) #[true, true, true, true, true, true, true, true, true, true, true, true, true, true, true, true, true, true, true, true, true, true, false, false, false, false, false, false, false, false] rfl rfl (by kernel_rfl) (fun _ _ _ h => h) (Or.inl ⟨by rfl, ?_⟩) ?_ ?_
            rotate_left
            · intro w'; go_simp; with_reducible rfl
            rotate_left
            · simp only [Act.put, List.setIfInBounds_toArray, List.set_cons_zero, List.set_cons_succ]; rfl
            refine pure_ (i := 24) (N := (some 122)) (v := ?_) (a' := ?_) #[true, true, true, true, true, true, true, true, true, true, true, true, true, true, true, true, true, true, true, true, true, true, false, false, true, false, false, false, false, false] rfl rfl (by kernel_rfl) (fun _ _ _ h => h) (Or.inl ⟨by rfl, ?_⟩) ?_ ?_
            rotate_left
            · intro w'; go_simp; with_reducible rfl
            rotate_left
            · simp only [Act.put, List.setIfInBounds_toArray, List.set_cons_zero, List.set_cons_succ]; rfl
            refine pure_ (i := 25) (N := (some 123)) (v := ?_) (a' := ?_) #[true, true, true, true, true, true, true, true, true, true, true, true, true, true, true, true, true, true, true, true, true, true, false, false, true, true, false, false, false, false] rfl rfl (by kernel_rfl) (fun _ _ _ h => h) (Or.inl ⟨by rfl, ?_⟩) ?_ ?_
            rotate_left
            · intro w'; go_simp; with_reducible rfl
            rotate_left
            · simp only [Act.put, List.setIfInBounds_toArray, List.set_cons_zero, List.set_cons_succ]; rfl
            refine last_ (i := 22) (N := (some 120)) #[true, true, true, true, true, true, true, true, true, true, true, true, true, true, true, true, true, true, true, true, true, true, true, false, true, true, false, false, false, false] rfl rfl (by kernel_rfl) (by decide) (fun K hK => ?_)
            obtain ⟨⟨g0, g1, g2⟩, g3⟩ := HS6.out.tcells
            refine value_ (w1 := ?_) (v := ?_) (by rfl) rfl ?_ ?_
            rotate_left 2
            · go_simp
              constructor
              · rfl
              · rfl
            refine hK.out _ _ ?_
            clear hK
            refine norm_ (a' := ?_) ?_ ?_
            rotate_left
            · simp only [Act.put, List.setIfInBounds_toArray, List.set_cons_zero, List.set_cons_succ]; rfl
            refine last_ (i := 23) (N := (some 121)) #[true, true, true, true, true, true, true, true, true, true, true, true, true, true, true, true, true, true, true, true, true, true, true, true, true, true, false, false, false, false] rfl rfl (by kernel_rfl) (by decide) (fun K hK => ?_)
            refine value_ (w1 := ?_) (v := ?_) (by rfl) rfl ?_ ?_
            rotate_left 2
            · go_simp
              constructor
              · rfl
              · rfl
            refine hK.out _ _ ?_
            clear hK
            refine norm_ (a' := ?_) ?_ ?_
            rotate_left
            · simp only [Act.put, List.setIfInBounds_toArray, List.set_cons_zero, List.set_cons_succ]; rfl
            refine last_ (i := 26) (N := (some 124)) #[true, true, true, true, true, true, true, true, true, true, true, true, true, true, true, true, true, true, true, true, true, true, true, true, true, true, true, false, false, false] rfl rfl (by kernel_rfl) (by decide) (fun K hK => ?_)
            refine goes_ Try.func18 (by kernel_rfl) rfl #[.slice (some ⟨w7.heap.size, 0, none⟩) 1 1, .slice A6 1 c6] (by rfl) rfl rfl (by simp [Act.eval]) ?_
            with_reducible refine (Hp.same_top HS6.out HH1.out.2 HLX.out.2 HC6.out).mono ?_
            rintro e w8 ⟨rfl, hS⟩
            refine ⟨_, rfl, ?_⟩
            have HS8 := Aside0.mk hS
            clear hS
            refine hK.out _ _ ?_
            clear hK
            refine norm_ (a' := ?_) ?_ ?_
            rotate_left
            · simp only [Act.put, List.setIfInBounds_toArray, List.set_cons_zero, List.set_cons_succ]; rfl
            refine pure_ (i := 27) (N := (some 125)) (v := ?_) (a' := ?_) #[true, true, true, true, true, true, true, true, true, true, true, true, true, true, true, true, true, true, true, true, true, true, true, true, true, true, true, true, false, false] rfl rfl (by kernel_rfl) (fun _ _ _ h => h) (Or.inl ⟨by rfl, ?_⟩) ?_ ?_
            rotate_left
            · intro w'; go_simp; with_reducible rfl
            rotate_left
            · simp only [Act.put, List.setIfInBounds_toArray, List.set_cons_zero, List.set_cons_succ]; rfl
            refine pure_ (i := 28) (N := (some 126)) (v := ?_) (a' := ?_) #[true, true, true, true, true, true, true, true, true, true, true, true, true, true, true, true, true, true, true, true, true, true, true, true, true, true, true, true, true, false] rfl rfl (by kernel_rfl) (fun _ _ _ h => h) (Or.inl ⟨by rfl, ?_⟩) ?_ ?_
            rotate_left
            · intro w'; go_simp; with_reducible rfl
            rotate_left
            · simp only [Act.put, List.setIfInBounds_toArray, List.set_cons_zero, List.set_cons_succ]; rfl
            refine pure_ (i := 29) (N := (some 127)) (v := ?_) (a' := ?_) #[true, true, true, true, true, true, true, true, true, true, true, true, true, true, true, true, true, true, true, true, true, true, true, true, true, true, true, true, true, true] rfl rfl (by kernel_rfl) (fun _ _ _ h => h) (Or.inl ⟨by rfl, ?_⟩) ?_ ?_
            rotate_left
            · intro w'; go_simp; with_reducible rfl
            rotate_left
            · simp only [Act.put, List.setIfInBounds_toArray, List.set_cons_zero, List.set_cons_succ]; rfl
            refine done_ (by kernel_rfl) ?_
            go_wp2
            go_roundg k1
            case measure => have := HK.out; omega
            case rel => exact ⟨i + 1, y :: H2, A6, c6, by rw [HLX.out.2], by first | rfl | go_num, ⟨by have := HK.out; omega, by have := HIN.out; omega, HH1.out.1, HH1.out.2, by rw [HLX.out.2]; exact HC6.out⟩, ⟨by have := HIN.out; omega⟩, ⟨HS8.out.drop1⟩⟩
          · have e0 : (dk == 0) = false := beq_eq_false_iff_ne.mpr hk0
            have e0d : decide (dk = 0) = false := decide_eq_false hk0
            by_cases hk1 : dk = 1
            · subst hk1
              clear hk0 e0
              cases H with
              | nil =>
                go_wp2_with (first
                  | (go_at_call 12; go_loud ((with_reducible refine (HB0.out.pop_nil).mono ?_); rintro e w2 ⟨rfl, hS⟩; unfold Tm.agg zeroTm; have HS2 := Aside0.mk (hS.tbox #[.int .i64 0, .int .i64 0, .int .i64 0] 23); clear hS HS HB0)))
                refine start_ (n := 16) (S := fun _ => True) (ds := [8, 9, 12]) #[false, false, false, false, false, false, false, false, false, false, false, false, false, false, false, false] (by kernel_rfl) rfl rfl ?_ (fun hHeld => ?_)
                · trivial
                refine pure_ (i := 0) (N := (some 74)) (v := ?_) (a' := ?_) #[true, false, false, false, false, false, false, false, false, false, false, false, false, false, false, false] rfl rfl (by kernel_rfl) (fun _ _ _ h => h) (Or.inl ⟨by rfl, ?_⟩) ?_ ?_
                rotate_left
                · intro w'; go_simp; with_reducible rfl
                rotate_left
                · simp only [Act.put, List.setIfInBounds_toArray, List.set_cons_zero, List.set_cons_succ]; rfl
                refine pure_ (i := 1) (N := (some 75)) (v := ?_) (a' := ?_) #[true, true, false, false, false, false, false, false, false, false, false, false, false, false, false, false] rfl rfl (by kernel_rfl) (fun _ _ _ h => h) (Or.inl ⟨by rfl, ?_⟩) ?_ ?_
                rotate_left
                · intro w'; go_simp; with_reducible rfl
                rotate_left
                · simp only [Act.put, List.setIfInBounds_toArray, List.set_cons_zero, List.set_cons_succ]; rfl
                refine pure_ (i := 2) (N := (some 76)) (v := ?_) (a' := ?_) #[true, true, true, false, false, false, false, false, false, false, false, false, false, false, false, false] rfl rfl (by kernel_rfl) (fun _ _ _ h => h) (Or.inl ⟨by rfl, ?_⟩) ?_ ?_
                rotate_left
                · intro w'; go_simp; with_reducible rfl
                rotate_left
                · simp only [Act.put, List.setIfInBounds_toArray, List.set_cons_zero, List.set_cons_succ]; rfl
                refine pure_ (i := 3) (N := (some 77)) (v := ?_) (a' := ?_) #[true, true, true, true, false, false, false, false, false, false, false, false, false, false, false, false] rfl rfl (by kernel_rfl) (fun _ _ _ h => h) (Or.inl ⟨by rfl, ?_⟩) ?_ ?_
                rotate_left
                · intro w'; go_simp; with_reducible rfl
                rotate_left
                · simp only [Act.put, List.setIfInBounds_toArray, List.set_cons_zero, List.set_cons_succ]; rfl
                refine pure_ (i := 4) (N := (some 78)) (v := ?_) (a' := ?_) #[true, true, true, true, true, false, false, false, false, false, false, false, false, false, false, false] rfl rfl (by kernel_rfl) (fun _ _ _ h => h) (Or.inl ⟨by rfl, ?_⟩) ?_ ?_
                rotate_left
                · intro w'; go_simp; with_reducible rfl
                rotate_left
                · simp only [Act.put, List.setIfInBounds_toArray, List.set_cons_zero, List.set_cons_succ]; rfl
                refine pure_ (i := 5) (N := (some 79)) (v := ?_) (a' := ?_) #[true, true, true, true, true, true, false, false, false, false, false, false, false, false, false, false] rfl rfl (by kernel_rfl) (fun _ _ _ h => h) (Or.inl ⟨by rfl, ?_⟩) ?_ ?_
                rotate_left
                · intro w'; go_simp; with_reducible rfl
                rotate_left
                · simp only [Act.put, List.setIfInBounds_toArray, List.set_cons_zero, List.set_cons_succ]; rfl
                refine pure_ (i := 6) (N := (some 80)) (v := ?_) (a' := ?_) #[true, true, true, true, true, true, true, false, false, false, false, false, false, false, false, false] rfl rfl (by kernel_rfl) (fun _ _ _ h => h) (Or.inl ⟨by rfl, ?_⟩) ?_ ?_
                rotate_left
                · intro w'; go_simp; with_reducible rfl
                rotate_left
                · simp only [Act.put, List.setIfInBounds_toArray, List.set_cons_zero, List.set_cons_succ]; rfl
                refine pure_ (i := 7) (N := (some 81)) (v := ?_) (a' := ?_) #[true, true, true, true, true, true, true, true, false, false, false, false, false, false, false, false] rfl rfl (by kernel_rfl) (fun _ _ _ h => h) (Or.inl ⟨by rfl, ?_⟩) ?_ ?_
                rotate_left
                · intro w'; go_simp; with_reducible rfl
                rotate_left
                · simp only [Act.put, List.setIfInBounds_toArray, List.set_cons_zero, List.set_cons_succ]; rfl
                refine pure_ (i := 10) (N := (some 84)) (v := undef) (a' := ?_) #[true, true, true, true, true, true, true, true, false, false, true, false, false, false, false, false] rfl rfl (by kernel_rfl) (fun _ _ _ h => h) (Or.inr ⟨by rfl, rfl⟩) ?_ ?_
                rotate_left
                · simp only [Act.put, List.setIfInBounds_toArray, List.set_cons_zero, List.set_cons_succ]; rfl
                refine pure_ (i := 11) (N := (some 85)) (v := undef) (a' := ?_) #[true, true, true, true, true, true, true, true, false, false, true, true, false, false, false, false] rfl rfl (by kernel_rfl) (fun _ _ _ h => h) (Or.inr ⟨by rfl, rfl⟩) ?_ ?_
                rotate_left
                · simp only [Act.put, List.setIfInBounds_toArray, List.set_cons_zero, List.set_cons_succ]; rfl
                refine last_ (i := 8) (N := (some 82)) #[true, true, true, true, true, true, true, true, true, false, true, true, false, false, false, false] rfl rfl (by kernel_rfl) (by decide) (fun K hK => ?_)
                refine off_ (by rfl) ?_
                refine hK.out _ _ ?_
                clear hK
                refine norm_ (a' := ?_) ?_ ?_
                rotate_left
                · simp only [Act.put, List.setIfInBounds_toArray, List.set_cons_zero, List.set_cons_succ]; rfl
                refine last_ (i := 9) (N := (some 83)) #[true, true, true, true, true, true, true, true, true, true, true, true, false, false, false, false] rfl rfl (by kernel_rfl) (by decide) (fun K hK => ?_)
                refine off_ (by rfl) ?_
                refine hK.out _ _ ?_
                clear hK
                refine norm_ (a' := ?_) ?_ ?_
                rotate_left
                · simp only [Act.put, List.setIfInBounds_toArray, List.set_cons_zero, List.set_cons_succ]; rfl
                refine last_ (i := 12) (N := (some 86)) #[true, true, true, true, true, true, true, true, true, true, true, true, true, false, false, false] rfl rfl (by kernel_rfl) (by decide) (fun K hK => ?_)
                refine off_ (by rfl) ?_
                refine hK.out _ _ ?_
                clear hK
                refine norm_ (a' := ?_) ?_ ?_
                rotate_left
                · simp only [Act.put, List.setIfInBounds_toArray, List.set_cons_zero, List.set_cons_succ]; rfl
                refine pure_ (i := 13) (N := (some 87)) (v := undef) (a' := ?_) #[true, true, true, true, true, true, true, true, true, true, true, true, true, true, false, false] rfl rfl (by kernel_rfl) (fun _ _ _ h => h) (Or.inr ⟨by rfl, rfl⟩) ?_ ?_
                rotate_left
                · simp only [Act.put, List.setIfInBounds_toArray, List.set_cons_zero, List.set_cons_succ]; rfl
                refine pure_ (i := 14) (N := (some 88)) (v := ?_) (a' := ?_) #[true, true, true, true, true, true, true, true, true, true, true, true, true, true, true, false] rfl rfl (by kernel_rfl) (fun _ _ _ h => h) (Or.inl ⟨by rfl, ?_⟩) ?_ ?_
                rotate_left
                · intro w'; go_simp; with_reducible rfl
                rotate_left
                · simp only [Act.put, List.setIfInBounds_toArray, List.set_cons_zero, List.set_cons_succ]; rfl
                refine pure_ (i := 15) (N := (some 89)) (v := ?_) (a' := ?_) #[true, true, true, true, true, true, true, true, true, true, true, true, true, true, true, true] rfl rfl (by kernel_rfl) (fun _ _ _ h => h) (Or.inl ⟨by rfl, ?_⟩) ?_ ?_
                rotate_left
                · intro w'; go_simp; with_reducible rfl
                rotate_left
                · simp only [Act.put, List.setIfInBounds_toArray, List.set_cons_zero, List.set_cons_succ]; rfl
                refine done_ (by kernel_rfl) ?_
                go_wp2_with (go_at_call 15; fail)
                have HS3 := Aside0.mk ((Hp.below HS2.out (below_drew1 (Below.refl _ _))).drop1.drop1)
                clear HS2
                obtain ⟨A6, hA6⟩ : ∃ A6, A5 = A6 := ⟨_, rfl⟩
                obtain ⟨c6, hc6⟩ : ∃ c6, c5 = c6 := ⟨_, rfl⟩
                subst hA6 hc6
                go_wp2_with (go_at_call 15; go_loud ((with_reducible refine (Hp.first_nil HS3.out).mono ?_); rintro e w4 ⟨rfl, hS⟩; unfold Tm.agg zeroTm; have HS4 := Aside0.mk (hS.tbox #[.int .i64 0, .int .i64 0, .int .i64 0] 23); clear hS HS3))
                refine start_ (n := 30) (S := fun _ => True) (ds := [1, 3, 7, 22, 23, 26]) #[false, false, false, false, false, false, false, false, false, false, false, false, false, false, false, false, false, false, false, false, false, false, false, false, false, false, false, false, false, false] (by kernel_rfl) rfl rfl ?_ (fun hHeld => ?_)
                · trivial
                refine pure_ (i := 0) (N := (some 98)) (v := ?_) (a' := ?_) #[true, false, false, false, false, false, false, false, false, false, false, false, false, false, false, false, false, false, false, false, false, false, false, false, false, false, false, false, false, false] rfl rfl (by kernel_rfl) (fun _ _ _ h => h) (Or.inl ⟨by rfl, ?_⟩) ?_ ?_
                rotate_left
                · intro w'; go_simp; with_reducible rfl
                rotate_left
                · simp only [Act.put, List.setIfInBounds_toArray, List.set_cons_zero, List.set_cons_succ]; rfl
                refine pure_ (i := 2) (N := (some 100)) (v := ?_) (a' := ?_) #[true, false, true, false, false, false, false, false, false, false, false, false, false, false, false, false, false, false, false, false, false, false, false, false, false, false, false, false, false, false] rfl rfl (by kernel_rfl) (fun _ _ _ h => h) (Or.inl ⟨by rfl, ?_⟩) ?_ ?_
                rotate_left
                · intro w'; go_simp; with_reducible rfl
                rotate_left
                · simp only [Act.put, List.setIfInBounds_toArray, List.set_cons_zero, List.set_cons_succ]; rfl
                refine last_ (i := 1) (N := (some 99)) #[true, true, true, false, false, false, false, false, false, false, false, false, false, false, false, false, false, false, false, false, false, false, false, false, false, false, false, false, false, false] rfl rfl (by kernel_rfl) (by decide) (fun K hK => ?_)
                refine goes_ Try.func14 (by kernel_rfl) rfl #[.pointer (some ⟨w1.heap.size, 0, none⟩)] (by rfl) rfl rfl (by simp [Act.eval]) ?_
                with_reducible refine (Hp.all_n (Hp.below HS4.out (below_drew1 (Below.refl _ _))) (by simp) (n := 0) rfl).mono ?_
                rintro e w5 ⟨A7, c7, rfl, hc7, hS⟩
                refine ⟨_, rfl, ?_⟩
                have HS5 := Aside0.mk hS
                have HC7 := Aside0.mk hc7
                clear hS HS4 hc7
                refine hK.out _ _ ?_
                clear hK
                refine norm_ (a' := ?_) ?_ ?_
                rotate_left
                · simp only [Act.put, List.setIfInBounds_toArray, List.set_cons_zero, List.set_cons_succ]; rfl
                refine last_ (i := 3) (N := (some 101)) #[true, true, true, true, false, false, false, false, false, false, false, false, false, false, false, false, false, false, false, false, false, false, false, false, false, false, false, false, false, false] rfl rfl (by kernel_rfl) (by decide) (fun K hK => ?_)
                refine goes_ Try.func18 (by kernel_rfl) rfl #[.slice A7 0 c7, .slice A5 0 c5] (by rfl) rfl rfl (by simp [Act.eval]) ?_
                with_reducible refine (Hp.same_n HS5.out (by simp) (n := 0) rfl (Nat.zero_le _) (Nat.zero_le _)).mono ?_
                rintro e w6 ⟨rfl, hS⟩
                refine ⟨_, rfl, ?_⟩
                have HS6 := Aside0.mk hS
                clear hS HS5
                refine hK.out _ _ ?_
                clear hK
                refine norm_ (a' := ?_) ?_ ?_
                rotate_left
                · simp only [Act.put, List.setIfInBounds_toArray, List.set_cons_zero, List.set_cons_succ]; rfl
                refine pure_ (i := 4) (N := (some 102)) (v := ?_) (a' := ?_) #[true, true, true, true, true, false, false, false, false, false, false, false, false, false, false, false, false, false, false, false, false, false, false, false, false, false, false, false, false, false] rfl rfl (by kernel_rfl) (fun _ _ _ h => h) (Or.inl ⟨by rfl, ?_⟩) ?_ ?_
                rotate_left
                · intro w'; go_simp; with_reducible rfl
                rotate_left
                · simp only [Act.put, List.setIfInBounds_toArray, List.set_cons_zero, List.set_cons_succ]; rfl
                refine pure_ (i := 5) (N := (some 103)) (v := ?_) (a' := ?_) #[true, true, true, true, true, true, false, false, false, false, false, false, false, false, false, false, false, false, false, false, false, false, false, false, false, false, false, false, false, false] rfl rfl (by kernel_rfl) (fun _ _ _ h => h) (Or.inl ⟨by rfl, ?_⟩) ?_ ?_
                rotate_left
                · intro w'; go_simp; with_reducible rfl
                rotate_left
                · simp only [Act.put, List.setIfInBounds_toArray, List.set_cons_zero, List.set_cons_succ]; rfl
                refine pure_ (i := 6) (N := (some 104)) (v := ?_) (a' := ?_) #[true, true, true, true, true, true, true, false, false, false, false, false, false, false, false, false, false, false, false, false, false, false, false, false, false, false, false, false, false, false] rfl rfl (by kernel_rfl) (fun _ _ _ h => h) (Or.inl ⟨by rfl, ?_⟩) ?_ ?_
                rotate_left
                · intro w'; go_simp; with_reducible rfl
                rotate_left
                · simp only [Act.put, List.setIfInBounds_toArray, List.set_cons_zero, List.set_cons_succ]; rfl
                refine pure_ (i := 8) (N := (some 106)) (v := ?_) (a' := ?_) #[true, true, true, true, true, true, true, false, true, false, false, false, false, false, false, false, false, false, false, false, false, false, false, false, false, false, false, false, false, false] rfl rfl (by kernel_rfl) (fun _ _ _ h => h) (Or.inl ⟨by rfl, ?_⟩) ?_ ?_
                rotate_left
                · intro w'; go_simp; with_reducible rfl
                rotate_left
                · simp only [Act.put, List.setIfInBounds_toArray, List.set_cons_zero, List.set_cons_succ]; rfl
                refine pure_ (i := 9) (N := (some 107)) (v := ?_) (a' := ?_) #[true, true, true, true, true, true, true, false, true, true, false, false, false, false, false, false, false, false, false, false, false, false, false, false, false, false, false, false, false, false] rfl rfl (by kernel_rfl) (fun _ _ _ h => h) (Or.inl ⟨by rfl, ?_⟩) ?_ ?_
                rotate_left
                · intro w'; go_simp; with_reducible rfl
                rotate_left
                · simp only [Act.put, List.setIfInBounds_toArray, List.set_cons_zero, List.set_cons_succ]; rfl
                refine last_ (i := 7) (N := (some 105)) #[true, true, true, true, true, true, true, true, true, true, false, false, false, false, false, false, false, false, false, false, false, false, false, false, false, false, false, false, false, false] rfl rfl (by kernel_rfl) (by decide) (fun K hK => ?_)
                refine goes_ Try.func13 (by kernel_rfl) rfl #[.pointer (some ⟨w1.heap.size, 0, none⟩)] (by rfl) rfl rfl (by simp [Act.eval]) ?_
                with_reducible refine (Hp.len HS6.out (n := 0) rfl).mono ?_
                rintro e w7 ⟨rfl, rfl⟩
                refine ⟨_, rfl, ?_⟩
                refine hK.out _ _ ?_
                clear hK
                refine norm_ (a' := ?_) ?_ ?_
                rotate_left
                · simp only [Act.put, List.setIfInBounds_toArray, List.set_cons_zero, List.set_cons_succ]; rfl
                refine pure_ (i := 10) (N := (some 108)) (v := ?_) (a' := ?_) #[true, true, true, true, true, true, true, true, true, true, true, false, false, false, false, false, false, false, false, false, false, false, false, false, false, false, false, false, false, false] rfl rfl (by kernel_rfl) (fun _ _ _ h => h) (Or.inl ⟨by rfl, ?_⟩) ?_ ?_
                rotate_left
                · intro w'; go_simp; with_reducible rfl
                rotate_left
                · simp only [Act.put, List.setIfInBounds_toArray, List.set_cons_zero, List.set_cons_succ]; rfl
                refine pure_ (i := 11) (N := (some 109)) (v := ?_) (a' := ?_) #[true, true, true, true, true, true, true, true, true, true, true, true, false, false, false, false, false, false, false, false, false, false, false, false, false, false, false, false, false, false] rfl rfl (by kernel_rfl) (fun _ _ _ h => h) (Or.inl ⟨by rfl, ?_⟩) ?_ ?_
                rotate_left
                · intro w'; go_simp; with_reducible rfl
                rotate_left
                · simp only [Act.put, List.setIfInBounds_toArray, List.set_cons_zero, List.set_cons_succ]; rfl
                refine pure_ (i := 12) (N := (some 110)) (v := ?_) (a' := ?_) #[true, true, true, true, true, true, true, true, true, true, true, true, true, false, false, false, false, false, false, false, false, false, false, false, false, false, false, false, false, false] rfl rfl (by kernel_rfl) (fun _ _ _ h => h) (Or.inl ⟨by rfl, ?_⟩) ?_ ?_
                rotate_left
                · intro w'; go_simp; with_reducible rfl
                rotate_left
                · simp only [Act.put, List.setIfInBounds_toArray, List.set_cons_zero, List.set_cons_succ]; rfl
                refine pure_ (i := 13) (N := (some 111)) (v := ?_) (a' := ?_) #[true, true, true, true, true, true, true, true, true, true, true, true, true, true, false, false, false, false, false, false, false, false, false, false, false, false, false, false, false, false] rfl rfl (by kernel_rfl) (fun _ _ _ h => h) (Or.inl ⟨by rfl, ?_⟩) ?_ ?_
                rotate_left
                · intro w'; go_simp; with_reducible rfl
                rotate_left
                · simp only [Act.put, List.setIfInBounds_toArray, List.set_cons_zero, List.set_cons_succ]; rfl
                refine pure_ (i := 14) (N := (some 112)) (v := ?_) (a' := ?_) #[true, true, true, true, true, true, true, true, true, true, true, true, true, true, true, false, false, false, false, false, false, false, false, false, false, false, false, false, false, false] rfl rfl (by kernel_rfl) (fun _ _ _ h => h) (Or.inl ⟨by rfl, ?_⟩) ?_ ?_
                rotate_left
                · intro w'; go_simp; with_reducible rfl
                rotate_left
                · simp only [Act.put, List.setIfInBounds_toArray, List.set_cons_zero, List.set_cons_succ]; rfl
                refine pure_ (i := 15) (N := (some 113)) (v := ?_) (a' := ?_) #[true, true, true, true, true, true, true, true, true, true, true, true, true, true, true, true, false, false, false, false, false, false, false, false, false, false, false, false, false, false] rfl rfl (by kernel_rfl) (fun _ _ _ h => h) (Or.inl ⟨by rfl, ?_⟩) ?_ ?_
                rotate_left
                · intro w'; go_simp; with_reducible rfl
                rotate_left
                · simp only [Act.put, List.setIfInBounds_toArray, List.set_cons_zero, List.set_cons_succ]; rfl
                refine pure_ (i := 16) (N := (some 114)) (v := ?_) (a' := ?_) #[true, true, true, true, true, true, true, true, true, true, true, true, true, true, true, true, true, false, false, false, false, false, false, false, false, false, false, false, false, false] rfl rfl (by kernel_rfl) (fun _ _ _ h => h) (Or.inl ⟨by rfl, ?_⟩) ?_ ?_
                rotate_left
                · intro w'; go_simp; with_reducible rfl
                rotate_left
                · simp only [Act.put, List.setIfInBounds_toArray, List.set_cons_zero, List.set_cons_succ]; rfl
                refine pure_ (i := 17) (N := (some 115)) (v := ?_) (a' := ?_) #[true, true, true, true, true, true, true, true, true, true, true, true, true, true, true, true, true, true, false, false, false, false, false, false, false, false, false, false, false, false] rfl rfl (by kernel_rfl) (fun _ _ _ h => h) (Or.inl ⟨by rfl, ?_⟩) ?_ ?_
                rotate_left
                · intro w'; go_simp; with_reducible rfl
                rotate_left
                · simp only [Act.put, List.setIfInBounds_toArray, List.set_cons_zero, List.set_cons_succ]; rfl
                refine pure_ (i := 18) (N := (some 116)) (v := ?_) (a' := ?_) #[true, true, true, true, true, true, true, true, true, true, true, true, true, true, true, true, true, true, true, false, false, false, false, false, false, false, false, false, false, false] rfl rfl (by kernel_rfl) (fun _ _ _ h => h) (Or.inl ⟨by rfl, ?_⟩) ?_ ?_
                rotate_left
                · intro w'; go_simp; with_reducible rfl
                rotate_left
                · simp only [Act.put, List.setIfInBounds_toArray, List.set_cons_zero, List.set_cons_succ]; rfl
                refine pure_ (i := 19) (N := (some 117)) (v := ?_) (a' := ?_) #[true, true, true, true, true, true, true, true, true, true, true, true, true, true, true, true, true, true, true, true, false, false, false, false, false, false, false, false, false, false] rfl rfl (by kernel_rfl) (fun _ _ _ h => h) (Or.inl ⟨by rfl, ?_⟩) ?_ ?_
                rotate_left
                · intro w'; go_simp; with_reducible rfl
                rotate_left
                · simp only [Act.put, List.setIfInBounds_toArray, List.set_cons_zero, List.set_cons_succ]; rfl
                refine pure_ (i := 20) (N := (some 118)) (v := ?_) (a' := ?_) #[true, true, true, true, true, true, true, true, true, true, true, true, true, true, true, true, true, true, true, true, true, false, false, false, false, false, false, false, false, false] rfl rfl (by kernel_rfl) (fun _ _ _ h => h) (Or.inl ⟨by rfl, ?_⟩) ?_ ?_
                rotate_left
                · intro w'; go_simp; with_reducible rfl
                rotate_left
                · simp only [Act.put, List.setIfInBounds_toArray, List.set_cons_zero, List.set_cons_succ]; rfl
                refine pure_ (i := 21) (N := (some 119)) (v := ?_) (a' := ?_) #[true, true, true, true, true, true, true, true, true, true, true, true, true, true, true, true, true, true, true, true, true, true, false, false, false, false, false, false, false, false] rfl rfl (by kernel_rfl) (fun _ _ _ h => h) (Or.inl ⟨by rfl, ?_⟩) ?_ ?_
                rotate_left
                · intro w'; go_simp; with_reducible rfl
                rotate_left
                · simp only [Act.put, List.setIfInBounds_toArray, List.set_cons_zero, List.set_cons_succ]; rfl
                refine pure_ (i := 24) (N := (some 122)) (v := undef) (a' := ?_) #[true, true, true, true, true, true, true, true, true, true, true, true, true, true, true, true, true, true, true, true, true, true, false, false, true, false, false, false, false, false] rfl rfl (by kernel_rfl) (fun _ _ _ h => h) (Or.inr ⟨by rfl, rfl⟩) ?_ ?_
                rotate_left
                · simp only [Act.put, List.setIfInBounds_toArray, List.set_cons_zero, List.set_cons_succ]; rfl
                refine pure_ (i := 25) (N := (some 123)) (v := undef) (a' := ?_) #[true, true, true, true, true, true, true, true, true, true, true, true, true, true, true, true, true, true, true, true, true, true, false, false, true, true, false, false, false, false] rfl rfl (by kernel_rfl) (fun _ _ _ h => h) (Or.inr ⟨by rfl, rfl⟩) ?_ ?_
                rotate_left
                · simp only [Act.put, List.setIfInBounds_toArray, List.set_cons_zero, List.set_cons_succ]; rfl
                refine last_ (i := 22) (N := (some 120)) #[true, true, true, true, true, true, true, true, true, true, true, true, true, true, true, true, true, true, true, true, true, true, true, false, true, true, false, false, false, false] rfl rfl (by kernel_rfl) (by decide) (fun K hK => ?_)
                refine off_ (by rfl) ?_
                refine hK.out _ _ ?_
                clear hK
                refine norm_ (a' := ?_) ?_ ?_
                rotate_left
                · simp only [Act.put, List.setIfInBounds_toArray, List.set_cons_zero, List.set_cons_succ]; rfl
                refine last_ (i := 23) (N := (some 121)) #[true, true, true, true, true, true, true, true, true, true, true, true, true, true, true, true, true, true, true, true, true, true, true, true, true, true, false, false, false, false] rfl rfl (by kernel_rfl) (by decide) (fun K hK => ?_)
                refine off_ (by rfl) ?_
                refine hK.out _ _ ?_
                clear hK
                refine norm_ (a' := ?_) ?_ ?_
                rotate_left
                · simp only [Act.put, List.setIfInBounds_toArray, List.set_cons_zero, List.set_cons_succ]; rfl
                refine last_ (i := 26) (N := (some 124)) #[true, true, true, true, true, true, true, true, true, true, true, true, true, true, true, true, true, true, true, true, true, true, true, true, true, true, true, false, false, false] rfl rfl (by kernel_rfl) (by decide) (fun K hK => ?_)
                refine off_ (by rfl) ?_
                refine hK.out _ _ ?_
                clear hK
                refine norm_ (a' := ?_) ?_ ?_
                rotate_left
                · simp only [Act.put, List.setIfInBounds_toArray, List.set_cons_zero, List.set_cons_succ]; rfl
                refine pure_ (i := 27) (N := (some 125)) (v := undef) (a' := ?_) #[true, true, true, true, true, true, true, true, true, true, true, true, true, true, true, true, true, true, true, true, true, true, true, true, true, true, true, true, false, false] rfl rfl (by kernel_rfl) (fun _ _ _ h => h) (Or.inr ⟨by rfl, rfl⟩) ?_ ?_
                rotate_left
                · simp only [Act.put, List.setIfInBounds_toArray, List.set_cons_zero, List.set_cons_succ]; rfl
                refine pure_ (i := 28) (N := (some 126)) (v := ?_) (a' := ?_) #[true, true, true, true, true, true, true, true, true, true, true, true, true, true, true, true, true, true, true, true, true, true, true, true, true, true, true, true, true, false] rfl rfl (by kernel_rfl) (fun _ _ _ h => h) (Or.inl ⟨by rfl, ?_⟩) ?_ ?_
                rotate_left
                · intro w'; go_simp; with_reducible rfl
                rotate_left
                · simp only [Act.put, List.setIfInBounds_toArray, List.set_cons_zero, List.set_cons_succ]; rfl
                refine pure_ (i := 29) (N := (some 127)) (v := ?_) (a' := ?_) #[true, true, true, true, true, true, true, true, true, true, true, true, true, true, true, true, true, true, true, true, true, true, true, true, true, true, true, true, true, true] rfl rfl (by kernel_rfl) (fun _ _ _ h => h) (Or.inl ⟨by rfl, ?_⟩) ?_ ?_
                rotate_left
                · intro w'; go_simp; with_reducible rfl
                rotate_left
                · simp only [Act.put, List.setIfInBounds_toArray, List.set_cons_zero, List.set_cons_succ]; rfl
                refine done_ (by kernel_rfl) ?_
                go_wp2
                go_roundg k1
                case measure => have := HK.out; omega
                case rel => exact ⟨i + 1, [], A5, c5, rfl, by first | rfl | go_num, ⟨by have := HK.out; omega, by have := HIN.out; omega, Nat.zero_le _, heap_nil, Nat.zero_le _⟩, ⟨by have := HIN.out; omega⟩, ⟨HS6.out.drop1⟩⟩
              | cons x H0 =>
                obtain ⟨n0, hn0⟩ : ∃ n, (x :: H0).length = n := ⟨_, rfl⟩
                have n0pos : 0 < n0 := by rw [← hn0]; simp
                have n0posZ : (0 : Int) < (n0 : Int) := by omega
                have HN0 := Aside0.mk hn0
                have HLP := Aside0.mk (show H0.length ≤ 100000 ∧ n0 ≤ c5 ∧ isHeap (x :: H0) by exact ⟨by have := HL.out.1; simp at this; omega, by rw [← hn0]; exact HL.out.2.1, HL.out.2.2⟩)
                have hc5 : n0 ≤ c5 := HLP.out.2.1
                have hc5b : 1 ≤ c5 := by omega
                have hc5z : (1 : Int) ≤ (c5 : Int) := by omega
                have n0z : (1 : Int) ≤ (n0 : Int) := by omega
                have hn5z : (n0 : Int) ≤ (c5 : Int) := by omega
                rw [hn0]
                clear hn0 HL
                go_wp2_with (first
                  | (go_at_call 12; go_loud ((with_reducible refine (HB0.out.pop_cons HLP.out.1).mono ?_); rintro e w2 ⟨rfl, hS⟩; unfold Tm.agg; have HS2 := Aside0.mk (hS.drop1.tbox #[.int .i64 x.t, .int .i64 x.s, .int .i64 x.g] 23); clear hS HS HB0)))
                refine start_ (n := 16) (S := fun _ => True) (ds := [8, 9, 12]) #[false, false, false, false, false, false, false, false, false, false, false, false, false, false, false, false] (by kernel_rfl) rfl rfl ?_ (fun hHeld => ?_)
                · trivial
                have HS2d := Aside0.mk (Hp.below HS2.out (below_drew1 (Below.refl _ _)))
                clear HS2
                obtain ⟨wd, hwd⟩ : ∃ wd, World.drew (w2.alloc (.cells #[.int .i64 x.t, .int .i64 x.s, .int .i64 x.g] 23)) = wd := ⟨_, rfl⟩
                rw [hwd] at HS2d ⊢
                clear hwd
                refine pure_ (i := 0) (N := (some 74)) (v := ?_) (a' := ?_) #[true, false, false, false, false, false, false, false, false, false, false, false, false, false, false, false] rfl rfl (by kernel_rfl) (fun _ _ _ h => h) (Or.inl ⟨by rfl, ?_⟩) ?_ ?_
                rotate_left
                · intro w'; go_simp; with_reducible rfl
                rotate_left
                · simp only [Act.put, List.setIfInBounds_toArray, List.set_cons_zero, List.set_cons_succ]; rfl
                refine pure_ (i := 1) (N := (some 75)) (v := ?_) (a' := ?_) #[true, true, false, false, false, false, false, false, false, false, false, false, false, false, false, false] rfl rfl (by kernel_rfl) (fun _ _ _ h => h) (Or.inl ⟨by rfl, ?_⟩) ?_ ?_
                rotate_left
                · intro w'; go_simp; with_reducible rfl
                rotate_left
                · simp only [Act.put, List.setIfInBounds_toArray, List.set_cons_zero, List.set_cons_succ]; rfl
                refine pure_ (i := 2) (N := (some 76)) (v := ?_) (a' := ?_) #[true, true, true, false, false, false, false, false, false, false, false, false, false, false, false, false] rfl rfl (by kernel_rfl) (fun _ _ _ h => h) (Or.inl ⟨by rfl, ?_⟩) ?_ ?_
                rotate_left
                · intro w'; go_simp; with_reducible rfl
                rotate_left
                · simp only [Act.put, List.setIfInBounds_toArray, List.set_cons_zero, List.set_cons_succ]; rfl
                refine pure_ (i := 3) (N := (some 77)) (v := ?_) (a' := ?_) #[true, true, true, true, false, false, false, false, false, false, false, false, false, false, false, false] rfl rfl (by kernel_rfl) (fun _ _ _ h => h) (Or.inl ⟨by rfl, ?_⟩) ?_ ?_
                rotate_left
                · intro w'; go_simp; with_reducible rfl
                rotate_left
                · simp only [Act.put, List.setIfInBounds_toArray, List.set_cons_zero, List.set_cons_succ]; rfl
                refine pure_ (i := 4) (N := (some 78)) (v := ?_) (a' := ?_) #[true, true, true, true, true, false, false, false, false, false, false, false, false, false, false, false] rfl rfl (by kernel_rfl) (fun _ _ _ h => h) (Or.inl ⟨by rfl, ?_⟩) ?_ ?_
                rotate_left
                · intro w'; go_simp; with_reducible rfl
                rotate_left
                · simp only [Act.put, List.setIfInBounds_toArray, List.set_cons_zero, List.set_cons_succ]; rfl
                refine pure_ (i := 5) (N := (some 79)) (v := ?_) (a' := ?_) #[true, true, true, true, true, true, false, false, false, false, false, false, false, false, false, false] rfl rfl (by kernel_rfl) (fun _ _ _ h => h) (Or.inl ⟨by rfl, ?_⟩) ?_ ?_
                rotate_left
                · intro w'; go_simp; with_reducible rfl
                rotate_left
                · simp only [Act.put, List.setIfInBounds_toArray, List.set_cons_zero, List.set_cons_succ]; rfl
                refine pure_ (i := 6) (N := (some 80)) (v := ?_) (a' := ?_) #[true, true, true, true, true, true, true, false, false, false, false, false, false, false, false, false] rfl rfl (by kernel_rfl) (fun _ _ _ h => h) (Or.inl ⟨by rfl, ?_⟩) ?_ ?_
                rotate_left
                · intro w'; go_simp; with_reducible rfl
                rotate_left
                · simp only [Act.put, List.setIfInBounds_toArray, List.set_cons_zero, List.set_cons_succ]; rfl
                refine pure_ (i := 7) (N := (some 81)) (v := ?_) (a' := ?_) #[true, true, true, true, true, true, true, true, false, false, false, false, false, false, false, false] rfl rfl (by kernel_rfl) (fun _ _ _ h => h) (Or.inl ⟨by rfl, ?_⟩) ?_ ?_
                rotate_left
                · intro w'; go_simp; with_reducible rfl
                rotate_left
                · simp only [Act.put, List.setIfInBounds_toArray, List.set_cons_zero, List.set_cons_succ]; rfl
                refine pure_ (i := 10) (N := (some 84)) (v := ?_) (a' := ?_) #[true, true, true, true, true, true, true, true, false, false, true, false, false, false, false, false] rfl rfl (by kernel_rfl) (fun _ _ _ h => h) (Or.inl ⟨by rfl, ?_⟩) ?_ ?_
                rotate_left
                · intro w'; go_simp; with_reducible rfl
                rotate_left
                · simp only [Act.put, List.setIfInBounds_toArray, List.set_cons_zero, List.set_cons_succ]; rfl
                refine pure_ (i := 11) (N := (some 85)) (v := ?_) (a' := ?_) #[true, true, true, true, true, true, true, true, false, false, true, true, false, false, false, false] rfl rfl (by kernel_rfl) (fun _ _ _ h => h) (Or.inl ⟨by rfl, ?_⟩) ?_ ?_
                rotate_left
                · intro w'; go_simp; with_reducible rfl
                rotate_left
                · simp only [Act.put, List.setIfInBounds_toArray, List.set_cons_zero, List.set_cons_succ]; rfl
                refine last_ (i := 8) (N := (some 82)) #[true, true, true, true, true, true, true, true, true, false, true, true, false, false, false, false] rfl rfl (by kernel_rfl) (by decide) (fun K hK => ?_)
                obtain ⟨⟨g0, g1, g2⟩, g3⟩ := HS2d.out.tcells
                refine value_ (w1 := ?_) (v := ?_) (by rfl) rfl ?_ ?_
                rotate_left 2
                · go_simp
                  constructor
                  · rfl
                  · rfl
                refine hK.out _ _ ?_
                clear hK
                refine norm_ (a' := ?_) ?_ ?_
                rotate_left
                · simp only [Act.put, List.setIfInBounds_toArray, List.set_cons_zero, List.set_cons_succ]; rfl
                refine last_ (i := 9) (N := (some 83)) #[true, true, true, true, true, true, true, true, true, true, true, true, false, false, false, false] rfl rfl (by kernel_rfl) (by decide) (fun K hK => ?_)
                refine value_ (w1 := ?_) (v := ?_) (by rfl) rfl ?_ ?_
                rotate_left 2
                · go_simp
                  constructor
                  · rfl
                  · rfl
                refine hK.out _ _ ?_
                clear hK
                refine norm_ (a' := ?_) ?_ ?_
                rotate_left
                · simp only [Act.put, List.setIfInBounds_toArray, List.set_cons_zero, List.set_cons_succ]; rfl
                refine last_ (i := 12) (N := (some 86)) #[true, true, true, true, true, true, true, true, true, true, true, true, true, false, false, false] rfl rfl (by kernel_rfl) (by decide) (fun K hK => ?_)
                refine goes_ Try.func18 (by kernel_rfl) rfl #[.slice (some ⟨wd.heap.size, 0, none⟩) 1 1, .slice A5 1 c5] (by rfl) rfl rfl (by simp [Act.eval]) ?_
                with_reducible refine (Hp.same_top HS2d.out HLP.out.2.2 HN0.out HLP.out.2.1).mono ?_
                rintro e w8 ⟨rfl, hS⟩
                refine ⟨_, rfl, ?_⟩
                have HS8p := Aside0.mk hS.drop1
                clear hS HS2d
                refine hK.out _ _ ?_
                clear hK
                refine norm_ (a' := ?_) ?_ ?_
                rotate_left
                · simp only [Act.put, List.setIfInBounds_toArray, List.set_cons_zero, List.set_cons_succ]; rfl
                refine pure_ (i := 13) (N := (some 87)) (v := ?_) (a' := ?_) #[true, true, true, true, true, true, true, true, true, true, true, true, true, true, false, false] rfl rfl (by kernel_rfl) (fun _ _ _ h => h) (Or.inl ⟨by rfl, ?_⟩) ?_ ?_
                rotate_left
                · intro w'; go_simp; with_reducible rfl
                rotate_left
                · simp only [Act.put, List.setIfInBounds_toArray, List.set_cons_zero, List.set_cons_succ]; rfl
                refine pure_ (i := 14) (N := (some 88)) (v := ?_) (a' := ?_) #[true, true, true, true, true, true, true, true, true, true, true, true, true, true, true, false] rfl rfl (by kernel_rfl) (fun _ _ _ h => h) (Or.inl ⟨by rfl, ?_⟩) ?_ ?_
                rotate_left
                · intro w'; go_simp; with_reducible rfl
                rotate_left
                · simp only [Act.put, List.setIfInBounds_toArray, List.set_cons_zero, List.set_cons_succ]; rfl
                refine pure_ (i := 15) (N := (some 89)) (v := ?_) (a' := ?_) #[true, true, true, true, true, true, true, true, true, true, true, true, true, true, true, true] rfl rfl (by kernel_rfl) (fun _ _ _ h => h) (Or.inl ⟨by rfl, ?_⟩) ?_ ?_
                rotate_left
                · intro w'; go_simp; with_reducible rfl
                rotate_left
                · simp only [Act.put, List.setIfInBounds_toArray, List.set_cons_zero, List.set_cons_succ]; rfl
                refine done_ (by kernel_rfl) ?_
                obtain ⟨A6, hA6⟩ : ∃ A6, (if c5 = 1 then A5 else Option.map (fun x => ({ block := x.block, off := x.off + 3 } : Addr)) A5) = A6 := ⟨_, rfl⟩
                have HS3 := Aside0.mk (Hp.cut1 HS8p.out HLP.out.2.2 (by rw [HN0.out]; exact HLP.out.2.1) hA6)
                clear HS8p
                have HPL := Aside0.mk (show (popL (x :: H0)).length = n0 - 1 ∧ isHeap (popL (x :: H0)) from ⟨by rw [popL_len, HN0.out], pop_heap HLP.out.2.2⟩)
                have HPI := Aside0.mk (show n0 ≤ i by rw [← HN0.out]; exact HK.out.2.2.1)
                obtain ⟨c6, hc6⟩ : ∃ c6, c5 - 1 = c6 := ⟨_, rfl⟩
                have HC6 : Aside0 (n0 - 1 ≤ c6) := ⟨by rw [← hc6]; have := HLP.out.2.1; omega⟩
                by_cases hcc : c5 = 1
                · have hn1 : n0 = 1 := by omega
                  subst hn1
                  subst hcc
                  obtain ⟨H1, hH1⟩ : ∃ H1, popL (x :: H0) = H1 := ⟨_, rfl⟩
                  rw [hH1] at HS3 HPL
                  cases H1 with
                  | cons y H2 => exact absurd HPL.out.1 (by simp)
                  | nil =>
                  rw [if_pos rfl] at hA6
                  subst hA6
                  clear hH1 HPL hc6 HC6 HLP HN0
                  go_wp2_with (go_at_call 15; fail)
                  go_wp2_with (go_at_call 15; go_loud ((with_reducible refine (Hp.first_nil HS3.out).mono ?_); rintro e w4 ⟨rfl, hS⟩; unfold Tm.agg zeroTm; have HS4 := Aside0.mk (hS.tbox #[.int .i64 0, .int .i64 0, .int .i64 0] 23); clear hS HS3))
                  refine start_ (n := 30) (S := fun _ => True) (ds := [1, 3, 7, 22, 23, 26]) #[false, false, false, false, false, false, false, false, false, false, false, false, false, false, false, false, false, false, false, false, false, false, false, false, false, false, false, false, false, false] (by kernel_rfl) rfl rfl ?_ (fun hHeld => ?_)
                  · trivial
                  refine pure_ (i := 0) (N := (some 98)) (v := ?_) (a' := ?_) #[true, false, false, false, false, false, false, false, false, false, false, false, false, false, false, false, false, false, false, false, false, false, false, false, false, false, false, false, false, false] rfl rfl (by kernel_rfl) (fun _ _ _ h => h) (Or.inl ⟨by rfl, ?_⟩) ?_ ?_
                  rotate_left
                  · intro w'; go_simp; with_reducible rfl
                  rotate_left
                  · simp only [Act.put, List.setIfInBounds_toArray, List.set_cons_zero, List.set_cons_succ]; rfl
                  refine pure_ (i := 2) (N := (some 100)) (v := ?_) (a' := ?_) #[true, false, true, false, false, false, false, false, false, false, false, false, false, false, false, false, false, false, false, false, false, false, false, false, false, false, false, false, false, false] rfl rfl (by kernel_rfl) (fun _ _ _ h => h) (Or.inl ⟨by rfl, ?_⟩) ?_ ?_
                  rotate_left
                  · intro w'; go_simp; with_reducible rfl
                  rotate_left
                  · simp only [Act.put, List.setIfInBounds_toArray, List.set_cons_zero, List.set_cons_succ]; rfl
                  refine last_ (i := 1) (N := (some 99)) #[true, true, true, false, false, false, false, false, false, false, false, false, false, false, false, false, false, false, false, false, false, false, false, false, false, false, false, false, false, false] rfl rfl (by kernel_rfl) (by decide) (fun K hK => ?_)
                  refine goes_ Try.func14 (by kernel_rfl) rfl #[.pointer (some ⟨w1.heap.size, 0, none⟩)] (by rfl) rfl rfl (by simp [Act.eval]) ?_
                  with_reducible refine (Hp.all_n (Hp.below HS4.out (below_drew1 (Below.refl _ _))) (by simp) (n := 0) rfl).mono ?_
                  rintro e w5 ⟨A7, c7, rfl, hc7, hS⟩
                  refine ⟨_, rfl, ?_⟩
                  have HS5 := Aside0.mk hS
                  have HC7 := Aside0.mk hc7
                  clear hS HS4 hc7
                  refine hK.out _ _ ?_
                  clear hK
                  refine norm_ (a' := ?_) ?_ ?_
                  rotate_left
                  · simp only [Act.put, List.setIfInBounds_toArray, List.set_cons_zero, List.set_cons_succ]; rfl
                  refine last_ (i := 3) (N := (some 101)) #[true, true, true, true, false, false, false, false, false, false, false, false, false, false, false, false, false, false, false, false, false, false, false, false, false, false, false, false, false, false] rfl rfl (by kernel_rfl) (by decide) (fun K hK => ?_)
                  refine goes_ Try.func18 (by kernel_rfl) rfl #[.slice A7 0 c7, .slice A5 0 0] (by rfl) rfl rfl (by simp [Act.eval]) ?_
                  with_reducible refine (Hp.same_n HS5.out (by simp) (n := 0) rfl (Nat.zero_le _) (Nat.zero_le _)).mono ?_
                  rintro e w6 ⟨rfl, hS⟩
                  refine ⟨_, rfl, ?_⟩
                  have HS6 := Aside0.mk hS
                  clear hS HS5
                  refine hK.out _ _ ?_
                  clear hK
                  refine norm_ (a' := ?_) ?_ ?_
                  rotate_left
                  · simp only [Act.put, List.setIfInBounds_toArray, List.set_cons_zero, List.set_cons_succ]; rfl
                  refine pure_ (i := 4) (N := (some 102)) (v := ?_) (a' := ?_) #[true, true, true, true, true, false, false, false, false, false, false, false, false, false, false, false, false, false, false, false, false, false, false, false, false, false, false, false, false, false] rfl rfl (by kernel_rfl) (fun _ _ _ h => h) (Or.inl ⟨by rfl, ?_⟩) ?_ ?_
                  rotate_left
                  · intro w'; go_simp; with_reducible rfl
                  rotate_left
                  · simp only [Act.put, List.setIfInBounds_toArray, List.set_cons_zero, List.set_cons_succ]; rfl
                  refine pure_ (i := 5) (N := (some 103)) (v := ?_) (a' := ?_) #[true, true, true, true, true, true, false, false, false, false, false, false, false, false, false, false, false, false, false, false, false, false, false, false, false, false, false, false, false, false] rfl rfl (by kernel_rfl) (fun _ _ _ h => h) (Or.inl ⟨by rfl, ?_⟩) ?_ ?_
                  rotate_left
                  · intro w'; go_simp; with_reducible rfl
                  rotate_left
                  · simp only [Act.put, List.setIfInBounds_toArray, List.set_cons_zero, List.set_cons_succ]; rfl
                  refine pure_ (i := 6) (N := (some 104)) (v := ?_) (a' := ?_) #[true, true, true, true, true, true, true, false, false, false, false, false, false, false, false, false, false, false, false, false, false, false, false, false, false, false, false, false, false, false] rfl rfl (by kernel_rfl) (fun _ _ _ h => h) (Or.inl ⟨by rfl, ?_⟩) ?_ ?_
                  rotate_left
                  · intro w'; go_simp; with_reducible rfl
                  rotate_left
                  · simp only [Act.put, List.setIfInBounds_toArray, List.set_cons_zero, List.set_cons_succ]; rfl
                  refine pure_ (i := 8) (N := (some 106)) (v := ?_) (a' := ?_) #[true, true, true, true, true, true, true, false, true, false, false, false, false, false, false, false, false, false, false, false, false, false, false, false, false, false, false, false, false, false] rfl rfl (by kernel_rfl) (fun _ _ _ h => h) (Or.inl ⟨by rfl, ?_⟩) ?_ ?_
                  rotate_left
                  · intro w'; go_simp; with_reducible rfl
                  rotate_left
                  · simp only [Act.put, List.setIfInBounds_toArray, List.set_cons_zero, List.set_cons_succ]; rfl
                  refine pure_ (i := 9) (N := (some 107)) (v := ?_) (a' := ?_) #[true, true, true, true, true, true, true, false, true, true, false, false, false, false, false, false, false, false, false, false, false, false, false, false, false, false, false, false, false, false] rfl rfl (by kernel_rfl) (fun _ _ _ h => h) (Or.inl ⟨by rfl, ?_⟩) ?_ ?_
                  rotate_left
                  · intro w'; go_simp; with_reducible rfl
                  rotate_left
                  · simp only [Act.put, List.setIfInBounds_toArray, List.set_cons_zero, List.set_cons_succ]; rfl
                  refine last_ (i := 7) (N := (some 105)) #[true, true, true, true, true, true, true, true, true, true, false, false, false, false, false, false, false, false, false, false, false, false, false, false, false, false, false, false, false, false] rfl rfl (by kernel_rfl) (by decide) (fun K hK => ?_)
                  refine goes_ Try.func13 (by kernel_rfl) rfl #[.pointer (some ⟨w1.heap.size, 0, none⟩)] (by rfl) rfl rfl (by simp [Act.eval]) ?_
                  with_reducible refine (Hp.len HS6.out (n := 0) rfl).mono ?_
                  rintro e w7 ⟨rfl, rfl⟩
                  refine ⟨_, rfl, ?_⟩
                  refine hK.out _ _ ?_
                  clear hK
                  refine norm_ (a' := ?_) ?_ ?_
                  rotate_left
                  · simp only [Act.put, List.setIfInBounds_toArray, List.set_cons_zero, List.set_cons_succ]; rfl
                  refine pure_ (i := 10) (N := (some 108)) (v := ?_) (a' := ?_) #[true, true, true, true, true, true, true, true, true, true, true, false, false, false, false, false, false, false, false, false, false, false, false, false, false, false, false, false, false, false] rfl rfl (by kernel_rfl) (fun _ _ _ h => h) (Or.inl ⟨by rfl, ?_⟩) ?_ ?_
                  rotate_left
                  · intro w'; go_simp; with_reducible rfl
                  rotate_left
                  · simp only [Act.put, List.setIfInBounds_toArray, List.set_cons_zero, List.set_cons_succ]; rfl
                  refine pure_ (i := 11) (N := (some 109)) (v := ?_) (a' := ?_) #[true, true, true, true, true, true, true, true, true, true, true, true, false, false, false, false, false, false, false, false, false, false, false, false, false, false, false, false, false, false] rfl rfl (by kernel_rfl) (fun _ _ _ h => h) (Or.inl ⟨by rfl, ?_⟩) ?_ ?_
                  rotate_left
                  · intro w'; go_simp; with_reducible rfl
                  rotate_left
                  · simp only [Act.put, List.setIfInBounds_toArray, List.set_cons_zero, List.set_cons_succ]; rfl
                  refine pure_ (i := 12) (N := (some 110)) (v := ?_) (a' := ?_) #[true, true, true, true, true, true, true, true, true, true, true, true, true, false, false, false, false, false, false, false, false, false, false, false, false, false, false, false, false, false] rfl rfl (by kernel_rfl) (fun _ _ _ h => h) (Or.inl ⟨by rfl, ?_⟩) ?_ ?_
                  rotate_left
                  · intro w'; go_simp; with_reducible rfl
                  rotate_left
                  · simp only [Act.put, List.setIfInBounds_toArray, List.set_cons_zero, List.set_cons_succ]; rfl
                  refine pure_ (i := 13) (N := (some 111)) (v := ?_) (a' := ?_) #[true, true, true, true, true, true, true, true, true, true, true, true, true, true, false, false, false, false, false, false, false, false, false, false, false, false, false, false, false, false] rfl rfl (by kernel_rfl) (fun _ _ _ h => h) (Or.inl ⟨by rfl, ?_⟩) ?_ ?_
                  rotate_left
                  · intro w'; go_simp; with_reducible rfl
                  rotate_left
                  · simp only [Act.put, List.setIfInBounds_toArray, List.set_cons_zero, List.set_cons_succ]; rfl
                  refine pure_ (i := 14) (N := (some 112)) (v := ?_) (a' := ?_) #[true, true, true, true, true, true, true, true, true, true, true, true, true, true, true, false, false, false, false, false, false, false, false, false, false, false, false, false, false, false] rfl rfl (by kernel_rfl) (fun _ _ _ h => h) (Or.inl ⟨by rfl, ?_⟩) ?_ ?_
                  rotate_left
                  · intro w'; go_simp; with_reducible rfl
                  rotate_left
                  · simp only [Act.put, List.setIfInBounds_toArray, List.set_cons_zero, List.set_cons_succ]; rfl
                  refine pure_ (i := 15) (N := (some 113)) (v := ?_) (a' := ?_) #[true, true, true, true, true, true, true, true, true, true, true, true, true, true, true, true, false, false, false, false, false, false, false, false, false, false, false, false, false, false] rfl rfl (by kernel_rfl) (fun _ _ _ h => h) (Or.inl ⟨by rfl, ?_⟩) ?_ ?_
                  rotate_left
                  · intro w'; go_simp; with_reducible rfl
                  rotate_left
                  · simp only [Act.put, List.setIfInBounds_toArray, List.set_cons_zero, List.set_cons_succ]; rfl
                  refine pure_ (i := 16) (N := (some 114)) (v := ?_) (a' := ?_) #[true, true, true, true, true, true, true, true, true, true, true, true, true, true, true, true, true, false, false, false, false, false, false, false, false, false, false, false, false, false] rfl rfl (by kernel_rfl) (fun _ _ _ h => h) (Or.inl ⟨by rfl, ?_⟩) ?_ ?_
                  rotate_left
                  · intro w'; go_simp; with_reducible rfl
                  rotate_left
                  · simp only [Act.put, List.setIfInBounds_toArray, List.set_cons_zero, List.set_cons_succ]; rfl
                  refine pure_ (i := 17) (N := (some 115)) (v := ?_) (a' := ?_) #[true, true, true, true, true, true, true, true, true, true, true, true, true, true, true, true, true, true, false, false, false, false, false, false, false, false, false, false, false, false] rfl rfl (by kernel_rfl) (fun _ _ _ h => h) (Or.inl ⟨by rfl, ?_⟩) ?_ ?_
                  rotate_left
                  · intro w'; go_simp; with_reducible rfl
                  rotate_left
                  · simp only [Act.put, List.setIfInBounds_toArray, List.set_cons_zero, List.set_cons_succ]; rfl
                  refine pure_ (i := 18) (N := (some 116)) (v := ?_) (a' := ?_) #[true, true, true, true, true, true, true, true, true, true, true, true, true, true, true, true, true, true, true, false, false, false, false, false, false, false, false, false, false, false] rfl rfl (by kernel_rfl) (fun _ _ _ h => h) (Or.inl ⟨by rfl, ?_⟩) ?_ ?_
                  rotate_left
                  · intro w'; go_simp; with_reducible rfl
                  rotate_left
                  · simp only [Act.put, List.setIfInBounds_toArray, List.set_cons_zero, List.set_cons_succ]; rfl
                  refine pure_ (i := 19) (N := (some 117)) (v := ?_) (a' := ?_) #[true, true, true, true, true, true, true, true, true, true, true, true, true, true, true, true, true, true, true, true, false, false, false, false, false, false, false, false, false, false] rfl rfl (by kernel_rfl) (fun _ _ _ h => h) (Or.inl ⟨by rfl, ?_⟩) ?_ ?_
                  rotate_left
                  · intro w'; go_simp; with_reducible rfl
                  rotate_left
                  · simp only [Act.put, List.setIfInBounds_toArray, List.set_cons_zero, List.set_cons_succ]; rfl
                  refine pure_ (i := 20) (N := (some 118)) (v := ?_) (a' := ?_) #[true, true, true, true, true, true, true, true, true, true, true, true, true, true, true, true, true, true, true, true, true, false, false, false, false, false, false, false, false, false] rfl rfl (by kernel_rfl) (fun _ _ _ h => h) (Or.inl ⟨by rfl, ?_⟩) ?_ ?_
                  rotate_left
                  · intro w'; go_simp; with_reducible rfl
                  rotate_left
                  · simp only [Act.put, List.setIfInBounds_toArray, List.set_cons_zero, List.set_cons_succ]; rfl
                  refine pure_ (i := 21) (N := (some 119)) (v := ?_) (a' := ?_) #[true, true, true, true, true, true, true, true, true, true, true, true, true, true, true, true, true, true, true, true, true, true, false, false, false, false, false, false, false, false] rfl rfl (by kernel_rfl) (fun _ _ _ h => h) (Or.inl ⟨by rfl, ?_⟩) ?_ ?_
                  rotate_left
                  · intro w'; go_simp; with_reducible rfl
                  rotate_left
                  · simp only [Act.put, List.setIfInBounds_toArray, List.set_cons_zero, List.set_cons_succ]; rfl
                  refine pure_ (i := 24) (N := (some 122)) (v := undef) (a' := ?_) #[true, true, true, true, true, true, true, true, true, true, true, true, true, true, true, true, true, true, true, true, true, true, false, false, true, false, false, false, false, false] rfl rfl (by kernel_rfl) (fun _ _ _ h => h) (Or.inr ⟨by rfl, rfl⟩) ?_ ?_
                  rotate_left
                  · simp only [Act.put, List.setIfInBounds_toArray, List.set_cons_zero, List.set_cons_succ]; rfl
                  refine pure_ (i := 25) (N := (some 123)) (v := undef) (a' := ?_) #[true, true, true, true, true, true, true, true, true, true, true, true, true, true, true, true, true, true, true, true, true, true, false, false, true, true, false, false, false, false] rfl rfl (by kernel_rfl) (fun _ _ _ h => h) (Or.inr ⟨by rfl, rfl⟩) ?_ ?_
                  rotate_left
                  · simp only [Act.put, List.setIfInBounds_toArray, List.set_cons_zero, List.set_cons_succ]; rfl
                  refine last_ (i := 22) (N := (some 120)) #[true, true, true, true, true, true, true, true, true, true, true, true, true, true, true, true, true, true, true, true, true, true, true, false, true, true, false, false, false, false] rfl rfl (by kernel_rfl) (by decide) (fun K hK => ?_)
                  refine off_ (by rfl) ?_
                  refine hK.out _ _ ?_
                  clear hK
                  refine norm_ (a' := ?_) ?_ ?_
                  rotate_left
                  · simp only [Act.put, List.setIfInBounds_toArray, List.set_cons_zero, List.set_cons_succ]; rfl
                  refine last_ (i := 23) (N := (some 121)) #[true, true, true, true, true, true, true, true, true, true, true, true, true, true, true, true, true, true, true, true, true, true, true, true, true, true, false, false, false, false] rfl rfl (by kernel_rfl) (by decide) (fun K hK => ?_)
                  refine off_ (by rfl) ?_
                  refine hK.out _ _ ?_
                  clear hK
                  refine norm_ (a' := ?_) ?_ ?_
                  rotate_left
                  · simp only [Act.put, List.setIfInBounds_toArray, List.set_cons_zero, List.set_cons_succ]; rfl
                  refine last_ (i := 26) (N := (some 124)) #[true, true, true, true, true, true, true, true, true, true, true, true, true, true, true, true, true, true, true, true, true, true, true, true, true, true, true, false, false, false] rfl rfl (by kernel_rfl) (by decide) (fun K hK => ?_)
                  refine off_ (by rfl) ?_
                  refine hK.out _ _ ?_
                  clear hK
                  refine norm_ (a' := ?_) ?_ ?_
                  rotate_left
                  · simp only [Act.put, List.setIfInBounds_toArray, List.set_cons_zero, List.set_cons_succ]; rfl
                  refine pure_ (i := 27) (N := (some 125)) (v := undef) (a' := ?_) #[true, true, true, true, true, true, true, true, true, true, true, true, true, true, true, true, true, true, true, true, true, true, true, true, true, true, true, true, false, false] rfl rfl (by kernel_rfl) (fun _ _ _ h => h) (Or.inr ⟨by rfl, rfl⟩) ?_ ?_
                  rotate_left
                  · simp only [Act.put, List.setIfInBounds_toArray, List.set_cons_zero, List.set_cons_succ]; rfl
                  refine pure_ (i := 28) (N := (some 126)) (v := ?_) (a' := ?_) #[true, true, true, true, true, true, true, true, true, true, true, true, true, true, true, true, true, true, true, true, true, true, true, true, true, true, true, true, true, false] rfl rfl (by kernel_rfl) (fun _ _ _ h => h) (Or.inl ⟨by rfl, ?_⟩) ?_ ?_
                  rotate_left
                  · intro w'; go_simp; with_reducible rfl
                  rotate_left
                  · simp only [Act.put, List.setIfInBounds_toArray, List.set_cons_zero, List.set_cons_succ]; rfl
                  refine pure_ (i := 29) (N := (some 127)) (v := ?_) (a' := ?_) #[true, true, true, true, true, true, true, true, true, true, true, true, true, true, true, true, true, true, true, true, true, true, true, true, true, true, true, true, true, true] rfl rfl (by kernel_rfl) (fun _ _ _ h => h) (Or.inl ⟨by rfl, ?_⟩) ?_ ?_
                  rotate_left
                  · intro w'; go_simp; with_reducible rfl
                  rotate_left
                  · simp only [Act.put, List.setIfInBounds_toArray, List.set_cons_zero, List.set_cons_succ]; rfl
                  refine done_ (by kernel_rfl) ?_
                  go_wp2
                  go_roundg k1
                  case measure => have := HK.out; omega
                  case rel => exact ⟨i + 1, [], A5, 0, rfl, by first | rfl | go_num, ⟨by have := HK.out; omega, by have := HIN.out; omega, Nat.zero_le _, heap_nil, Nat.zero_le _⟩, ⟨by have := HIN.out; omega⟩, ⟨HS6.out.drop1⟩⟩
                · rw [if_neg hcc] at hA6
                  have hcc2 : ¬ (c5 - 1 = 0) := by omega
                  go_wp2_with (go_at_call 15; fail)
                  obtain ⟨H1, hH1⟩ : ∃ H1, popL (x :: H0) = H1 := ⟨_, rfl⟩
                  rw [hH1] at HS3 HPL
                  have HH1 := Aside0.mk (show H1.length ≤ i + 1 ∧ isHeap H1 from ⟨by have h1 := HPL.out.1; have h2 := HPI.out; omega, HPL.out.2⟩)
                  rw [← HPL.out.1] at HC6 ⊢
                  clear hH1 HPL HPI HLP HN0 hc5 hc5b hc5z n0z hn5z n0pos n0posZ hcc hcc2 hc6 hA6
                  cases H1 with
                  | nil =>
                    rw [show ([] : List Tm).length = 0 from rfl]
                    go_wp2_with (go_at_call 15; go_loud ((with_reducible refine (Hp.first_nil HS3.out).mono ?_); rintro e w4 ⟨rfl, hS⟩; unfold Tm.agg zeroTm; have HS4 := Aside0.mk (hS.tbox #[.int .i64 0, .int .i64 0, .int .i64 0] 23); clear hS HS3))
                    refine start_ (n := 30) (S := fun _ => True) (ds := [1, 3, 7, 22, 23, 26]) #[false, false, false, false, false, false, false, false, false, false, false, false, false, false, false, false, false, false, false, false, false, false, false, false, false, false, false, false, false, false] (by kernel_rfl) rfl rfl ?_ (fun hHeld => ?_)
                    · trivial
                    refine pure_ (i := 0) (N := (some 98)) (v := ?_) (a' := ?_) #[true, false, false, false, false, false, false, false, false, false, false, false, false, false, false, false, false, false, false, false, false, false, false, false, false, false, false, false, false, false] rfl rfl (by kernel_rfl) (fun _ _ _ h => h) (Or.inl ⟨by rfl, ?_⟩) ?_ ?_
                    rotate_left
                    · intro w'; go_simp; with_reducible rfl
                    rotate_left
                    · simp only [Act.put, List.setIfInBounds_toArray, List.set_cons_zero, List.set_cons_succ]; rfl
                    refine pure_ (i := 2) (N := (some 100)) (v := ?_) (a' := ?_) #[true, false, true, false, false, false, false, false, false, false, false, false, false, false, false, false, false, false, false, false, false, false, false, false, false, false, false, false, false, false] rfl rfl (by kernel_rfl) (fun _ _ _ h => h) (Or.inl ⟨by rfl, ?_⟩) ?_ ?_
                    rotate_left
                    · intro w'; go_simp; with_reducible rfl
                    rotate_left
                    · simp only [Act.put, List.setIfInBounds_toArray, List.set_cons_zero, List.set_cons_succ]; rfl
                    refine last_ (i := 1) (N := (some 99)) #[true, true, true, false, false, false, false, false, false, false, false, false, false, false, false, false, false, false, false, false, false, false, false, false, false, false, false, false, false, false] rfl rfl (by kernel_rfl) (by decide) (fun K hK => ?_)
                    refine goes_ Try.func14 (by kernel_rfl) rfl #[.pointer (some ⟨w1.heap.size, 0, none⟩)] (by rfl) rfl rfl (by simp [Act.eval]) ?_
                    with_reducible refine (Hp.all_n (Hp.below HS4.out (below_drew1 (Below.refl _ _))) (by simp) (n := 0) rfl).mono ?_
                    rintro e w5 ⟨A7, c7, rfl, hc7, hS⟩
                    refine ⟨_, rfl, ?_⟩
                    have HS5 := Aside0.mk hS
                    have HC7 := Aside0.mk hc7
                    clear hS HS4 hc7
                    refine hK.out _ _ ?_
                    clear hK
                    refine norm_ (a' := ?_) ?_ ?_
                    rotate_left
                    · simp only [Act.put, List.setIfInBounds_toArray, List.set_cons_zero, List.set_cons_succ]; rfl
                    refine last_ (i := 3) (N := (some 101)) #[true, true, true, true, false, false, false, false, false, false, false, false, false, false, false, false, false, false, false, false, false, false, false, false, false, false, false, false, false, false] rfl rfl (by kernel_rfl) (by decide) (fun K hK => ?_)
                    refine goes_ Try.func18 (by kernel_rfl) rfl #[.slice A7 0 c7, .slice A6 0 c6] (by rfl) rfl rfl (by simp [Act.eval]) ?_
                    with_reducible refine (Hp.same_n HS5.out (by simp) (n := 0) rfl (Nat.zero_le _) (Nat.zero_le _)).mono ?_
                    rintro e w6 ⟨rfl, hS⟩
                    refine ⟨_, rfl, ?_⟩
                    have HS6 := Aside0.mk hS
                    clear hS HS5
                    refine hK.out _ _ ?_
                    clear hK
                    refine norm_ (a' := ?_) ?_ ?_
                    rotate_left
                    · simp only [Act.put, List.setIfInBounds_toArray, List.set_cons_zero, List.set_cons_succ]; rfl
                    refine pure_ (i := 4) (N := (some 102)) (v := ?_) (a' := ?_) #[true, true, true, true, true, false, false, false, false, false, false, false, false, false, false, false, false, false, false, false, false, false, false, false, false, false, false, false, false, false] rfl rfl (by kernel_rfl) (fun _ _ _ h => h) (Or.inl ⟨by rfl, ?_⟩) ?_ ?_
                    rotate_left
                    · intro w'; go_simp; with_reducible rfl
                    rotate_left
                    · simp only [Act.put, List.setIfInBounds_toArray, List.set_cons_zero, List.set_cons_succ]; rfl
                    refine pure_ (i := 5) (N := (some 103)) (v := ?_) (a' := ?_) #[true, true, true, true, true, true, false, false, false, false, false, false, false, false, false, false, false, false, false, false, false, false, false, false, false, false, false, false, false, false] rfl rfl (by kernel_rfl) (fun _ _ _ h => h) (Or.inl ⟨by rfl, ?_⟩) ?_ ?_
                    rotate_left
                    · intro w'; go_simp; with_reducible rfl
                    rotate_left
                    · simp only [Act.put, List.setIfInBounds_toArray, List.set_cons_zero, List.set_cons_succ]; rfl
                    refine pure_ (i := 6) (N := (some 104)) (v := ?_) (a' := ?_) #[true, true, true, true, true, true, true, false, false, false, false, false, false, false, false, false, false, false, false, false, false, false, false, false, false, false, false, false, false, false] rfl rfl (by kernel_rfl) (fun _ _ _ h => h) (Or.inl ⟨by rfl, ?_⟩) ?_ ?_
                    rotate_left
                    · intro w'; go_simp; with_reducible rfl
                    rotate_left
                    · simp only [Act.put, List.setIfInBounds_toArray, List.set_cons_zero, List.set_cons_succ]; rfl
                    refine pure_ (i := 8) (N := (some 106)) (v := ?_) (a' := ?_) #[true, true, true, true, true, true, true, false, true, false, false, false, false, false, false, false, false, false, false, false, false, false, false, false, false, false, false, false, false, false] rfl rfl (by kernel_rfl) (fun _ _ _ h => h) (Or.inl ⟨by rfl, ?_⟩) ?_ ?_
                    rotate_left
                    · intro w'; go_simp; with_reducible rfl
                    rotate_left
                    · simp only [Act.put, List.setIfInBounds_toArray, List.set_cons_zero, List.set_cons_succ]; rfl
                    refine pure_ (i := 9) (N := (some 107)) (v := ?_) (a' := ?_) #[true, true, true, true, true, true, true, false, true, true, false, false, false, false, false, false, false, false, false, false, false, false, false, false, false, false, false, false, false, false] rfl rfl (by kernel_rfl) (fun _ _ _ h => h) (Or.inl ⟨by rfl, ?_⟩) ?_ ?_
                    rotate_left
                    · intro w'; go_simp; with_reducible rfl
                    rotate_left
                    · simp only [Act.put, List.setIfInBounds_toArray, List.set_cons_zero, List.set_cons_succ]; rfl
                    refine last_ (i := 7) (N := (some 105)) #[true, true, true, true, true, true, true, true, true, true, false, false, false, false, false, false, false, false, false, false, false, false, false, false, false, false, false, false, false, false] rfl rfl (by kernel_rfl) (by decide) (fun K hK => ?_)
                    refine goes_ Try.func13 (by kernel_rfl) rfl #[.pointer (some ⟨w1.heap.size, 0, none⟩)] (by rfl) rfl rfl (by simp [Act.eval]) ?_
                    with_reducible refine (Hp.len HS6.out (n := 0) rfl).mono ?_
                    rintro e w7 ⟨rfl, rfl⟩
                    refine ⟨_, rfl, ?_⟩
                    refine hK.out _ _ ?_
                    clear hK
                    refine norm_ (a' := ?_) ?_ ?_
                    rotate_left
                    · simp only [Act.put, List.setIfInBounds_toArray, List.set_cons_zero, List.set_cons_succ]; rfl
                    refine pure_ (i := 10) (N := (some 108)) (v := ?_) (a' := ?_) #[true, true, true, true, true, true, true, true, true, true, true, false, false, false, false, false, false, false, false, false, false, false, false, false, false, false, false, false, false, false] rfl rfl (by kernel_rfl) (fun _ _ _ h => h) (Or.inl ⟨by rfl, ?_⟩) ?_ ?_
                    rotate_left
                    · intro w'; go_simp; with_reducible rfl
                    rotate_left
                    · simp only [Act.put, List.setIfInBounds_toArray, List.set_cons_zero, List.set_cons_succ]; rfl
                    refine pure_ (i := 11) (N := (some 109)) (v := ?_) (a' := ?_) #[true, true, true, true, true, true, true, true, true, true, true, true, false, false, false, false, false, false, false, false, false, false, false, false, false, false, false, false, false, false] rfl rfl (by kernel_rfl) (fun _ _ _ h => h) (Or.inl ⟨by rfl, ?_⟩) ?_ ?_
                    rotate_left
                    · intro w'; go_simp; with_reducible rfl
                    rotate_left
                    · simp only [Act.put, List.setIfInBounds_toArray, List.set_cons_zero, List.set_cons_succ]; rfl
                    refine pure_ (i := 12) (N := (some 110)) (v := ?_) (a' := ?_) #[true, true, true, true, true, true, true, true, true, true, true, true, true, false, false, false, false, false, false, false, false, false, false, false, false, false, false, false, false, false] rfl rfl (by kernel_rfl) (fun _ _ _ h => h) (Or.inl ⟨by rfl, ?_⟩) ?_ ?_
                    rotate_left
                    · intro w'; go_simp; with_reducible rfl
                    rotate_left
                    · simp only [Act.put, List.setIfInBounds_toArray, List.set_cons_zero, List.set_cons_succ]; rfl
                    refine pure_ (i := 13) (N := (some 111)) (v := ?_) (a' := ?_) #[true, true, true, true, true, true, true, true, true, true, true, true, true, true, false, false, false, false, false, false, false, false, false, false, false, false, false, false, false, false] rfl rfl (by kernel_rfl) (fun _ _ _ h => h) (Or.inl ⟨by rfl, ?_⟩) ?_ ?_
                    rotate_left
                    · intro w'; go_simp; with_reducible rfl
                    rotate_left
                    · simp only [Act.put, List.setIfInBounds_toArray, List.set_cons_zero, List.set_cons_succ]; rfl
                    refine pure_ (i := 14) (N := (some 112)) (v := ?_) (a' := ?_) #[true, true, true, true, true, true, true, true, true, true, true, true, true, true, true, false, false, false, false, false, false, false, false, false, false, false, false, false, false, false] rfl rfl (by kernel_rfl) (fun _ _ _ h => h) (Or.inl ⟨by rfl, ?_⟩) ?_ ?_
                    rotate_left
                    · intro w'; go_simp; with_reducible rfl
                    rotate_left
                    · simp only [Act.put, List.setIfInBounds_toArray, List.set_cons_zero, List.set_cons_succ]; rfl
                    refine pure_ (i := 15) (N := (some 113)) (v := ?_) (a' := ?_) #[true, true, true, true, true, true, true, true, true, true, true, true, true, true, true, true, false, false, false, false, false, false, false, false, false, false, false, false, false, false] rfl rfl (by kernel_rfl) (fun _ _ _ h => h) (Or.inl ⟨by rfl, ?_⟩) ?_ ?_
                    rotate_left
                    · intro w'; go_simp; with_reducible rfl
                    rotate_left
                    · simp only [Act.put, List.setIfInBounds_toArray, List.set_cons_zero, List.set_cons_succ]; rfl
                    refine pure_ (i := 16) (N := (some 114)) (v := ?_) (a' := ?_) #[true, true, true, true, true, true, true, true, true, true, true, true, true, true, true, true, true, false, false, false, false, false, false, false, false, false, false, false, false, false] rfl rfl (by kernel_rfl) (fun _ _ _ h => h) (Or.inl ⟨by rfl, ?_⟩) ?_ ?_
                    rotate_left
                    · intro w'; go_simp; with_reducible rfl
                    rotate_left
                    · simp only [Act.put, List.setIfInBounds_toArray, List.set_cons_zero, List.set_cons_succ]; rfl
                    refine pure_ (i := 17) (N := (some 115)) (v := ?_) (a' := ?_) #[true, true, true, true, true, true, true, true, true, true, true, true, true, true, true, true, true, true, false, false, false, false, false, false, false, false, false, false, false, false] rfl rfl (by kernel_rfl) (fun _ _ _ h => h) (Or.inl ⟨by rfl, ?_⟩) ?_ ?_
                    rotate_left
                    · intro w'; go_simp; with_reducible rfl
                    rotate_left
                    · simp only [Act.put, List.setIfInBounds_toArray, List.set_cons_zero, List.set_cons_succ]; rfl
                    refine pure_ (i := 18) (N := (some 116)) (v := ?_) (a' := ?_) #[true, true, true, true, true, true, true, true, true, true, true, true, true, true, true, true, true, true, true, false, false, false, false, false, false, false, false, false, false, false] rfl rfl (by kernel_rfl) (fun _ _ _ h => h) (Or.inl ⟨by rfl, ?_⟩) ?_ ?_
                    rotate_left
                    · intro w'; go_simp; with_reducible rfl
                    rotate_left
                    · simp only [Act.put, List.setIfInBounds_toArray, List.set_cons_zero, List.set_cons_succ]; rfl
                    refine pure_ (i := 19) (N := (some 117)) (v := ?_) (a' := ?_) #[true, true, true, true, true, true, true, true, true, true, true, true, true, true, true, true, true, true, true, true, false, false, false, false, false, false, false, false, false, false] rfl rfl (by kernel_rfl) (fun _ _ _ h => h) (Or.inl ⟨by rfl, ?_⟩) ?_ ?_
                    rotate_left
                    · intro w'; go_simp; with_reducible rfl
                    rotate_left
                    · simp only [Act.put, List.setIfInBounds_toArray, List.set_cons_zero, List.set_cons_succ]; rfl
                    refine pure_ (i := 20) (N := (some 118)) (v := ?_) (a' := ?_) #[true, true, true, true, true, true, true, true, true, true, true, true, true, true, true, true, true, true, true, true, true, false, false, false, false, false, false, false, false, false] rfl rfl (by kernel_rfl) (fun _ _ _ h => h) (Or.inl ⟨by rfl, ?_⟩) ?_ ?_
                    rotate_left
                    · intro w'; go_simp; with_reducible rfl
                    rotate_left
                    · simp only [Act.put, List.setIfInBounds_toArray, List.set_cons_zero, List.set_cons_succ]; rfl
                    refine pure_ (i := 21) (N := (some 119)) (v := ?_) (a' := ?_) #[true, true, true, true, true, true, true, true, true, true, true, true, true, true, true, true, true, true, true, true, true, true, false, false, false, false, false, false, false, false] rfl rfl (by kernel_rfl) (fun _ _ _ h => h) (Or.inl ⟨by rfl, ?_⟩) ?_ ?_
                    rotate_left
                    · intro w'; go_simp; with_reducible rfl
                    rotate_left
                    · simp only [Act.put, List.setIfInBounds_toArray, List.set_cons_zero, List.set_cons_succ]; rfl
                    refine pure_ (i := 24) (N := (some 122)) (v := undef) (a' := ?_) #[true, true, true, true, true, true, true, true, true, true, true, true, true, true, true, true, true, true, true, true, true, true, false, false, true, false, false, false, false, false] rfl rfl (by kernel_rfl) (fun _ _ _ h => h) (Or.inr ⟨by rfl, rfl⟩) ?_ ?_
                    rotate_left
                    · simp only [Act.put, List.setIfInBounds_toArray, List.set_cons_zero, List.set_cons_succ]; rfl
                    refine pure_ (i := 25) (N := (some 123)) (v := undef) (a' := ?_) #[true, true, true, true, true, true, true, true, true, true, true, true, true, true, true, true, true, true, true, true, true, true, false, false, true, true, false, false, false, false] rfl rfl (by kernel_rfl) (fun _ _ _ h => h) (Or.inr ⟨by rfl, rfl⟩) ?_ ?_
                    rotate_left
                    · simp only [Act.put, List.setIfInBounds_toArray, List.set_cons_zero, List.set_cons_succ]; rfl
                    refine last_ (i := 22) (N := (some 120)) #[true, true, true, true, true, true, true, true, true, true, true, true, true, true, true, true, true, true, true, true, true, true, true, false, true, true, false, false, false, false] rfl rfl (by kernel_rfl) (by decide) (fun K hK => ?_)
                    refine off_ (by rfl) ?_
                    refine hK.out _ _ ?_
                    clear hK
                    refine norm_ (a' := ?_) ?_ ?_
                    rotate_left
                    · simp only [Act.put, List.setIfInBounds_toArray, List.set_cons_zero, List.set_cons_succ]; rfl
                    refine last_ (i := 23) (N := (some 121)) #[true, true, true, true, true, true, true, true, true, true, true, true, true, true, true, true, true, true, true, true, true, true, true, true, true, true, false, false, false, false] rfl rfl (by kernel_rfl) (by decide) (fun K hK => ?_)
                    refine off_ (by rfl) ?_
                    refine hK.out _ _ ?_
                    clear hK
                    refine norm_ (a' := ?_) ?_ ?_
                    rotate_left
                    · simp only [Act.put, List.setIfInBounds_toArray, List.set_cons_zero, List.set_cons_succ]; rfl
                    refine last_ (i := 26) (N := (some 124)) #[true, true, true, true, true, true, true, true, true, true, true, true, true, true, true, true, true, true, true, true, true, true, true, true, true, true, true, false, false, false] rfl rfl (by kernel_rfl) (by decide) (fun K hK => ?_)
                    refine off_ (by rfl) ?_
                    refine hK.out _ _ ?_
                    clear hK
                    refine norm_ (a' := ?_) ?_ ?_
                    rotate_left
                    · simp only [Act.put, List.setIfInBounds_toArray, List.set_cons_zero, List.set_cons_succ]; rfl
                    refine pure_ (i := 27) (N := (some 125)) (v := undef) (a' := ?_) #[true, true, true, true, true, true, true, true, true, true, true, true, true, true, true, true, true, true, true, true, true, true, true, true, true, true, true, true, false, false] rfl rfl (by kernel_rfl) (fun _ _ _ h => h) (Or.inr ⟨by rfl, rfl⟩) ?_ ?_
                    rotate_left
                    · simp only [Act.put, List.setIfInBounds_toArray, List.set_cons_zero, List.set_cons_succ]; rfl
                    refine pure_ (i := 28) (N := (some 126)) (v := ?_) (a' := ?_) #[true, true, true, true, true, true, true, true, true, true, true, true, true, true, true, true, true, true, true, true, true, true, true, true, true, true, true, true, true, false] rfl rfl (by kernel_rfl) (fun _ _ _ h => h) (Or.inl ⟨by rfl, ?_⟩) ?_ ?_
                    rotate_left
                    · intro w'; go_simp; with_reducible rfl
                    rotate_left
                    · simp only [Act.put, List.setIfInBounds_toArray, List.set_cons_zero, List.set_cons_succ]; rfl
                    refine pure_ (i := 29) (N := (some 127)) (v := ?_) (a' := ?_) #[true, true, true, true, true, true, true, true, true, true, true, true, true, true, true, true, true, true, true, true, true, true, true, true, true, true, true, true, true, true] rfl rfl (by kernel_rfl) (fun _ _ _ h => h) (Or.inl ⟨by rfl, ?_⟩) ?_ ?_
                    rotate_left
                    · intro w'; go_simp; with_reducible rfl
                    rotate_left
                    · simp only [Act.put, List.setIfInBounds_toArray, List.set_cons_zero, List.set_cons_succ]; rfl
                    refine done_ (by kernel_rfl) ?_
                    go_wp2
                    go_roundg k1
                    case measure => have := HK.out; omega
                    case rel => exact ⟨i + 1, [], A6, c6, rfl, by first | rfl | go_num, ⟨by have := HK.out; omega, by have := HIN.out; omega, Nat.zero_le _, heap_nil, Nat.zero_le _⟩, ⟨by have := HIN.out; omega⟩, ⟨HS6.out.drop1⟩⟩
                  | cons y H2 =>
                    obtain ⟨n1, hn1⟩ : ∃ n, (y :: H2).length = n := ⟨_, rfl⟩
                    have n1pos : 0 < n1 := by rw [← hn1]; simp
                    have n1posZ : (0 : Int) < (n1 : Int) := by omega
                    have n1le : (1 : Nat) ≤ n1 := by omega
                    have HLX := Aside0.mk (show (y :: H2).length ≤ 100000 ∧ (y :: H2).length = n1 from ⟨by have := HH1.out.1; have := HIN.out; omega, hn1⟩)
                    have HLN := Aside0.mk (show (((y :: H2).length : Nat) : Int) = (n1 : Int) by omega)
                    have hc6 : n1 ≤ c6 := by have := HC6.out; omega
                    rw [hn1] at HC6 ⊢
                    have hc6b : 1 ≤ c6 := by omega
                    have hc6z : (1 : Int) ≤ (c6 : Int) := by omega
                    clear hn1
                    go_wp2_with (go_at_call 15; go_loud ((with_reducible refine (Hp.first_cons HS3.out (by have := HLX.out.1; simp at this; omega)).mono ?_); rintro e w4 ⟨rfl, hS⟩; unfold Tm.agg; have HS4 := Aside0.mk (hS.tbox #[.int .i64 y.t, .int .i64 y.s, .int .i64 y.g] 23); clear hS HS3))
                    refine start_ (n := 30) (S := fun _ => True) (ds := [1, 3, 7, 22, 23, 26]) #[false, false, false, false, false, false, false, false, false, false, false, false, false, false, false, false, false, false, false, false, false, false, false, false, false, false, false, false, false, false] (by kernel_rfl) rfl rfl ?_ (fun hHeld => ?_)
                    · trivial
                    refine pure_ (i := 0) (N := (some 98)) (v := ?_) (a' := ?_) #[true, false, false, false, false, false, false, false, false, false, false, false, false, false, false, false, false, false, false, false, false, false, false, false, false, false, false, false, false, false] rfl rfl (by kernel_rfl) (fun _ _ _ h => h) (Or.inl ⟨by rfl, ?_⟩) ?_ ?_
                    rotate_left
                    · intro w'; go_simp; with_reducible rfl
                    rotate_left
                    · simp only [Act.put, List.setIfInBounds_toArray, List.set_cons_zero, List.set_cons_succ]; rfl
                    refine pure_ (i := 2) (N := (some 100)) (v := ?_) (a' := ?_) #[true, false, true, false, false, false, false, false, false, false, false, false, false, false, false, false, false, false, false, false, false, false, false, false, false, false, false, false, false, false] rfl rfl (by kernel_rfl) (fun _ _ _ h => h) (Or.inl ⟨by rfl, ?_⟩) ?_ ?_
                    rotate_left
                    · intro w'; go_simp; with_reducible rfl
                    rotate_left
                    · simp only [Act.put, List.setIfInBounds_toArray, List.set_cons_zero, List.set_cons_succ]; rfl
                    refine last_ (i := 1) (N := (some 99)) #[true, true, true, false, false, false, false, false, false, false, false, false, false, false, false, false, false, false, false, false, false, false, false, false, false, false, false, false, false, false] rfl rfl (by kernel_rfl) (by decide) (fun K hK => ?_)
                    refine goes_ Try.func14 (by kernel_rfl) rfl #[.pointer (some ⟨w1.heap.size, 0, none⟩)] (by rfl) rfl rfl (by simp [Act.eval]) ?_
                    with_reducible refine (Hp.all_n (Hp.below HS4.out (below_drew1 (Below.refl _ _))) HLX.out.1 HLX.out.2).mono ?_
                    rintro e w5 ⟨A7, c7, rfl, hc7, hS⟩
                    refine ⟨_, rfl, ?_⟩
                    have HS5 := Aside0.mk hS
                    have HC7 := Aside0.mk hc7
                    clear hS HS4 hc7
                    refine hK.out _ _ ?_
                    clear hK
                    refine norm_ (a' := ?_) ?_ ?_
                    rotate_left
                    · simp only [Act.put, List.setIfInBounds_toArray, List.set_cons_zero, List.set_cons_succ]; rfl
                    refine last_ (i := 3) (N := (some 101)) #[true, true, true, true, false, false, false, false, false, false, false, false, false, false, false, false, false, false, false, false, false, false, false, false, false, false, false, false, false, false] rfl rfl (by kernel_rfl) (by decide) (fun K hK => ?_)
                    refine goes_ Try.func18 (by kernel_rfl) rfl #[.slice A7 n1 c7, .slice A6 n1 c6] (by rfl) rfl rfl (by simp [Act.eval]) ?_
                    with_reducible refine (Hp.same_n HS5.out HLX.out.1 HLX.out.2 HC7.out HC6.out).mono ?_
                    rintro e w6 ⟨rfl, hS⟩
                    refine ⟨_, rfl, ?_⟩
                    have HS6 := Aside0.mk hS
                    clear hS HS5
                    refine hK.out _ _ ?_
                    clear hK
                    refine norm_ (a' := ?_) ?_ ?_
                    rotate_left
                    · simp only [Act.put, List.setIfInBounds_toArray, List.set_cons_zero, List.set_cons_succ]; rfl
                    refine pure_ (i := 4) (N := (some 102)) (v := ?_) (a' := ?_) #[true, true, true, true, true, false, false, false, false, false, false, false, false, false, false, false, false, false, false, false, false, false, false, false, false, false, false, false, false, false] rfl rfl (by kernel_rfl) (fun _ _ _ h => h) (Or.inl ⟨by rfl, ?_⟩) ?_ ?_
                    rotate_left
                    · intro w'; go_simp; with_reducible rfl
                    rotate_left
                    · simp only [Act.put, List.setIfInBounds_toArray, List.set_cons_zero, List.set_cons_succ]; rfl
                    refine pure_ (i := 5) (N := (some 103)) (v := ?_) (a' := ?_) #[true, true, true, true, true, true, false, false, false, false, false, false, false, false, false, false, false, false, false, false, false, false, false, false, false, false, false, false, false, false] rfl rfl (by kernel_rfl) (fun _ _ _ h => h) (Or.inl ⟨by rfl, ?_⟩) ?_ ?_
                    rotate_left
                    · intro w'; go_simp; with_reducible rfl
                    rotate_left
                    · simp only [Act.put, List.setIfInBounds_toArray, List.set_cons_zero, List.set_cons_succ]; rfl
                    refine pure_ (i := 6) (N := (some 104)) (v := ?_) (a' := ?_) #[true, true, true, true, true, true, true, false, false, false, false, false, false, false, false, false, false, false, false, false, false, false, false, false, false, false, false, false, false, false] rfl rfl (by kernel_rfl) (fun _ _ _ h => h) (Or.inl ⟨by rfl, ?_⟩) ?_ ?_
                    rotate_left
                    · intro w'; go_simp; with_reducible rfl
                    rotate_left
                    · simp only [Act.put, List.setIfInBounds_toArray, List.set_cons_zero, List.set_cons_succ]; rfl
                    refine pure_ (i := 8) (N := (some 106)) (v := ?_) (a' := ?_) #[true, true, true, true, true, true, true, false, true, false, false, false, false, false, false, false, false, false, false, false, false, false, false, false, false, false, false, false, false, false] rfl rfl (by kernel_rfl) (fun _ _ _ h => h) (Or.inl ⟨by rfl, ?_⟩) ?_ ?_
                    rotate_left
                    · intro w'; go_simp; with_reducible rfl
                    rotate_left
                    · simp only [Act.put, List.setIfInBounds_toArray, List.set_cons_zero, List.set_cons_succ]; rfl
                    refine pure_ (i := 9) (N := (some 107)) (v := ?_) (a' := ?_) #[true, true, true, true, true, true, true, false, true, true, false, false, false, false, false, false, false, false, false, false, false, false, false, false, false, false, false, false, false, false] rfl rfl (by kernel_rfl) (fun _ _ _ h => h) (Or.inl ⟨by rfl, ?_⟩) ?_ ?_
                    rotate_left
                    · intro w'; go_simp; with_reducible rfl
                    rotate_left
                    · simp only [Act.put, List.setIfInBounds_toArray, List.set_cons_zero, List.set_cons_succ]; rfl
                    refine last_ (i := 7) (N := (some 105)) #[true, true, true, true, true, true, true, true, true, true, false, false, false, false, false, false, false, false, false, false, false, false, false, false, false, false, false, false, false, false] rfl rfl (by kernel_rfl) (by decide) (fun K hK => ?_)
                    refine goes_ Try.func13 (by kernel_rfl) rfl #[.pointer (some ⟨w1.heap.size, 0, none⟩)] (by rfl) rfl rfl (by simp [Act.eval]) ?_
                    with_reducible refine (Hp.len HS6.out (n := (n1 : Int)) HLN.out).mono ?_
                    rintro e w7 ⟨rfl, rfl⟩
                    refine ⟨_, rfl, ?_⟩
                    refine hK.out _ _ ?_
                    clear hK
                    refine norm_ (a' := ?_) ?_ ?_
                    rotate_left
                    · simp only [Act.put, List.setIfInBounds_toArray, List.set_cons_zero, List.set_cons_succ]; rfl
                    refine pure_ (i := 10) (N := (some 108)) (v := ?_) (a' := ?_) #[true, true, true, true, true, true, true, true, true, true, true, false, false, false, false, false, false, false, false, false, false, false, false, false, false, false, false, false, false, false] rfl rfl (by kernel_rfl) (fun _ _ _ h => h) (Or.inl ⟨by rfl, ?_⟩) ?_ ?_
                    rotate_left
                    · intro w'; go_simp; with_reducible rfl
                    rotate_left
                    · simp only [Act.put, List.setIfInBounds_toArray, List.set_cons_zero, List.set_cons_succ]; rfl
                    refine pure_ (i := 11) (N := (some 109)) (v := ?_) (a' := ?_) #[true, true, true, true, true, true, true, true, true, true, true, true, false, false, false, false, false, false, false, false, false, false, false, false, false, false, false, false, false, false] rfl rfl (by kernel_rfl) (fun _ _ _ h => h) (Or.inl ⟨by rfl, ?_⟩) ?_ ?_
                    rotate_left
                    · intro w'; go_simp; with_reducible rfl
                    rotate_left
                    · simp only [Act.put, List.setIfInBounds_toArray, List.set_cons_zero, List.set_cons_succ]; rfl
                    refine pure_ (i := 12) (N := (some 110)) (v := ?_) (a' := ?_) #[true, true, true, true, true, true, true, true, true, true, true, true, true, false, false, false, false, false, false, false, false, false, false, false, false, false, false, false, false, false] rfl rfl (by kernel_rfl) (fun _ _ _ h => h) (Or.inl ⟨by rfl, ?_⟩) ?_ ?_
                    rotate_left
                    · intro w'; go_simp; with_reducible rfl
                    rotate_left
                    · simp only [Act.put, List.setIfInBounds_toArray, List.set_cons_zero, List.set_cons_succ]; rfl
                    refine pure_ (i := 13) (N := (some 111)) (v := ?_) (a' := ?_) #[true, true, true, true, true, true, true, true, true, true, true, true, true, true, false, false, false, false, false, false, false, false, false, false, false, false, false, false, false, false] rfl rfl (by kernel_rfl) (fun _ _ _ h => h) (Or.inl ⟨by rfl, ?_⟩) ?_ ?_
                    rotate_left
                    · intro w'; go_simp; with_reducible rfl
                    rotate_left
                    · simp only [Act.put, List.setIfInBounds_toArray, List.set_cons_zero, List.set_cons_succ]; rfl
                    refine pure_ (i := 14) (N := (some 112)) (v := ?_) (a' := ?_) #[true, true, true, true, true, true, true, true, true, true, true, true, true, true, true, false, false, false, false, false, false, false, false, false, false, false, false, false, false, false] rfl rfl (by kernel_rfl) (fun _ _ _ h => h) (Or.inl ⟨by rfl, ?_⟩) ?_ ?_
                    rotate_left
                    · intro w'; go_simp; with_reducible rfl
                    rotate_left
                    · simp only [Act.put, List.setIfInBounds_toArray, List.set_cons_zero, List.set_cons_succ]; rfl
                    refine pure_ (i := 15) (N := (some 113)) (v := ?_) (a' := ?_) #[true, true, true, true, true, true, true, true, true, true, true, true, true, true, true, true, false, false, false, false, false, false, false, false, false, false, false, false, false, false] rfl rfl (by kernel_rfl) (fun _ _ _ h => h) (Or.inl ⟨by rfl, ?_⟩) ?_ ?_
                    rotate_left
                    · intro w'; go_simp; with_reducible rfl
                    rotate_left
                    · simp only [Act.put, List.setIfInBounds_toArray, List.set_cons_zero, List.set_cons_succ]; rfl
                    refine pure_ (i := 16) (N := (some 114)) (v := ?_) (a' := ?_) #[true, true, true, true, true, true, true, true, true, true, true, true, true, true, true, true, true, false, false, false, false, false, false, false, false, false, false, false, false, false] rfl rfl (by kernel_rfl) (fun _ _ _ h => h) (Or.inl ⟨by rfl, ?_⟩) ?_ ?_
                    rotate_left
                    · intro w'; go_simp; with_reducible rfl
                    rotate_left
                    · simp only [Act.put, List.setIfInBounds_toArray, List.set_cons_zero, List.set_cons_succ]; rfl
                    refine pure_ (i := 17) (N := (some 115)) (v := ?_) (a' := ?_) #[true, true, true, true, true, true, true, true, true, true, true, true, true, true, true, true, true, true, false, false, false, false, false, false, false, false, false, false, false, false] rfl rfl (by kernel_rfl) (fun _ _ _ h => h) (Or.inl ⟨by rfl, ?_⟩) ?_ ?_
                    rotate_left
                    · intro w'; go_simp; with_reducible rfl
                    rotate_left
                    · simp only [Act.put, List.setIfInBounds_toArray, List.set_cons_zero, List.set_cons_succ]; rfl
                    refine pure_ (i := 18) (N := (some 116)) (v := ?_) (a' := ?_) #[true, true, true, true, true, true, true, true, true, true, true, true, true, true, true, true, true, true, true, false, false, false, false, false, false, false, false, false, false, false] rfl rfl (by kernel_rfl) (fun _ _ _ h => h) (Or.inl ⟨by rfl, ?_⟩) ?_ ?_
                    rotate_left
                    · intro w'; go_simp; with_reducible rfl
                    rotate_left
                    · simp only [Act.put, List.setIfInBounds_toArray, List.set_cons_zero, List.set_cons_succ]; rfl
                    refine pure_ (i := 19) (N := (some 117)) (v := ?_) (a' := ?_) #[true, true, true, true, true, true, true, true, true, true, true, true, true, true, true, true, true, true, true, true, false, false, false, false, false, false, false, false, false, false] rfl rfl (by kernel_rfl) (fun _ _ _ h => h) (Or.inl ⟨by rfl, ?_⟩) ?_ ?_
                    rotate_left
                    · intro w'; go_simp; with_reducible rfl
                    rotate_left
                    · simp only [Act.put, List.setIfInBounds_toArray, List.set_cons_zero, List.set_cons_succ]; rfl
                    refine pure_ (i := 20) (N := (some 118)) (v := ?_) (a' := ?_) #[true, true, true, true, true, true, true, true, true, true, true, true, true, true, true, true, true, true, true, true, true, false, false, false, false, false, false, false, false, false] rfl rfl (by kernel_rfl) (fun _ _ _ h => h) (Or.inl ⟨by rfl, ?_⟩) ?_ ?_
                    rotate_left
                    · intro w'; go_simp; with_reducible rfl
                    rotate_left
                    · simp only [Act.put, List.setIfInBounds_toArray, List.set_cons_zero, List.set_cons_succ]; rfl
                    refine pure_ (i := 21) (N := (some 119)) (v := ?_) (a' := ?_) #[true, true, true, true, true, true, true, true, true, true, true, true, true, true, true, true, true, true, true, true, true, true, false, false, false, false, false, false, false, false] rfl rfl (by kernel_rfl) (fun _ _ _ h => h) (Or.inl ⟨by rfl, ?_⟩) ?_ ?_
                    rotate_left
                    · intro w'; go_simp; with_reducible rfl
                    rotate_left
                    · simp only [Act.put, List.setIfInBounds_toArray, List.set_cons_zero, List.set_cons_succ]; rfl
                    refine pure_ (i := 24) (N := (some 122)) (v := ?_) (a' := ?_) #[true, true, true, true, true, true, true, true, true, true, true, true, true, true, true, true, true, true, true, true, true, true, false, false, true, false, false, false, false, false] rfl rfl (by kernel_rfl) (fun _ _ _ h => h) (Or.inl ⟨by rfl, ?_⟩) ?_ ?_
                    rotate_left
                    · intro w'; go_simp; with_reducible rfl
                    rotate_left
                    · simp only [Act.put, List.setIfInBounds_toArray, List.set_cons_zero, List.set_cons_succ]; rfl
                    refine pure_ (i := 25) (N := (some 123)) (v := ?_) (a' := ?_) #[true, true, true, true, true, true, true, true, true, true, true, true, true, true, true, true, true, true, true, true, true, true, false, false, true, true, false, false, false, false] rfl rfl (by kernel_rfl) (fun _ _ _ h => h) (Or.inl ⟨by rfl, ?_⟩) ?_ ?_
                    rotate_left
                    · intro w'; go_simp; with_reducible rfl
                    rotate_left
                    · simp only [Act.put, List.setIfInBounds_toArray, List.set_cons_zero, List.set_cons_succ]; rfl
                    refine last_ (i := 22) (N := (some 120)) #[true, true, true, true, true, true, true, true, true, true, true, true, true, true, true, true, true, true, true, true, true, true, true, false, true, true, false, false, false, false] rfl rfl (by kernel_rfl) (by decide) (fun K hK => ?_)
                    obtain ⟨⟨g0, g1, g2⟩, g3⟩ := HS6.out.tcells
                    refine value_ (w1 := ?_) (v := ?_) (by rfl) rfl ?_ ?_
                    rotate_left 2
                    · go_simp
                      constructor
                      · rfl
                      · rfl
                    refine hK.out _ _ ?_
                    clear hK
                    refine norm_ (a' := ?_) ?_ ?_
                    rotate_left
                    · simp only [Act.put, List.setIfInBounds_toArray, List.set_cons_zero, List.set_cons_succ]; rfl
                    refine last_ (i := 23) (N := (some 121)) #[true, true, true, true, true, true, true, true, true, true, true, true, true, true, true, true, true, true, true, true, true, true, true, true, true, true, false, false, false, false] rfl rfl (by kernel_rfl) (by decide) (fun K hK => ?_)
                    refine value_ (w1 := ?_) (v := ?_) (by rfl) rfl ?_ ?_
                    rotate_left 2
                    · go_simp
                      constructor
                      · rfl
                      · rfl
                    refine hK.out _ _ ?_
                    clear hK
                    refine norm_ (a' := ?_) ?_ ?_
                    rotate_left
                    · simp only [Act.put, List.setIfInBounds_toArray, List.set_cons_zero, List.set_cons_succ]; rfl
                    refine last_ (i := 26) (N := (some 124)) #[true, true, true, true, true, true, true, true, true, true, true, true, true, true, true, true, true, true, true, true, true, true, true, true, true, true, true, false, false, false] rfl rfl (by kernel_rfl) (by decide) (fun K hK => ?_)
                    refine goes_ Try.func18 (by kernel_rfl) rfl #[.slice (some ⟨w7.heap.size, 0, none⟩) 1 1, .slice A6 1 c6] (by rfl) rfl rfl (by simp [Act.eval]) ?_
                    with_reducible refine (Hp.same_top HS6.out HH1.out.2 HLX.out.2 HC6.out).mono ?_
                    rintro e w8 ⟨rfl, hS⟩
                    refine ⟨_, rfl, ?_⟩
                    have HS8 := Aside0.mk hS
                    clear hS
                    refine hK.out _ _ ?_
                    clear hK
                    refine norm_ (a' := ?_) ?_ ?_
                    rotate_left
                    · simp only [Act.put, List.setIfInBounds_toArray, List.set_cons_zero, List.set_cons_succ]; rfl
                    refine pure_ (i := 27) (N := (some 125)) (v := ?_) (a' := ?_) #[true, true, true, true, true, true, true, true, true, true, true, true, true, true, true, true, true, true, true, true, true, true, true, true, true, true, true, true, false, false] rfl rfl (by kernel_rfl) (fun _ _ _ h => h) (Or.inl ⟨by rfl, ?_⟩) ?_ ?_
                    rotate_left
                    · intro w'; go_simp; with_reducible rfl
                    rotate_left
                    · simp only [Act.put, List.setIfInBounds_toArray, List.set_cons_zero, List.set_cons_succ]; rfl
                    refine pure_ (i := 28) (N := (some 126)) (v := ?_) (a' := ?_) #[true, true, true, true, true, true, true, true, true, true, true, true, true, true, true, true, true, true, true, true, true, true, true, true, true, true, true, true, true, false] rfl rfl (by kernel_rfl) (fun _ _ _ h => h) (Or.inl ⟨by rfl, ?_⟩) ?_ ?_
                    rotate_left
                    · intro w'; go_simp; with_reducible rfl
                    rotate_left
                    · simp only [Act.put, List.setIfInBounds_toArray, List.set_cons_zero, List.set_cons_succ]; rfl
                    refine pure_ (i := 29) (N := (some 127)) (v := ?_) (a' := ?_) #[true, true, true, true, true, true, true, true, true, true, true, true, true, true, true, true, true, true, true, true, true, true, true, true, true, true, true, true, true, true] rfl rfl (by kernel_rfl) (fun _ _ _ h => h) (Or.inl ⟨by rfl, ?_⟩) ?_ ?_
                    rotate_left
                    · intro w'; go_simp; with_reducible rfl
                    rotate_left
                    · simp only [Act.put, List.setIfInBounds_toArray, List.set_cons_zero, List.set_cons_succ]; rfl
                    refine done_ (by kernel_rfl) ?_
                    go_wp2
                    go_roundg k1
                    case measure => have := HK.out; omega
                    case rel => exact ⟨i + 1, y :: H2, A6, c6, by rw [HLX.out.2], by first | rfl | go_num, ⟨by have := HK.out; omega, by have := HIN.out; omega, HH1.out.1, HH1.out.2, by rw [HLX.out.2]; exact HC6.out⟩, ⟨by have := HIN.out; omega⟩, ⟨HS8.out.drop1⟩⟩
            · have e1 : (dk == 1) = false := beq_eq_false_iff_ne.mpr hk1
              have e1d : decide (dk = 1) = false := decide_eq_false hk1
              obtain ⟨nd, hnd⟩ : ∃ nd : Nat, nd = (dropL xg H).length := ⟨_, rfl⟩
              have hndl : nd ≤ H.length := by
                rw [hnd, (dropL_perm xg H).length_eq]; exact dropG_len xg H
              have HND := Aside0.mk hnd
              have HNI := Aside0.mk (show (H.length : Int) - ((dropG xg H).length : Int) = (H.length : Int) - (nd : Int) by rw [hnd, (dropL_perm xg H).length_eq])
              have hH0 : (H.length : Int) ≤ 300 := by have := HK.out.2.2.1; have := HIN.out; omega
              have hnd0 : (nd : Int) ≤ (H.length : Int) := by omega
              clear hk0 hk1 hnd
              go_wp2_with (first
                | (go_at_call 16; go_loud ((with_reducible refine (HB0.out.dropped HL.out.1 xg ((H.length : Int) - (nd : Int)) HNI.out).mono ?_); rintro e w2 ⟨rfl, hS⟩; obtain ⟨⟨z0, z1, z2⟩, z3⟩ := hS.tcells; have HS2 := Aside0.mk hS; clear hS HS HB0))
                | (go_at_call 19; go_loud ((with_reducible refine (HS2.out.rdrop HL.out.1 HL.out.2.1 xg (dropL_perm xg H)).mono ?_); rintro e w3 ⟨A6, c6, rfl, hc6, hS⟩; rw [← HND.out] at hc6 ⊢; have HS3 := Aside0.mk (Hp.drop1 hS); have HC6 := Aside0.mk hc6; clear hS HS2))
                | (go_at_call 15; fail))
              obtain ⟨H1, hH1⟩ : ∃ H1, dropL xg H = H1 := ⟨_, rfl⟩
              have HH1 := Aside0.mk (show H1.length ≤ i + 1 ∧ isHeap H1 by rw [← hH1]; exact ⟨by have h1 := HND.out; have h2 := HK.out.2.2.1; omega, dropL_heap xg H⟩)
              have hn1 : nd = H1.length := by rw [← hH1]; exact HND.out
              rw [hH1] at HS3
              rw [hn1] at HC6 ⊢
              clear hH1 hndl HND HNI hnd0 hn1
              cases H1 with
              | nil =>
                rw [show ([] : List Tm).length = 0 from rfl]
                go_wp2_with (go_at_call 15; go_loud ((with_reducible refine (Hp.first_nil HS3.out).mono ?_); rintro e w4 ⟨rfl, hS⟩; unfold Tm.agg zeroTm; have HS4 := Aside0.mk (hS.tbox #[.int .i64 0, .int .i64 0, .int .i64 0] 23); clear hS HS3))
                refine start_ (n := 30) (S := fun _ => True) (ds := [1, 3, 7, 22, 23, 26]) #[false, false, false, false, false, false, false, false, false, false, false, false, false, false, false, false, false, false, false, false, false, false, false, false, false, false, false, false, false, false] (by kernel_rfl) rfl rfl ?_ (fun hHeld => ?_)
                · trivial
                refine pure_ (i := 0) (N := (some 98)) (v := ?_) (a' := ?_) #[true, false, false, false, false, false, false, false, false, false, false, false, false, false, false, false, false, false, false, false, false, false, false, false, false, false, false, false, false, false] rfl rfl (by kernel_rfl) (fun _ _ _ h => h) (Or.inl ⟨by rfl, ?_⟩) ?_ ?_
                rotate_left
                · intro w'; go_simp; with_reducible rfl
                rotate_left
                · simp only [Act.put, List.setIfInBounds_toArray, List.set_cons_zero, List.set_cons_succ]; rfl
                refine pure_ (i := 2) (N := (some 100)) (v := ?_) (a' := ?_) #[true, false, true, false, false, false, false, false, false, false, false, false, false, false, false, false, false, false, false, false, false, false, false, false, false, false, false, false, false, false] rfl rfl (by kernel_rfl) (fun _ _ _ h => h) (Or.inl ⟨by rfl, ?_⟩) ?_ ?_
                rotate_left
                · intro w'; go_simp; with_reducible rfl
                rotate_left
                · simp only [Act.put, List.setIfInBounds_toArray, List.set_cons_zero, List.set_cons_succ]; rfl
                refine last_ (i := 1) (N := (some 99)) #[true, true, true, false, false, false, false, false, false, false, false, false, false, false, false, false, false, false, false, false, false, false, false, false, false, false, false, false, false, false] rfl rfl (by kernel_rfl) (by decide) (fun K hK => ?_)
                refine goes_ Try.func14 (by kernel_rfl) rfl #[.pointer (some ⟨w1.heap.size, 0, none⟩)] (by rfl) rfl rfl (by simp [Act.eval]) ?_
                with_reducible refine (Hp.all_n (Hp.below HS4.out (below_drew1 (Below.refl _ _))) (by simp) (n := 0) rfl).mono ?_
                rintro e w5 ⟨A7, c7, rfl, hc7, hS⟩
                refine ⟨_, rfl, ?_⟩
                have HS5 := Aside0.mk hS
                have HC7 := Aside0.mk hc7
                clear hS HS4 hc7
                refine hK.out _ _ ?_
                clear hK
                refine norm_ (a' := ?_) ?_ ?_
                rotate_left
                · simp only [Act.put, List.setIfInBounds_toArray, List.set_cons_zero, List.set_cons_succ]; rfl
                refine last_ (i := 3) (N := (some 101)) #[true, true, true, true, false, false, false, false, false, false, false, false, false, false, false, false, false, false, false, false, false, false, false, false, false, false, false, false, false, false] rfl rfl (by kernel_rfl) (by decide) (fun K hK => ?_)
                refine goes_ Try.func18 (by kernel_rfl) rfl #[.slice A7 0 c7, .slice A6 0 c6] (by rfl) rfl rfl (by simp [Act.eval]) ?_
                with_reducible refine (Hp.same_n HS5.out (by simp) (n := 0) rfl (Nat.zero_le _) (Nat.zero_le _)).mono ?_
                rintro e w6 ⟨rfl, hS⟩
                refine ⟨_, rfl, ?_⟩
                have HS6 := Aside0.mk hS
                clear hS HS5
                refine hK.out _ _ ?_
                clear hK
                refine norm_ (a' := ?_) ?_ ?_
                rotate_left
                · simp only [Act.put, List.setIfInBounds_toArray, List.set_cons_zero, List.set_cons_succ]; rfl
                refine pure_ (i := 4) (N := (some 102)) (v := ?_) (a' := ?_) #[true, true, true, true, true, false, false, false, false, false, false, false, false, false, false, false, false, false, false, false, false, false, false, false, false, false, false, false, false, false] rfl rfl (by kernel_rfl) (fun _ _ _ h => h) (Or.inl ⟨by rfl, ?_⟩) ?_ ?_
                rotate_left
                · intro w'; go_simp; with_reducible rfl
                rotate_left
                · simp only [Act.put, List.setIfInBounds_toArray, List.set_cons_zero, List.set_cons_succ]; rfl
                refine pure_ (i := 5) (N := (some 103)) (v := ?_) (a' := ?_) #[true, true, true, true, true, true, false, false, false, false, false, false, false, false, false, false, false, false, false, false, false, false, false, false, false, false, false, false, false, false] rfl rfl (by kernel_rfl) (fun _ _ _ h => h) (Or.inl ⟨by rfl, ?_⟩) ?_ ?_
                rotate_left
                · intro w'; go_simp; with_reducible rfl
                rotate_left
                · simp only [Act.put, List.setIfInBounds_toArray, List.set_cons_zero, List.set_cons_succ]; rfl
                refine pure_ (i := 6) (N := (some 104)) (v := ?_) (a' := ?_) #[true, true, true, true, true, true, true, false, false, false, false, false, false, false, false, false, false, false, false, false, false, false, false, false, false, false, false, false, false, false] rfl rfl (by kernel_rfl) (fun _ _ _ h => h) (Or.inl ⟨by rfl, ?_⟩) ?_ ?_
                rotate_left
                · intro w'; go_simp; with_reducible rfl
                rotate_left
                · simp only [Act.put, List.setIfInBounds_toArray, List.set_cons_zero, List.set_cons_succ]; rfl
                refine pure_ (i := 8) (N := (some 106)) (v := ?_) (a' := ?_) #[true, true, true, true, true, true, true, false, true, false, false, false, false, false, false, false, false, false, false, false, false, false, false, false, false, false, false, false, false, false] rfl rfl (by kernel_rfl) (fun _ _ _ h => h) (Or.inl ⟨by rfl, ?_⟩) ?_ ?_
                rotate_left
                · intro w'; go_simp; with_reducible rfl
                rotate_left
                · simp only [Act.put, List.setIfInBounds_toArray, List.set_cons_zero, List.set_cons_succ]; rfl
                refine pure_ (i := 9) (N := (some 107)) (v := ?_) (a' := ?_) #[true, true, true, true, true, true, true, false, true, true, false, false, false, false, false, false, false, false, false, false, false, false, false, false, false, false, false, false, false, false] rfl rfl (by kernel_rfl) (fun _ _ _ h => h) (Or.inl ⟨by rfl, ?_⟩) ?_ ?_
                rotate_left
                · intro w'; go_simp; with_reducible rfl
                rotate_left
                · simp only [Act.put, List.setIfInBounds_toArray, List.set_cons_zero, List.set_cons_succ]; rfl
                refine last_ (i := 7) (N := (some 105)) #[true, true, true, true, true, true, true, true, true, true, false, false, false, false, false, false, false, false, false, false, false, false, false, false, false, false, false, false, false, false] rfl rfl (by kernel_rfl) (by decide) (fun K hK => ?_)
                refine goes_ Try.func13 (by kernel_rfl) rfl #[.pointer (some ⟨w1.heap.size, 0, none⟩)] (by rfl) rfl rfl (by simp [Act.eval]) ?_
                with_reducible refine (Hp.len HS6.out (n := 0) rfl).mono ?_
                rintro e w7 ⟨rfl, rfl⟩
                refine ⟨_, rfl, ?_⟩
                refine hK.out _ _ ?_
                clear hK
                refine norm_ (a' := ?_) ?_ ?_
                rotate_left
                · simp only [Act.put, List.setIfInBounds_toArray, List.set_cons_zero, List.set_cons_succ]; rfl
                refine pure_ (i := 10) (N := (some 108)) (v := ?_) (a' := ?_) #[true, true, true, true, true, true, true, true, true, true, true, false, false, false, false, false, false, false, false, false, false, false, false, false, false, false, false, false, false, false] rfl rfl (by kernel_rfl) (fun _ _ _ h => h) (Or.inl ⟨by rfl, ?_⟩) ?_ ?_
                rotate_left
                · intro w'; go_simp; with_reducible rfl
                rotate_left
                · simp only [Act.put, List.setIfInBounds_toArray, List.set_cons_zero, List.set_cons_succ]; rfl
                refine pure_ (i := 11) (N := (some 109)) (v := ?_) (a' := ?_) #[true, true, true, true, true, true, true, true, true, true, true, true, false, false, false, false, false, false, false, false, false, false, false, false, false, false, false, false, false, false] rfl rfl (by kernel_rfl) (fun _ _ _ h => h) (Or.inl ⟨by rfl, ?_⟩) ?_ ?_
                rotate_left
                · intro w'; go_simp; with_reducible rfl
                rotate_left
                · simp only [Act.put, List.setIfInBounds_toArray, List.set_cons_zero, List.set_cons_succ]; rfl
                refine pure_ (i := 12) (N := (some 110)) (v := ?_) (a' := ?_) #[true, true, true, true, true, true, true, true, true, true, true, true, true, false, false, false, false, false, false, false, false, false, false, false, false, false, false, false, false, false] rfl rfl (by kernel_rfl) (fun _ _ _ h => h) (Or.inl ⟨by rfl, ?_⟩) ?_ ?_
                rotate_left
                · intro w'; go_simp; with_reducible rfl
                rotate_left
                · simp only [Act.put, List.setIfInBounds_toArray, List.set_cons_zero, List.set_cons_succ]; rfl
                refine pure_ (i := 13) (N := (some 111)) (v := ?_) (a' := ?_) #[true, true, true, true, true, true, true, true, true, true, true, true, true, true, false, false, false, false, false, false, false, false, false, false, false, false, false, false, false, false] rfl rfl (by kernel_rfl) (fun _ _ _ h => h) (Or.inl ⟨by rfl, ?_⟩) ?_ ?_
                rotate_left
                · intro w'; go_simp; with_reducible rfl
                rotate_left
                · simp only [Act.put, List.setIfInBounds_toArray, List.set_cons_zero, List.set_cons_succ]; rfl
                refine pure_ (i := 14) (N := (some 112)) (v := ?_) (a' := ?_) #[true, true, true, true, true, true, true, true, true, true, true, true, true, true, true, false, false, false, false, false, false, false, false, false, false, false, false, false, false, false] rfl rfl (by kernel_rfl) (fun _ _ _ h => h) (Or.inl ⟨by rfl, ?_⟩) ?_ ?_
                rotate_left
                · intro w'; go_simp; with_reducible rfl
                rotate_left
                · simp only [Act.put, List.setIfInBounds_toArray, List.set_cons_zero, List.set_cons_succ]; rfl
                refine pure_ (i := 15) (N := (some 113)) (v := ?_) (a' := ?_) #[true, true, true, true, true, true, true, true, true, true, true, true, true, true, true, true, false, false, false, false, false, false, false, false, false, false, false, false, false, false] rfl rfl (by kernel_rfl) (fun _ _ _ h => h) (Or.inl ⟨by rfl, ?_⟩) ?_ ?_
                rotate_left
                · intro w'; go_simp; with_reducible rfl
                rotate_left
                · simp only [Act.put, List.setIfInBounds_toArray, List.set_cons_zero, List.set_cons_succ]; rfl
                refine pure_ (i := 16) (N := (some 114)) (v := ?_) (a' := ?_) #[true, true, true, true, true, true, true, true, true, true, true, true, true, true, true, true, true, false, false, false, false, false, false, false, false, false, false, false, false, false] rfl rfl (by kernel_rfl) (fun _ _ _ h => h) (Or.inl ⟨by rfl, ?_⟩) ?_ ?_
                rotate_left
                · intro w'; go_simp; with_reducible rfl
                rotate_left
                · simp only [Act.put, List.setIfInBounds_toArray, List.set_cons_zero, List.set_cons_succ]; rfl
                refine pure_ (i := 17) (N := (some 115)) (v := ?_) (a' := ?_) #[true, true, true, true, true, true, true, true, true, true, true, true, true, true, true, true, true, true, false, false, false, false, false, false, false, false, false, false, false, false] rfl rfl (by kernel_rfl) (fun _ _ _ h => h) (Or.inl ⟨by rfl, ?_⟩) ?_ ?_
                rotate_left
                · intro w'; go_simp; with_reducible rfl
                rotate_left
                · simp only [Act.put, List.setIfInBounds_toArray, List.set_cons_zero, List.set_cons_succ]; rfl
                refine pure_ (i := 18) (N := (some 116)) (v := ?_) (a' := ?_) #[true, true, true, true, true, true, true, true, true, true, true, true, true, true, true, true, true, true, true, false, false, false, false, false, false, false, false, false, false, false] rfl rfl (by kernel_rfl) (fun _ _ _ h => h) (Or.inl ⟨by rfl, ?_⟩) ?_ ?_
                rotate_left
                · intro w'; go_simp; with_reducible rfl
                rotate_left
                · simp only [Act.put, List.setIfInBounds_toArray, List.set_cons_zero, List.set_cons_succ]; rfl
                refine pure_ (i := 19) (N := (some 117)) (v := ?_) (a' := ?_) #[true, true, true, true, true, true, true, true, true, true, true, true, true, true, true, true, true, true, true, true, false, false, false, false, false, false, false, false, false, false] rfl rfl (by kernel_rfl) (fun _ _ _ h => h) (Or.inl ⟨by rfl, ?_⟩) ?_ ?_
                rotate_left
                · intro w'; go_simp; with_reducible rfl
                rotate_left
                · simp only [Act.put, List.setIfInBounds_toArray, List.set_cons_zero, List.set_cons_succ]; rfl
                refine pure_ (i := 20) (N := (some 118)) (v := ?_) (a' := ?_) #[true, true, true, true, true, true, true, true, true, true, true, true, true, true, true, true, true, true, true, true, true, false, false, false, false, false, false, false, false, false] rfl rfl (by kernel_rfl) (fun _ _ _ h => h) (Or.inl ⟨by rfl, ?_⟩) ?_ ?_
                rotate_left
                · intro w'; go_simp; with_reducible rfl
                rotate_left
                · simp only [Act.put, List.setIfInBounds_toArray, List.set_cons_zero, List.set_cons_succ]; rfl
                refine pure_ (i := 21) (N := (some 119)) (v := ?_) (a' := ?_) #[true, true, true, true, true, true, true, true, true, true, true, true, true, true, true, true, true, true, true, true, true, true, false, false, false, false, false, false, false, false] rfl rfl (by kernel_rfl) (fun _ _ _ h => h) (Or.inl ⟨by rfl, ?_⟩) ?_ ?_
                rotate_left
                · intro w'; go_simp; with_reducible rfl
                rotate_left
                · simp only [Act.put, List.setIfInBounds_toArray, List.set_cons_zero, List.set_cons_succ]; rfl
                refine pure_ (i := 24) (N := (some 122)) (v := undef) (a' := ?_) #[true, true, true, true, true, true, true, true, true, true, true, true, true, true, true, true, true, true, true, true, true, true, false, false, true, false, false, false, false, false] rfl rfl (by kernel_rfl) (fun _ _ _ h => h) (Or.inr ⟨by rfl, rfl⟩) ?_ ?_
                rotate_left
                · simp only [Act.put, List.setIfInBounds_toArray, List.set_cons_zero, List.set_cons_succ]; rfl
                refine pure_ (i := 25) (N := (some 123)) (v := undef) (a' := ?_) #[true, true, true, true, true, true, true, true, true, true, true, true, true, true, true, true, true, true, true, true, true, true, false, false, true, true, false, false, false, false] rfl rfl (by kernel_rfl) (fun _ _ _ h => h) (Or.inr ⟨by rfl, rfl⟩) ?_ ?_
                rotate_left
                · simp only [Act.put, List.setIfInBounds_toArray, List.set_cons_zero, List.set_cons_succ]; rfl
                refine last_ (i := 22) (N := (some 120)) #[true, true, true, true, true, true, true, true, true, true, true, true, true, true, true, true, true, true, true, true, true, true, true, false, true, true, false, false, false, false] rfl rfl (by kernel_rfl) (by decide) (fun K hK => ?_)
                refine off_ (by rfl) ?_
                refine hK.out _ _ ?_
                clear hK
                refine norm_ (a' := ?_) ?_ ?_
                rotate_left
                · simp only [Act.put, List.setIfInBounds_toArray, List.set_cons_zero, List.set_cons_succ]; rfl
                refine last_ (i := 23) (N := (some 121)) #[true, true, true, true, true, true, true, true, true, true, true, true, true, true, true, true, true, true, true, true, true, true, true, true, true, true, false, false, false, false] rfl rfl (by kernel_rfl) (by decide) (fun K hK => ?_)
                refine off_ (by rfl) ?_
                refine hK.out _ _ ?_
                clear hK
                refine norm_ (a' := ?_) ?_ ?_
                rotate_left
                · simp only [Act.put, List.setIfInBounds_toArray, List.set_cons_zero, List.set_cons_succ]; rfl
                refine last_ (i := 26) (N := (some 124)) #[true, true, true, true, true, true, true, true, true, true, true, true, true, true, true, true, true, true, true, true, true, true, true, true, true, true, true, false, false, false] rfl rfl (by kernel_rfl) (by decide) (fun K hK => ?_)
                refine off_ (by rfl) ?_
                refine hK.out _ _ ?_
                clear hK
                refine norm_ (a' := ?_) ?_ ?_
                rotate_left
                · simp only [Act.put, List.setIfInBounds_toArray, List.set_cons_zero, List.set_cons_succ]; rfl
                refine pure_ (i := 27) (N := (some 125)) (v := undef) (a' := ?_) #[true, true, true, true, true, true, true, true, true, true, true, true, true, true, true, true, true, true, true, true, true, true, true, true, true, true, true, true, false, false] rfl rfl (by kernel_rfl) (fun _ _ _ h => h) (Or.inr ⟨by rfl, rfl⟩) ?_ ?_
                rotate_left
                · simp only [Act.put, List.setIfInBounds_toArray, List.set_cons_zero, List.set_cons_succ]; rfl
                refine pure_ (i := 28) (N := (some 126)) (v := ?_) (a' := ?_) #[true, true, true, true, true, true, true, true, true, true, true, true, true, true, true, true, true, true, true, true, true, true, true, true, true, true, true, true, true, false] rfl rfl (by kernel_rfl) (fun _ _ _ h => h) (Or.inl ⟨by rfl, ?_⟩) ?_ ?_
                rotate_left
                · intro w'; go_simp; with_reducible rfl
                rotate_left
                · simp only [Act.put, List.setIfInBounds_toArray, List.set_cons_zero, List.set_cons_succ]; rfl
                refine pure_ (i := 29) (N := (some 127)) (v := ?_) (a' := ?_) #[true, true, true, true, true, true, true, true, true, true, true, true, true, true, true, true, true, true, true, true, true, true, true, true, true, true, true, true, true, true] rfl rfl (by kernel_rfl) (fun _ _ _ h => h) (Or.inl ⟨by rfl, ?_⟩) ?_ ?_
                rotate_left
                · intro w'; go_simp; with_reducible rfl
                rotate_left
                · simp only [Act.put, List.setIfInBounds_toArray, List.set_cons_zero, List.set_cons_succ]; rfl
                refine done_ (by kernel_rfl) ?_
                go_wp2
                go_roundg k1
                case measure => have := HK.out; omega
                case rel => exact ⟨i + 1, [], A6, c6, rfl, by first | rfl | go_num, ⟨by have := HK.out; omega, by have := HIN.out; omega, Nat.zero_le _, heap_nil, Nat.zero_le _⟩, ⟨by have := HIN.out; omega⟩, ⟨HS6.out.drop1⟩⟩
              | cons y H2 =>
                obtain ⟨n1, hn1⟩ : ∃ n, (y :: H2).length = n := ⟨_, rfl⟩
                have n1pos : 0 < n1 := by rw [← hn1]; simp
                have n1posZ : (0 : Int) < (n1 : Int) := by omega
                have n1le : (1 : Nat) ≤ n1 := by omega
                have HLX := Aside0.mk (show (y :: H2).length ≤ 100000 ∧ (y :: H2).length = n1 from ⟨by have := HH1.out.1; have := HIN.out; omega, hn1⟩)
                have HLN := Aside0.mk (show (((y :: H2).length : Nat) : Int) = (n1 : Int) by omega)
                have hc6 : n1 ≤ c6 := by have := HC6.out; omega
                rw [hn1] at HC6 ⊢
                have hc6b : 1 ≤ c6 := by omega
                have hc6z : (1 : Int) ≤ (c6 : Int) := by omega
                clear hn1
                go_wp2_with (go_at_call 15; go_loud ((with_reducible refine (Hp.first_cons HS3.out (by have := HLX.out.1; simp at this; omega)).mono ?_); rintro e w4 ⟨rfl, hS⟩; unfold Tm.agg; have HS4 := Aside0.mk (hS.tbox #[.int .i64 y.t, .int .i64 y.s, .int .i64 y.g] 23); clear hS HS3))
                refine start_ (n := 30) (S := fun _ => True) (ds := [1, 3, 7, 22, 23, 26]) #[false, false, false, false, false, false, false, false, false, false, false, false, false, false, false, false, false, false, false, false, false, false, false, false, false, false, false, false, false, false] (by kernel_rfl) rfl rfl ?_ (fun hHeld => ?_)
                · trivial
                refine pure_ (i := 0) (N := (some 98)) (v := ?_) (a' := ?_) #[true, false, false, false, false, false, false, false, false, false, false, false, false, false, false, false, false, false, false, false, false, false, false, false, false, false, false, false, false, false] rfl rfl (by kernel_rfl) (fun _ _ _ h => h) (Or.inl ⟨by rfl, ?_⟩) ?_ ?_
                rotate_left
                · intro w'; go_simp; with_reducible rfl
                rotate_left
                · simp only [Act.put, List.setIfInBounds_toArray, List.set_cons_zero, List.set_cons_succ]; rfl
                refine pure_ (i := 2) (N := (some 100)) (v := ?_) (a' := ?_) #[true, false, true, false, false, false, false, false, false, false, false, false, false, false, false, false, false, false, false, false, false, false, false, false, false, false, false, false, false, false] rfl rfl (by kernel_rfl) (fun _ _ _ h => h) (Or.inl ⟨by rfl, ?_⟩) ?_ ?_
                rotate_left
                · intro w'; go_simp; with_reducible rfl
                rotate_left
                · simp only [Act.put, List.setIfInBounds_toArray, List.set_cons_zero, List.set_cons_succ]; rfl
                refine last_ (i := 1) (N := (some 99)) #[true, true, true, false, false, false, false, false, false, false, false, false, false, false, false, false, false, false, false, false, false, false, false, false, false, false, false, false, false, false] rfl rfl (by kernel_rfl) (by decide) (fun K hK => ?_)
                refine goes_ Try.func14 (by kernel_rfl) rfl #[.pointer (some ⟨w1.heap.size, 0, none⟩)] (by rfl) rfl rfl (by simp [Act.eval]) ?_
                with_reducible refine (Hp.all_n (Hp.below HS4.out (below_drew1 (Below.refl _ _))) HLX.out.1 HLX.out.2).mono ?_
                rintro e w5 ⟨A7, c7, rfl, hc7, hS⟩
                refine ⟨_, rfl, ?_⟩
                have HS5 := Aside0.mk hS
                have HC7 := Aside0.mk hc7
                clear hS HS4 hc7
                refine hK.out _ _ ?_
                clear hK
                refine norm_ (a' := ?_) ?_ ?_
                rotate_left
                · simp only [Act.put, List.setIfInBounds_toArray, List.set_cons_zero, List.set_cons_succ]; rfl
                refine last_ (i := 3) (N := (some 101)) #[true, true, true, true, false, false, false, false, false, false, false, false, false, false, false, false, false, false, false, false, false, false, false, false, false, false, false, false, false, false] rfl rfl (by kernel_rfl) (by decide) (fun K hK => ?_)
                refine goes_ Try.func18 (by kernel_rfl) rfl #[.slice A7 n1 c7, .slice A6 n1 c6] (by rfl) rfl rfl (by simp [Act.eval]) ?_
                with_reducible refine (Hp.same_n HS5.out HLX.out.1 HLX.out.2 HC7.out HC6.out).mono ?_
                rintro e w6 ⟨rfl, hS⟩
                refine ⟨_, rfl, ?_⟩
                have HS6 := Aside0.mk hS
                clear hS HS5
                refine hK.out _ _ ?_
                clear hK
                refine norm_ (a' := ?_) ?_ ?_
                rotate_left
                · simp only [Act.put, List.setIfInBounds_toArray, List.set_cons_zero, List.set_cons_succ]; rfl
                refine pure_ (i := 4) (N := (some 102)) (v := ?_) (a' := ?_) #[true, true, true, true, true, false, false, false, false, false, false, false, false, false, false, false, false, false, false, false, false, false, false, false, false, false, false, false, false, false] rfl rfl (by kernel_rfl) (fun _ _ _ h => h) (Or.inl ⟨by rfl, ?_⟩) ?_ ?_
                rotate_left
                · intro w'; go_simp; with_reducible rfl
                rotate_left
                · simp only [Act.put, List.setIfInBounds_toArray, List.set_cons_zero, List.set_cons_succ]; rfl
                refine pure_ (i := 5) (N := (some 103)) (v := ?_) (a' := ?_) #[true, true, true, true, true, true, false, false, false, false, false, false, false, false, false, false, false, false, false, false, false, false, false, false, false, false, false, false, false, false] rfl rfl (by kernel_rfl) (fun _ _ _ h => h) (Or.inl ⟨by rfl, ?_⟩) ?_ ?_
                rotate_left
                · intro w'; go_simp; with_reducible rfl
                rotate_left
                · simp only [Act.put, List.setIfInBounds_toArray, List.set_cons_zero, List.set_cons_succ]; rfl
                refine pure_ (i := 6) (N := (some 104)) (v := ?_) (a' := ?_) #[true, true, true, true, true, true, true, false, false, false, false, false, false, false, false, false, false, false, false, false, false, false, false, false, false, false, false, false, false, false] rfl rfl (by kernel_rfl) (fun _ _ _ h => h) (Or.inl ⟨by rfl, ?_⟩) ?_ ?_
                rotate_left
                · intro w'; go_simp; with_reducible rfl
                rotate_left
                · simp only [Act.put, List.setIfInBounds_toArray, List.set_cons_zero, List.set_cons_succ]; rfl
                refine pure_ (i := 8) (N := (some 106)) (v := ?_) (a' := ?_) #[true, true, true, true, true, true, true, false, true, false, false, false, false, false, false, false, false, false, false, false, false, false, false, false, false, false, false, false, false, false] rfl rfl (by kernel_rfl) (fun _ _ _ h => h) (Or.inl ⟨by rfl, ?_⟩) ?_ ?_
                rotate_left
                · intro w'; go_simp; with_reducible rfl
                rotate_left
                · simp only [Act.put, List.setIfInBounds_toArray, List.set_cons_zero, List.set_cons_succ]; rfl
                refine pure_ (i := 9) (N := (some 107)) (v := ?_) (a' := ?_) #[true, true, true, true, true, true, true, false, true, true, false, false, false, false, false, false, false, false, false, false, false, false, false, false, false, false, false, false, false, false] rfl rfl (by kernel_rfl) (fun _ _ _ h => h) (Or.inl ⟨by rfl, ?_⟩) ?_ ?_
                rotate_left
                · intro w'; go_simp; with_reducible rfl
                rotate_left
                · simp only [Act.put, List.setIfInBounds_toArray, List.set_cons_zero, List.set_cons_succ]; rfl
                refine last_ (i := 7) (N := (some 105)) #[true, true, true, true, true, true, true, true, true, true, false, false, false, false, false, false, false, false, false, false, false, false, false, false, false, false, false, false, false, false] rfl rfl (by kernel_rfl) (by decide) (fun K hK => ?_)
                refine goes_ Try.func13 (by kernel_rfl) rfl #[.pointer (some ⟨w1.heap.size, 0, none⟩)] (by rfl) rfl rfl (by simp [Act.eval]) ?_
                with_reducible refine (Hp.len HS6.out (n := (n1 : Int)) HLN.out).mono ?_
                rintro e w7 ⟨rfl, rfl⟩
                refine ⟨_, rfl, ?_⟩
                refine hK.out _ _ ?_
                clear hK
                refine norm_ (a' := ?_) ?_ ?_
                rotate_left
                · simp only [Act.put, List.setIfInBounds_toArray, List.set_cons_zero, List.set_cons_succ]; rfl
                refine pure_ (i := 10) (N := (some 108)) (v := ?_) (a' := ?_) #[true, true, true, true, true, true, true, true, true, true, true, false, false, false, false, false, false, false, false, false, false, false, false, false, false, false, false, false, false, false] rfl rfl (by kernel_rfl) (fun _ _ _ h => h) (Or.inl ⟨by rfl, ?_⟩) ?_ ?_
                rotate_left
                · intro w'; go_simp; with_reducible rfl
                rotate_left
                · simp only [Act.put, List.setIfInBounds_toArray, List.set_cons_zero, List.set_cons_succ]; rfl
                refine pure_ (i := 11) (N := (some 109)) (v := ?_) (a' := ?_) #[true, true, true, true, true, true, true, true, true, true, true, true, false, false, false, false, false, false, false, false, false, false, false, false, false, false, false, false, false, false] rfl rfl (by kernel_rfl) (fun _ _ _ h => h) (Or.inl ⟨by rfl, ?_⟩) ?_ ?_
                rotate_left
                · intro w'; go_simp; with_reducible rfl
                rotate_left
                · simp only [Act.put, List.setIfInBounds_toArray, List.set_cons_zero, List.set_cons_succ]; rfl
                refine pure_ (i := 12) (N := (some 110)) (v := ?_) (a' := ?_) #[true, true, true, true, true, true, true, true, true, true, true, true, true, false, false, false, false, false, false, false, false, false, false, false, false, false, false, false, false, false] rfl rfl (by kernel_rfl) (fun _ _ _ h => h) (Or.inl ⟨by rfl, ?_⟩) ?_ ?_
                rotate_left
                · intro w'; go_simp; with_reducible rfl
                rotate_left
                · simp only [Act.put, List.setIfInBounds_toArray, List.set_cons_zero, List.set_cons_succ]; rfl
                refine pure_ (i := 13) (N := (some 111)) (v := ?_) (a' := ?_) #[true, true, true, true, true, true, true, true, true, true, true, true, true, true, false, false, false, false, false, false, false, false, false, false, false, false, false, false, false, false] rfl rfl (by kernel_rfl) (fun _ _ _ h => h) (Or.inl ⟨by rfl, ?_⟩) ?_ ?_
                rotate_left
                · intro w'; go_simp; with_reducible rfl
                rotate_left
                · simp only [Act.put, List.setIfInBounds_toArray, List.set_cons_zero, List.set_cons_succ]; rfl
                refine pure_ (i := 14) (N := (some 112)) (v := ?_) (a' := ?_) #[true, true, true, true, true, true, true, true, true, true, true, true, true, true, true, false, false, false, false, false, false, false, false, false, false, false, false, false, false, false] rfl rfl (by kernel_rfl) (fun _ _ _ h => h) (Or.inl ⟨by rfl, ?_⟩) ?_ ?_
                rotate_left
                · intro w'; go_simp; with_reducible rfl
                rotate_left
                · simp only [Act.put, List.setIfInBounds_toArray, List.set_cons_zero, List.set_cons_succ]; rfl
                refine pure_ (i := 15) (N := (some 113)) (v := ?_) (a' := ?_) #[true, true, true, true, true, true, true, true, true, true, true, true, true, true, true, true, false, false, false, false, false, false, false, false, false, false, false, false, false, false] rfl rfl (by kernel_rfl) (fun _ _ _ h => h) (Or.inl ⟨by rfl, ?_⟩) ?_ ?_
                rotate_left
                · intro w'; go_simp; with_reducible rfl
                rotate_left
                · simp only [Act.put, List.setIfInBounds_toArray, List.set_cons_zero, List.set_cons_succ]; rfl
                refine pure_ (i := 16) (N := (some 114)) (v := ?_) (a' := ?_) #[true, true, true, true, true, true, true, true, true, true, true, true, true, true, true, true, true, false, false, false, false, false, false, false, false, false, false, false, false, false] rfl rfl (by kernel_rfl) (fun _ _ _ h => h) (Or.inl ⟨by rfl, ?_⟩) ?_ ?_
                rotate_left
                · intro w'; go_simp; with_reducible rfl
                rotate_left
                · simp only [Act.put, List.setIfInBounds_toArray, List.set_cons_zero, List.set_cons_succ]; rfl
                refine pure_ (i := 17) (N := (some 115)) (v := ?_) (a' := ?_) #[true, true, true, true, true, true, true, true, true, true, true, true, true, true, true, true, true, true, false, false, false, false, false, false, false, false, false, false, false, false] rfl rfl (by kernel_rfl) (fun _ _ _ h => h) (Or.inl ⟨by rfl, ?_⟩) ?_ ?_
                rotate_left
                · intro w'; go_simp; with_reducible rfl
                rotate_left
                · simp only [Act.put, List.setIfInBounds_toArray, List.set_cons_zero, List.set_cons_succ]; rfl
                refine pure_ (i := 18) (N := (some 116)) (v := ?_) (a' := ?_) #[true, true, true, true, true, true, true, true, true, true, true, true, true, true, true, true, true, true, true, false, false, false, false, false, false, false, false, false, false, false] rfl rfl (by kernel_rfl) (fun _ _ _ h => h) (Or.inl ⟨by rfl, ?_⟩) ?_ ?_
                rotate_left
                · intro w'; go_simp; with_reducible rfl
                rotate_left
                · simp only [Act.put, List.setIfInBounds_toArray, List.set_cons_zero, List.set_cons_succ]; rfl
                refine pure_ (i := 19) (N := (some 117)) (v := ?_) (a' := ?_) #[true, true, true, true, true, true, true, true, true, true, true, true, true, true, true, true, true, true, true, true, false, false, false, false, false, false, false, false, false, false] rfl rfl (by kernel_rfl) (fun _ _ _ h => h) (Or.inl ⟨by rfl, ?_⟩) ?_ ?_
                rotate_left
                · intro w'; go_simp; with_reducible rfl
                rotate_left
                · simp only [Act.put, List.setIfInBounds_toArray, List.set_cons_zero, List.set_cons_succ]; rfl
                refine pure_ (i := 20) (N := (some 118)) (v := ?_) (a' := ?_) #[true, true, true, true, true, true, true, true, true, true, true, true, true, true, true, true, true, true, true, true, true, false, false, false, false, false, false, false, false, false] rfl rfl (by kernel_rfl) (fun _ _ _ h => h) (Or.inl ⟨by rfl, ?_⟩) ?_ ?_
                rotate_left
                · intro w'; go_simp; with_reducible rfl
                rotate_left
                · simp only [Act.put, List.setIfInBounds_toArray, List.set_cons_zero, List.set_cons_succ]; rfl
                refine pure_ (i := 21) (N := (some 119)) (v := ?_) (a' := ?_) #[true, true, true, true, true, true, true, true, true, true, true, true, true, true, true, true, true, true, true, true, true, true, false, false, false, false, false, false, false, false] rfl rfl (by kernel_rfl) (fun _ _ _ h => h) (Or.inl ⟨by rfl, ?_⟩) ?_ ?_
                rotate_left
                · intro w'; go_simp; with_reducible rfl
                rotate_left
                · simp only [Act.put, List.setIfInBounds_toArray, List.set_cons_zero, List.set_cons_succ]; rfl
                refine pure_ (i := 24) (N := (some 122)) (v := ?_) (a' := ?_) #[true, true, true, true, true, true, true, true, true, true, true, true, true, true, true, true, true, true, true, true, true, true, false, false, true, false, false, false, false, false] rfl rfl (by kernel_rfl) (fun _ _ _ h => h) (Or.inl ⟨by rfl, ?_⟩) ?_ ?_
                rotate_left
                · intro w'; go_simp; with_reducible rfl
                rotate_left
                · simp only [Act.put, List.setIfInBounds_toArray, List.set_cons_zero, List.set_cons_succ]; rfl
                refine pure_ (i := 25) (N := (some 123)) (v := ?_) (a' := ?_) #[true, true, true, true, true, true, true, true, true, true, true, true, true, true, true, true, true, true, true, true, true, true, false, false, true, true, false, false, false, false] rfl rfl (by kernel_rfl) (fun _ _ _ h => h) (Or.inl ⟨by rfl, ?_⟩) ?_ ?_
                rotate_left
                · intro w'; go_simp; with_reducible rfl
                rotate_left
                · simp only [Act.put, List.setIfInBounds_toArray, List.set_cons_zero, List.set_cons_succ]; rfl
                refine last_ (i := 22) (N := (some 120)) #[true, true, true, true, true, true, true, true, true, true, true, true, true, true, true, true, true, true, true, true, true, true, true, false, true, true, false, false, false, false] rfl rfl (by kernel_rfl) (by decide) (fun K hK => ?_)
                obtain ⟨⟨g0, g1, g2⟩, g3⟩ := HS6.out.tcells
                refine value_ (w1 := ?_) (v := ?_) (by rfl) rfl ?_ ?_
                rotate_left 2
                · go_simp
                  constructor
                  · rfl
                  · rfl
                refine hK.out _ _ ?_
                clear hK
                refine norm_ (a' := ?_) ?_ ?_
                rotate_left
                · simp only [Act.put, List.setIfInBounds_toArray, List.set_cons_zero, List.set_cons_succ]; rfl
                refine last_ (i := 23) (N := (some 121)) #[true, true, true, true, true, true, true, true, true, true, true, true, true, true, true, true, true, true, true, true, true, true, true, true, true, true, false, false, false, false] rfl rfl (by kernel_rfl) (by decide) (fun K hK => ?_)
                refine value_ (w1 := ?_) (v := ?_) (by rfl) rfl ?_ ?_
                rotate_left 2
                · go_simp
                  constructor
                  · rfl
                  · rfl
                refine hK.out _ _ ?_
                clear hK
                refine norm_ (a' := ?_) ?_ ?_
                rotate_left
                · simp only [Act.put, List.setIfInBounds_toArray, List.set_cons_zero, List.set_cons_succ]; rfl
                refine last_ (i := 26) (N := (some 124)) #[true, true, true, true, true, true, true, true, true, true, true, true, true, true, true, true, true, true, true, true, true, true, true, true, true, true, true, false, false, false] rfl rfl (by kernel_rfl) (by decide) (fun K hK => ?_)
                refine goes_ Try.func18 (by kernel_rfl) rfl #[.slice (some ⟨w7.heap.size, 0, none⟩) 1 1, .slice A6 1 c6] (by rfl) rfl rfl (by simp [Act.eval]) ?_
                with_reducible refine (Hp.same_top HS6.out HH1.out.2 HLX.out.2 HC6.out).mono ?_
                rintro e w8 ⟨rfl, hS⟩
                refine ⟨_, rfl, ?_⟩
                have HS8 := Aside0.mk hS
                clear hS
                refine hK.out _ _ ?_
                clear hK
                refine norm_ (a' := ?_) ?_ ?_
                rotate_left
                · simp only [Act.put, List.setIfInBounds_toArray, List.set_cons_zero, List.set_cons_succ]; rfl
                refine pure_ (i := 27) (N := (some 125)) (v := ?_) (a' := ?_) #[true, true, true, true, true, true, true, true, true, true, true, true, true, true, true, true, true, true, true, true, true, true, true, true, true, true, true, true, false, false] rfl rfl (by kernel_rfl) (fun _ _ _ h => h) (Or.inl ⟨by rfl, ?_⟩) ?_ ?_
                rotate_left
                · intro w'; go_simp; with_reducible rfl
                rotate_left
                · simp only [Act.put, List.setIfInBounds_toArray, List.set_cons_zero, List.set_cons_succ]; rfl
                refine pure_ (i := 28) (N := (some 126)) (v := ?_) (a' := ?_) #[true, true, true, true, true, true, true, true, true, true, true, true, true, true, true, true, true, true, true, true, true, true, true, true, true, true, true, true, true, false] rfl rfl (by kernel_rfl) (fun _ _ _ h => h) (Or.inl ⟨by rfl, ?_⟩) ?_ ?_
                rotate_left
                · intro w'; go_simp; with_reducible rfl
                rotate_left
                · simp only [Act.put, List.setIfInBounds_toArray, List.set_cons_zero, List.set_cons_succ]; rfl
                refine pure_ (i := 29) (N := (some 127)) (v := ?_) (a' := ?_) #[true, true, true, true, true, true, true, true, true, true, true, true, true, true, true, true, true, true, true, true, true, true, true, true, true, true, true, true, true, true] rfl rfl (by kernel_rfl) (fun _ _ _ h => h) (Or.inl ⟨by rfl, ?_⟩) ?_ ?_
                rotate_left
                · intro w'; go_simp; with_reducible rfl
                rotate_left
                · simp only [Act.put, List.setIfInBounds_toArray, List.set_cons_zero, List.set_cons_succ]; rfl
                refine done_ (by kernel_rfl) ?_
                go_wp2
                go_roundg k1
                case measure => have := HK.out; omega
                case rel => exact ⟨i + 1, y :: H2, A6, c6, by rw [HLX.out.2], by first | rfl | go_num, ⟨by have := HK.out; omega, by have := HIN.out; omega, HH1.out.1, HH1.out.2, by rw [HLX.out.2]; exact HC6.out⟩, ⟨by have := HIN.out; omega⟩, ⟨HS8.out.drop1⟩⟩
        · have c2 : decide ((i : Int) < 300) = false := decide_eq_false (by omega)
          have c2n : decide (i < 300) = false := decide_eq_false (by omega)
          clear hin h300
          go_wp2
          go_ret
          exact ⟨rfl, HS.out.bel⟩
      · have c1 : decide ((i : Int) < (l.length : Int)) = false := decide_eq_false (by omega)
        have c1n : decide (i < l.length) = false := decide_eq_false (by omega)
        clear hin
        go_wp2
        go_ret
        exact ⟨rfl, HS.out.bel⟩
end Go.Proofs.Ytkbjihnkbfjhmaa.Heap
