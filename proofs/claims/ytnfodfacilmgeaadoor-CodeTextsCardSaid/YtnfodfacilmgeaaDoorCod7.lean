/- code.Parse, in plain words. No condition. -/
import Derived.Test.YtnfodfacilmgeaaDoorCod6
import Derived.Test.YtnfodfacilmgeaaDoorPCodeTextsx0
import Derived.Test.YtnfodfacilmgeaaDoorOwn2
import Derived.Test.YtnfodfacilmgeaaDoorWGuard
namespace Go.Proofs.YtnfodfacilmgeaaDoor.Code
open Go Go.RowKit Go.Proofs Go.Proofs.YtnfodfacilmgeaaDoor.Own Go.Proofs.YtnfodfacilmgeaaDoorW.PrintWords Go.Proofs.YtnfodfacilmgeaaDoorW.PrintLast Go.Proofs.YtnfodfacilmgeaaDoorW.PrintMore
set_option linter.unusedVariables false
set_option linter.unusedSimpArgs false
open PCodeTexts
abbrev kI := PCodeTexts.k43
def mkI (x : Int × Int) : S43 := ⟨x.1, x.2⟩
def unI (x : S43) : Int × Int := (x.f0, x.f1)
/-- The rest of a text, behind the instructions that were read. -/
def parseF : Nat → List UInt8 → List S43 → List S43 × Int × Int
  | 0, _, pre => (pre, 0, 0)
  | k + 1, s, pre => if s = [] then (pre, 0, 0) else if (cutB s 10).2.2 = true ∧ (readF (cutB s 10).1).2 = true then parseF k (cutB s 10).2.1 (pre ++ [mkI (readF (cutB s 10).1).1]) else ([], pre.length, 2)
theorem cut_rest (s : List UInt8) (h : (cutB s 10).2.2 = true) : (cutB s 10).2.1.length < s.length := by
  unfold cutB Lib.cut at h ⊢
  split at h
  next h0 =>
    rw [if_pos h0]
    rw [List.length_drop]
    have : s ≠ [] := by
      intro h1; rw [h1] at h0
      exact absurd h0 (by decide)
    have := List.length_pos_iff.mpr this
    simp only [List.length_cons, List.length_nil]
    omega
  next => cases h
theorem infoIns2 : (Tryd.prog.info? 43).map (fun i => (i.zero, i.size, i.bytes)) = some (some (.agg #[.int .i64 0, .int .i64 0]), 2, 16) := by kernel_rfl
theorem row_frozen2 {w w0 : World} {F0 P0 : Nat → Prop} {ts : List Thing} {α : Type} {d : Kd α} {e : Nat} {v : Value} {L : List α} (h : St w0 F0 P0 (rowT d e v L :: ts) w) : ∃ A c, v = .slice A L.length c ∧ L.length ≤ c ∧ St w0 F0 P0 (valT (fun W => d.C W A L.length L) :: ts) w := by
  obtain ⟨A, c, rfl⟩ := h.slice
  obtain ⟨-, hc, hV⟩ := h.freeze
  exact ⟨A, c, rfl, hc, hV⟩
theorem nil_C (W : World) : Kd.C kI W none 0 [] := (Kd.R_reads' (Kd.R_nil kI 0 W 0 (fun _ => True))).2.2
set_option maxHeartbeats 4000000 in
theorem parse_calls (s : List UInt8) (w : World) (h : Fx w) (hs : s.length ≤ 100000) (l : List S43) (n e : Int) (hp : parseF (s.length + 1) s [] = (l, n, e)) :
    Calls Tryd.prog 13 #[.string (bs s)] w fun r w' => ∃ A c, r = .returned (.tuple #[.slice A l.length c, .int .i64 n, .int .i64 e]) ∧ l.length ≤ c ∧ Kd.C kI w' A l.length l ∧ Below w.heap.size w w' := by
  have HF := Aside0.mk h
  have HL := Aside0.mk hs
  have HP := Aside0.mk hp
  have HS := Aside0.mk (show St w (fun _ => False) (fun _ => True) [rowT kI 43 (.slice none 0 0) []] w from (St.start w (fun _ => True)).nil kI 43)
  clear h hs hp
  go_enter Tryd.func13, Tryd.ntmps13
  go_wp2
  go_loopg [0, 5, 6, 7, 8, 9, 10] (s.length + 1) (fun kq v0 v5 v6 v7 v8 v9 v10 w' => ∃ (t : List UInt8) (pre : List S43) (A : Option Addr) (c : Nat), v0 = .string (bs t) ∧ v5 = .slice A pre.length c ∧ Aside0 (t.length < kq ∧ pre.length + t.length ≤ s.length) ∧ Aside0 (parseF kq t pre = (l, n, e)) ∧ Aside0 (St w (fun _ => False) (fun _ => True) [rowT kI 43 (.slice A pre.length c) pre] w'))
  case atStart => exact ⟨s, [], none, 0, rfl, rfl, ⟨by simp⟩, HP, HS⟩
  case round =>
    clear HS HP
    obtain ⟨t, pre, A, c, rfl, rfl, HK, HP, HS⟩ := hrel
    cases gk with
    | zero => exact absurd HK.out.1 (Nat.not_lt_zero _)
    | succ k =>
      have hP := HP.out
      rw [parseF] at hP
      clear HP
      by_cases h0 : t = []
      · have t1 : (bs t).toList.isEmpty = true := by rw [bs_toList, h0]; rfl
        rw [if_pos h0] at hP
        injection hP with h1 h2
        injection h2 with h2 h3
        subst h1 h2 h3
        clear h0
        obtain ⟨-, hc, hV⟩ := HS.out.freeze
        have HV := Aside0.mk hV
        have HC := Aside0.mk hc
        clear hV hc
        go_wp2
        go_ret3
        exact ⟨_, _, rfl, HC.out, HV.out.now, HV.out.bel⟩
      · have t1 : (bs t).toList.isEmpty = false := by
          rw [bs_toList]; cases t with
          | nil => exact absurd rfl h0
          | cons x l => rfl
        rw [if_neg h0] at hP
        have HN0 := Aside0.mk h0
        clear h0
        have hcl := cutB_le t 10
        have hrs := cut_rest t
        obtain ⟨hd, rest, ok, hcut⟩ : ∃ a b c, cutB t 10 = (a, b, c) := ⟨_, _, _, rfl⟩
        obtain ⟨op, a, fine, hrd⟩ : ∃ x y z, readF hd = ((x, y), z) := ⟨_, _, _, rfl⟩
        rw [hcut] at hP hcl hrs
        dsimp only at hcl hrs
        simp only [hrd] at hP
        have HC := Aside0.mk hcut
        have HRD := Aside0.mk hrd
        have HLE := Aside0.mk (show t.length ≤ 100000 ∧ hd.length ≤ 100000 ∧ pre.length ≤ 100000 by have := HK.out.2; have := HL.out; have := hcl.1; omega)
        have HRS := Aside0.mk hrs
        have HP := Aside0.mk hP
        clear hP hcut hrd hcl hrs
        by_cases hok : ok = true ∧ fine = true
        · have HP2 := Aside0.mk ((if_pos hok).symm.trans HP.out)
          obtain ⟨rfl, rfl⟩ := hok
          clear HP
          go_wp2_with (first
            | (go_at_call 26; (refine (cut_calls t 10 _ (HF.out.below HS.out.bel) HLE.out.1).mono ?_); rintro e1 w1 ⟨rfl, hb⟩; rw [HC.out]; have HS1 := Aside0.mk (HS.out.below hb); clear hb HS)
            | (go_at_call 27; (with_reducible refine (read_calls hd _ (HF.out.below HS1.out.bel) HLE.out.2.1).mono ?_); rintro e2 w2 ⟨rfl, hb⟩; rw [HRD.out]; have HS2 := Aside0.mk ((HS1.out.below hb).below (below_alloc (Below.refl _ _) (.cells #[.int .i64 op, .int .i64 a] 43))); clear hb HS1)
            | (at_builtin; refine St.append kI rfl (.tmp 32) (.tmp 34) 24 43 (.agg #[.int .i64 0, .int .i64 0]) 16 rfl Tryd.underlying24 infoIns2 rfl (by decide) (by decide) (.slice A pre.length c) pre (mkI (op, a)) [.int .i64 op, .int .i64 a] rfl (by simp [Act.eval]) (HS2.out.pure (fun W => k43_mk W (mkI (op, a)))) (by have := HLE.out.2.2; omega) ?_; intro v1 w3 hS; have hv1 := hS.slice; obtain ⟨A4, c4, hv1⟩ := hv1; subst hv1; have HS3 := Aside0.mk hS; clear hS HS2))
          go_roundg k
          case measure => omega
          case rel => exact ⟨rest, pre ++ [mkI (op, a)], A4, c4, rfl, by rw [List.length_append]; rfl, ⟨by have := HRS.out (by trivial); have := HK.out; simp only [List.length_append, List.length_cons, List.length_nil]; omega⟩, HP2, HS3⟩
        · have hP2 := (if_neg hok).symm.trans HP.out
          clear HP
          injection hP2 with h1 h2
          injection h2 with h2 h3
          subst h1 h2 h3
          have HC0 := Aside0.mk nil_C
          have hok2 : ok = false ∨ (ok = true ∧ fine = false) := by cases ok <;> cases fine <;> simp_all
          rcases hok2 with rfl | ⟨rfl, rfl⟩
          · clear hok
            go_wp2_with (first
              | (go_at_call 26; (refine (cut_calls t 10 _ (HF.out.below HS.out.bel) HLE.out.1).mono ?_); rintro e1 w1 ⟨rfl, hb⟩; rw [HC.out]; have HS1 := Aside0.mk (HS.out.below hb); clear hb HS)
              | (go_at_call 27; (with_reducible refine (read_calls hd _ (HF.out.below HS1.out.bel) HLE.out.2.1).mono ?_); rintro e2 w2 ⟨rfl, hb⟩; rw [HRD.out]; have HS2 := Aside0.mk ((HS1.out.below hb).below (below_alloc (Below.refl _ _) (.cells #[.int .i64 op, .int .i64 a] 43))); clear hb HS1))
            go_ret3
            exact ⟨none, 0, rfl, Nat.le_refl _, HC0.out _, HS2.out.bel⟩
          · clear hok
            go_wp2_with (first
              | (go_at_call 26; (refine (cut_calls t 10 _ (HF.out.below HS.out.bel) HLE.out.1).mono ?_); rintro e1 w1 ⟨rfl, hb⟩; rw [HC.out]; have HS1 := Aside0.mk (HS.out.below hb); clear hb HS)
              | (go_at_call 27; (with_reducible refine (read_calls hd _ (HF.out.below HS1.out.bel) HLE.out.2.1).mono ?_); rintro e2 w2 ⟨rfl, hb⟩; rw [HRD.out]; have HS2 := Aside0.mk ((HS1.out.below hb).below (below_alloc (Below.refl _ _) (.cells #[.int .i64 op, .int .i64 a] 43))); clear hb HS1))
            go_ret3
            exact ⟨none, 0, rfl, Nat.le_refl _, HC0.out _, HS2.out.bel⟩
end Go.Proofs.YtnfodfacilmgeaaDoor.Code
