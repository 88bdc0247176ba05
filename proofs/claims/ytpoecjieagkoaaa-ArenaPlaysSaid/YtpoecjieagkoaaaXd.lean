/- Arena: the document's functions beside the program's, in the same words. No condition. -/
import Derived.Test.YtpoecjieagkoaaaXc
import Derived.Deep.QuietTactic
import Derived.BigQuiet
namespace Go.Proofs.Ytpoecjieagkoaaa.Arena
open Go Go.ChangeMaps Go.RowKit Go.Proofs.YtpoecjieagkoaaaW.PrintWords Go.Proofs.YtpoecjieagkoaaaW.PrintLast Go.Proofs.YtpoecjieagkoaaaW.PrintMore Go.Proofs.Ytpoecjieagkoaaa.PTake Go.Proofs.Ytpoecjieagkoaaa.Own
set_option linter.unusedVariables false
set_option linter.unusedSimpArgs false
theorem Ok.moreC {n : Int} {s : St} {c c' : Int} (h : Ok n s c) (hc : c ≤ c') : Ok n s c' := { h with gen := fun x => by have := h.gen x; omega }
theorem Ok.nextTake {n : Int} {s : St} {c : Int} (h : Ok n s c) : Ok n (takeS s) (c + 1) := by
  by_cases hp : pickG s = 0
  · rw [(h.full hp).2.1]; exact h.moreC (by omega)
  · exact (h.take hp).2.2.2.1
theorem Ok.nextFree {n : Int} {s : St} {c : Int} (h : Ok n s c) (x : Int) : Ok n (freeS s x) (c + 1) := (h.free x).1.moreC (by omega)
def takeV (s : St) : Int := if pickG s = 0 then 0 else rd s.gens (pickG s) + 1
section
variable {w0 w w' : World} {F0 P0 : Nat → Prop} {ts : List Thing} {s : St} {n c : Int} {vl vf vg : Value} {p : Nat}
theorem prog_take (h : Own.St w0 F0 P0 (arenaO p s :: ts) w) (hO : Ok n s c) (hn : 1 ≤ n ∧ n ≤ 64) (hc : c ≤ 100000) {g m : Int} (hg : pickG s = g) (hm : takeV s = m) :
    Calls Try.prog 11 #[.pointer (some ⟨p, 0, none⟩)] w fun e w' => e = .returned (.tuple #[.int .i64 g, .int .i64 m, .bool (decide (g ≠ 0))]) ∧ Own.St w0 F0 P0 (arenaO p (takeS s) :: ts) w' := by
  subst hg hm
  have hmn := hO.many
  have he := hO.ever
  have hgn := hO.gen (pickG s)
  exact take_o h rfl rfl rfl (by omega) (by omega) (fun h0 => (hO.take h0).1) (fun h0 => by rw [hO.gl]; have := (hO.take h0).2.1; omega) (by omega)
theorem doc_take_any (h : Own.St w0 F0 P0 (Dt vl vf vg s ts) w) (hO : Ok n s c) (hn : n ≤ 64) (hc : c ≤ 100000) {g m r : Int} (hr : s.room = r) (hg : pickG s = g) (hm : takeV s = m) :
    Calls Try.prog 17 #[.agg #[.int .i64 r, vl, vf, vg]] w fun e w' => ∃ v1 v2 v3, e = .returned (.tuple #[.agg #[.int .i64 r, v1, v2, v3], .int .i64 g, .int .i64 m, .bool (decide (g ≠ 0))]) ∧ Own.St w0 F0 P0 (Dt v1 v2 v3 (takeS s) ts) w' := by
  subst hr hg hm
  unfold takeV
  by_cases hp : pickG s = 0
  · rw [hp, if_pos rfl, (hO.full hp).2.1]
    refine (doc_take_no h hO hn hp).mono ?_
    rintro e w' ⟨rfl, hS⟩
    exact ⟨vl, vf, vg, rfl, hS⟩
  · rw [if_neg hp, decide_eq_true hp]
    have hrm : (takeS s).room = s.room := (takeS_rel hO hp).2.2.2
    have := doc_take h hO hn hc rfl hp rfl
    rw [hrm] at this
    exact this
theorem doc_free_any (h : Own.St w0 F0 P0 (Dt vl vf vg s ts) w) (hO : Ok n s c) (hn : n ≤ 64) (x : Int) {r : Int} {b : Bool} (hr : s.room = r) (hb : has s.live x = b) :
    Calls Try.prog 18 #[.agg #[.int .i64 r, vl, vf, vg], .int .i64 x] w fun e w' => ∃ v1 v2 v3, e = .returned (.tuple #[.agg #[.int .i64 r, v1, v2, v3], .bool b]) ∧ Own.St w0 F0 P0 (Dt v1 v2 v3 (freeS s x) ts) w' := by
  subst hr hb
  cases hx : has s.live x with
  | true =>
    have hrm : (freeS s x).room = s.room := (freeS_rel hO x hx).2.2.2
    have := doc_free h hO hn x hx
    rw [hrm] at this
    exact this
  | false =>
    have hf : freeS s x = s := by unfold freeS; rw [hx]; rfl
    rw [hf]
    refine (doc_free_no h hO hn x hx).mono ?_
    rintro e w' ⟨rfl, hS⟩
    exact ⟨vl, vf, vg, rfl, hS⟩
theorem doc_gen (h : Own.St w0 F0 P0 (Dt vl vf vg s ts) w) (x : Int) {r m : Int} (hm : genOf s x = m) :
    Calls Try.prog 20 #[.agg #[.int .i64 r, vl, vf, vg], .int .i64 x] w fun e w' => e = .returned (.int .i64 m) ∧ Below w.heap.size w w' := by
  subst hm
  obtain ⟨Al, cl, rfl, hcl, hl⟩ := h.rd_open
  obtain ⟨Af, cf, rfl, hcf, hf⟩ := (St.pick (ts1 := [_]) h).rd_open
  obtain ⟨Ag, cg, rfl, hcg, hgn⟩ := (St.pick (ts1 := [_, _]) h).rd_open
  refine Go.Proofs.Ytpoecjieagkoaaa.PRef08.catafalqueref08_Gen.calls r Al cl (keys s) Af cf s.freed Ag cg s.gens x _ w hl hcl hf hcf hgn hcg ?_
  unfold Go.Proofs.Ytpoecjieagkoaaa.PRef08.catafalqueref08_Gen.f genOf
  by_cases h1 : x < 1
  · rw [if_pos h1, if_pos h1]
  · rw [if_neg h1, if_neg h1]
    by_cases h2 : x ≥ (s.gens.length : Int)
    · rw [if_pos h2, if_pos h2]
    · rw [if_neg h2, if_neg h2, if_pos (by omega), if_pos (by omega)]
theorem doc_new (h : Own.St w0 F0 P0 ts w) (r : Int) (hr : 1 ≤ r ∧ r ≤ 64) :
    Calls Try.prog 16 #[.int .i64 r] w fun e w' => ∃ v1 v2 v3, e = .returned (.tuple #[.agg #[.int .i64 r, v1, v2, v3], .int .i64 0]) ∧ Own.St w0 F0 P0 (Dt v1 v2 v3 (newS r) ts) w' := by
  refine (Go.Proofs.Ytpoecjieagkoaaa.PRef08.catafalqueref08_New.calls 100 r _ _ _ _ _ w (new_f r hr)).mono ?_
  rintro e w' ⟨v1, v2, v3, rfl, h1, h2, h3, hb⟩
  refine ⟨v1, v2, v3, rfl, ?_⟩
  have hq := h.made_val (Q := fun W => Rd (Kd.int .i64) v1 [] W ∧ Rd (Kd.int .i64) v2 [] W ∧ Rd (Kd.int .i64) v3 (List.replicate (r + 1).toNat 0) W) hb (fun W' hW => ⟨foot_rd h1 (Nat.le_refl _) W' hW, foot_rd h2 (Nat.le_refl _) W' hW, foot_rd h3 (Nat.le_refl _) W' hW⟩)
  have h4 := hq.split
  have h5 := (h4.swap).split
  exact h5.nth2
theorem doc_new_bad (r : Int) (hr : r < 1 ∨ r > 64) (w : World) :
    Calls Try.prog 16 #[.int .i64 r] w fun e w' => ∃ A1 n1 c1 A2 n2 c2 A3 n3 c3, e = .returned (.tuple #[.agg #[.int .i64 0, .slice A1 n1 c1, .slice A2 n2 c2, .slice A3 n3 c3], .int .i64 1]) ∧ Below w.heap.size w w' := by
  refine (Go.Proofs.Ytpoecjieagkoaaa.PRef08.catafalqueref08_New.calls 100 r _ _ _ _ _ w (new_f_bad r hr)).mono ?_
  rintro e w' ⟨v1, v2, v3, rfl, h1, h2, h3, hb⟩
  obtain ⟨A1, c1, rfl⟩ := Kd.R_slice h1
  obtain ⟨A2, c2, rfl⟩ := Kd.R_slice h2
  obtain ⟨A3, c3, rfl⟩ := Kd.R_slice h3
  exact ⟨_, _, _, _, _, _, _, _, _, rfl, hb⟩
/-- What Free answers, as one thing. -/
def docT (v : Value) (r : Int) (s : St) (b : Bool) : Thing := packT (ι := {x : Value × Value × Value // v = .tuple #[.agg #[.int .i64 r, x.1, x.2.1, x.2.2], .bool b]}) (fun x => [rdT (Kd.int .i64) x.1.1 (keys s), rdT (Kd.int .i64) x.1.2.1 s.freed, rdT (Kd.int .i64) x.1.2.2 s.gens])
theorem docT_mk {v1 v2 v3 : Value} {r : Int} {b : Bool} (h : Own.St w0 F0 P0 (Dt v1 v2 v3 s ts) w) : Own.St w0 F0 P0 (docT (.tuple #[.agg #[.int .i64 r, v1, v2, v3], .bool b]) r s b :: ts) w :=
  St.pack (f := fun x : {x : Value × Value × Value // (Value.tuple #[.agg #[.int .i64 r, v1, v2, v3], .bool b]) = .tuple #[.agg #[.int .i64 r, x.1, x.2.1, x.2.2], .bool b]} => [rdT (Kd.int .i64) x.1.1 (keys s), rdT (Kd.int .i64) x.1.2.1 s.freed, rdT (Kd.int .i64) x.1.2.2 s.gens]) ⟨(v1, v2, v3), rfl⟩ h
theorem docT_open {v1 v2 v3 : Value} {r : Int} {b : Bool} (h : Own.St w0 F0 P0 (docT (.tuple #[.agg #[.int .i64 r, v1, v2, v3], .bool b]) r s b :: ts) w) : Own.St w0 F0 P0 (Dt v1 v2 v3 s ts) w := by
  obtain ⟨⟨⟨x1, x2, x3⟩, hx⟩, h2⟩ := h.unpack
  simp only [Value.tuple.injEq, Array.mk.injEq, List.cons.injEq, and_true, Value.agg.injEq, true_and] at hx
  obtain ⟨rfl, rfl, rfl⟩ := hx
  exact h2
theorem copy3 {Q1 Q2 Q3 : World → Prop} (h : Own.St w0 F0 P0 ts w) (h1 : valT Q1 ∈ ts) (h2 : valT Q2 ∈ ts) (h3 : valT Q3 ∈ ts) : Own.St w0 F0 P0 (valT Q1 :: valT Q2 :: valT Q3 :: ts) w :=
  St.copy (by simp [h1]) (St.copy (by simp [h2]) (St.copy h3 h))
theorem put4 {b : Nat} {a0 a1 a2 a3 b0 b1 b2 b3 : Value} (h : Own.St w0 F0 P0 (boxT b 37 #[a0, a1, a2, a3] :: ts) w) : Own.St w0 F0 P0 (boxT b 37 #[b0, b1, b2, b3] :: ts) ((((w.setCell ⟨b, 0, none⟩ b0).setCell ⟨b, 1, none⟩ b1).setCell ⟨b, 2, none⟩ b2).setCell ⟨b, 3, none⟩ b3) := (((h.box_set 0 b0).box_set 1 b1).box_set 2 b2).box_set 3 b3
theorem cells4 {b : Nat} {a0 a1 a2 a3 : Value} (h : Own.St w0 F0 P0 (boxT b 37 #[a0, a1, a2, a3] :: ts) w) : (w.cell? ⟨b, 0, none⟩ = some a0 ∧ w.cell? ⟨b, 1, none⟩ = some a1 ∧ w.cell? ⟨b, 2, none⟩ = some a2 ∧ w.cell? ⟨b, 3, none⟩ = some a3) ∧ (w.frozen? ⟨b, 0, none⟩ = false ∧ w.frozen? ⟨b, 1, none⟩ = false ∧ w.frozen? ⟨b, 2, none⟩ = false ∧ w.frozen? ⟨b, 3, none⟩ = false) ∧ b < w.heap.size :=
  ⟨⟨(h.box_cell 0 _ rfl).1, (h.box_cell 1 _ rfl).1, (h.box_cell 2 _ rfl).1, (h.box_cell 3 _ rfl).1⟩, ⟨(h.box_cell 0 _ rfl).2, (h.box_cell 1 _ rfl).2, (h.box_cell 2 _ rfl).2, (h.box_cell 3 _ rfl).2⟩, h.boxed.2⟩
end
theorem dt_slices {w0 w : World} {F0 P0 : Nat → Prop} {ts : List Thing} {s : St} {v1 v2 v3 : Value} {r : Int} {b : Bool} (h : Own.St w0 F0 P0 (Dt v1 v2 v3 s ts) w) : ∃ D1 m1 d1 D2 m2 d2 D3 m3 d3, (Value.tuple #[.agg #[.int .i64 r, v1, v2, v3], .bool b]) = .tuple #[.agg #[.int .i64 r, .slice D1 m1 d1, .slice D2 m2 d2, .slice D3 m3 d3], .bool b] := by
  obtain ⟨A1, c1, rfl, -, -⟩ := h.rd_open
  obtain ⟨A2, c2, rfl, -, -⟩ := (St.pick (ts1 := [_]) h).rd_open
  obtain ⟨A3, c3, rfl, -, -⟩ := (St.pick (ts1 := [_, _]) h).rd_open
  exact ⟨_, _, _, _, _, _, _, _, _, rfl⟩
def Deeds (A : Option Addr) (l : List Int) : Thing := valT (fun W => (Kd.int .i64).C W A l.length l)
end Go.Proofs.Ytpoecjieagkoaaa.Arena
