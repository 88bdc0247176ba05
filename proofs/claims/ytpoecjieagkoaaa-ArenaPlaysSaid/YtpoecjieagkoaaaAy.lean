/- Arena: its methods beside lists of the caller's own. No condition. -/
import Derived.Test.YtpoecjieagkoaaaAx
namespace Go.Proofs.Ytpoecjieagkoaaa.Arena
open Go Go.ChangeMaps Go.RowKit Go.Proofs.YtpoecjieagkoaaaW.PrintWords Go.Proofs.YtpoecjieagkoaaaW.PrintLast Go.Proofs.YtpoecjieagkoaaaW.PrintMore
set_option linter.unusedVariables false
set_option linter.unusedSimpArgs false
section
variable {w w' w1 : World} {F F' : List Nat} {p m g : Nat} {fv : Value} {s : St} {B : Nat}
theorem Is.kept (h : Is w F p s m g fv) (hk : ∀ k ∈ F, w'.heap[k]? = w.heap[k]?) (hs : w.heap.size ≤ w'.heap.size) : Is w' F p s m g fv :=
  ⟨(hk p h.pF).trans h.hp, (hk m h.mF).trans h.hm, (hk g h.gF).trans h.hg, Kd.R_move h.hf (fun k h1 => hk k h1.1), h.pF, h.mF, h.gF, fun k h1 => Nat.lt_of_lt_of_le (h.lt k h1) hs⟩
def AtF (F : List Nat) (B : Nat) (w : World) (p : Nat) (s : St) : Prop := (∃ m g fv, Is w F p s m g fv) ∧ ∀ k ∈ F, B ≤ k
theorem At.atF (h : At B w p s) : ∃ F, AtF F B w p s := by
  obtain ⟨F, m, g, fv, h, hB⟩ := h
  exact ⟨F, ⟨m, g, fv, h⟩, hB⟩
theorem AtF.at_ (h : AtF F B w p s) : At B w p s := by
  obtain ⟨⟨m, g, fv, h⟩, hB⟩ := h
  exact ⟨F, m, g, fv, h, hB⟩
theorem AtF.size (h : AtF F B w p s) : B ≤ w.heap.size := by
  obtain ⟨⟨m, g, fv, h⟩, hB⟩ := h
  exact h.size hB
theorem AtF.lt (h : AtF F B w p s) : ∀ k ∈ F, k < w.heap.size := by
  obtain ⟨⟨m, g, fv, h⟩, hB⟩ := h
  exact h.lt
theorem AtF.kept (h : AtF F B w p s) (hk : ∀ k ∈ F, w'.heap[k]? = w.heap[k]?) (hs : w.heap.size ≤ w'.heap.size) : AtF F B w' p s := by
  obtain ⟨⟨m, g, fv, h⟩, hB⟩ := h
  exact ⟨⟨m, g, fv, h.kept hk hs⟩, hB⟩
theorem AtF.below (h : AtF F B w p s) (hb : Below w.heap.size w w') : AtF F B w' p s := h.kept (fun k hk => hb.block k (h.lt k hk)) hb.size
theorem AtF.drawn (h : AtF F B w p s) (hd : Drawn0 w w') : AtF F B w' p s := h.below hd.below
theorem AtF.grown (h : AtF F B w p s) {row : Option Nat} (hg : w.grownBy w' row) (hr : ∀ k ∈ F, some k ≠ row) : AtF F B w' p s := h.kept (fun k hk => hg.block k (h.lt k hk) (hr k hk)) hg.size
theorem R_moved {α : Type} {d : Kd α} {e base : Nat} {v : Value} {xs : List α} (h : d.R e w base (fun k => k ∉ F) v xs) (hM : Moved F F' w w') : d.R e w' base (fun k => k ∉ F') v xs :=
  Kd.R_mono (Kd.R_move (Kd.R_bound h) (fun k hk => hM.block k hk.2.2.1 hk.1)) (fun k hk h2 => by
    rcases hM.fresh k h2 with h3 | h3
    · exact hk.1 h3
    · have := hk.2.2.1; omega)
theorem take_atF (h : AtF F B w p s) {x v : Int} {s' : St} (hx : pickG s = x) (hv : (if x = 0 then 0 else rd s.gens x + 1) = v) (hs : takeS s = s') (hl : s.freed.length ≤ 1000000) (he : 0 ≤ s.ever ∧ s.ever ≤ 1000000)
    (hfree : x ≠ 0 → has s.live x = false) (hr : x ≠ 0 → 1 ≤ x ∧ x < s.gens.length) (hb : 0 ≤ rd s.gens x ∧ rd s.gens x ≤ 1000000) :
    Calls Try.prog 11 #[.pointer (some ⟨p, 0, none⟩)] w fun e w' => e = .returned (.tuple #[.int .i64 x, .int .i64 v, .bool (decide (x ≠ 0))]) ∧ AtF F B w' p s' ∧ Moved F F w w' ∧ Below B w w' := by
  have hz := h.size
  obtain ⟨⟨m, g, fv, h⟩, hB⟩ := h
  subst hx hv hs
  refine (take_calls h hl he hfree hr hb).mono ?_
  rintro e w' ⟨rfl, ⟨fv', hI⟩, hM⟩
  exact ⟨rfl, ⟨⟨m, g, fv', hI⟩, hB⟩, hM, hM.below hB hz⟩
theorem free_atF (h : AtF F B w p s) (x : Int) {b : Bool} {s' : St} (hb : has s.live x = b) (hs : freeS s x = s') (hl : s.freed.length ≤ 1000000) :
    Calls Try.prog 12 #[.pointer (some ⟨p, 0, none⟩), .int .i64 x] w fun e w' => e = .returned (.bool b) ∧ ∃ F', AtF F' B w' p s' ∧ Moved F F' w w' ∧ Below B w w' := by
  have hz := h.size
  obtain ⟨⟨m, g, fv, h⟩, hB⟩ := h
  subst hb hs
  refine (free_calls h x hl).mono ?_
  rintro e w' ⟨rfl, F', ⟨fv', hI⟩, hM⟩
  refine ⟨rfl, F', ⟨⟨m, g, fv', hI⟩, fun k hk => ?_⟩, hM, hM.below hB hz⟩
  rcases hM.fresh k hk with h1 | h1
  · exact hB k h1
  · exact Nat.le_trans hz h1
/-- The one freed last is taken. -/
theorem full_take (h : AtF F B w p s) {n x c : Int} {fr : List Int} (hn : 1 ≤ n ∧ n ≤ 64) (hF : Full n s (fr ++ [x]) c) (hc : c ≤ 1000000) (hl : fr.length ≤ 1000) :
    Calls Try.prog 11 #[.pointer (some ⟨p, 0, none⟩)] w fun e w' => e = .returned (.tuple #[.int .i64 x, .int .i64 (rd s.gens x + 1), .bool true]) ∧ AtF F B w' p (takeS s) ∧ Moved F F w w' ∧ Below B w w' := by
  obtain ⟨h1, h2, h3, h4⟩ := hF.take hn.1
  have hg := hF.gen x
  have hx0 : x ≠ 0 := by omega
  have hcl := take_atF h (x := x) (v := rd s.gens x + 1) (s' := takeS s) h1 (if_neg hx0) rfl (by rw [hF.freed]; simp; omega) (by rw [hF.ever]; omega) (fun _ => h2) (fun _ => by rw [hF.gl]; omega) (by omega)
  rw [decide_eq_true hx0] at hcl
  exact hcl
theorem full_none (h : AtF F B w p s) {n c : Int} (hn : 1 ≤ n ∧ n ≤ 64) (hF : Full n s [] c) (hc : c ≤ 1000000) :
    Calls Try.prog 11 #[.pointer (some ⟨p, 0, none⟩)] w fun e w' => e = .returned (.tuple #[.int .i64 0, .int .i64 0, .bool false]) ∧ AtF F B w' p s ∧ Moved F F w w' ∧ Below B w w' := by
  obtain ⟨h1, h2⟩ := hF.pick_none
  have hg := hF.gen 0
  exact take_atF h (x := 0) (v := 0) (s' := s) h1 rfl h2 (by rw [hF.freed]; simp) (by rw [hF.ever]; omega) (fun h => absurd rfl h) (fun h => absurd rfl h) (by omega)
end
/-- Who has been freed: the first i of the numbers, each once. -/
def fstep (n : Int) (fr : List Int) (b : Int) : List Int := if 1 + b % n ∈ fr then fr else fr ++ [1 + b % n]
def freedOf (l : List Int) : Nat → List Int
  | 0 => []
  | i + 1 => fstep 64 (freedOf l i) (rd l (i : Int))
theorem freedOf_len (l : List Int) : ∀ i, (freedOf l i).length ≤ i
  | 0 => Nat.le_refl 0
  | i + 1 => by
    have := freedOf_len l i
    unfold freedOf fstep
    split
    · omega
    · simp; omega
end Go.Proofs.Ytpoecjieagkoaaa.Arena
