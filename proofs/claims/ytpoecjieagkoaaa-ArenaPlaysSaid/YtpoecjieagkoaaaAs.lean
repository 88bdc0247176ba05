/- Arena: what its methods answer, and what they do to its memory. No condition. -/
import Derived.Test.YtpoecjieagkoaaaAr
namespace Go.Proofs.Ytpoecjieagkoaaa.Arena
open Go Go.RowKit Go.Proofs.YtpoecjieagkoaaaW.PrintWords Go.Proofs.YtpoecjieagkoaaaW.PrintLast Go.Proofs.YtpoecjieagkoaaaW.PrintMore
set_option linter.unusedVariables false
set_option linter.unusedSimpArgs false

structure St where
  room : Int
  ever : Int
  freed : List Int
  live : List (Int × Nat)
  clock : Nat
  gens : List Int
/-- How an arena lies: F: all its blocks. -/
structure Is (w : World) (F : List Nat) (p : Nat) (s : St) (m g : Nat) (fv : Value) : Prop where
  hp : w.heap[p]? = some (.cells #[.int .i64 s.room, .int .i64 s.ever, fv, .map (some m), .slice (some ⟨g, 0, none⟩) s.gens.length s.gens.length] 51 (0, 0))
  hm : w.heap[m]? = some (.map (ents s.live) s.clock)
  hg : w.heap[g]? = some (.cells (nums .i64 s.gens).toArray 3 (0, 0))
  hf : Kd.R (Kd.int .i64) 3 w 0 (fun k => k ∈ F ∧ k ≠ g) fv s.freed
  pF : p ∈ F
  mF : m ∈ F
  gF : g ∈ F
  lt : ∀ k ∈ F, k < w.heap.size
/-- What a method may have done: outside of F nothing has turned; what is new in F' is new in memory. -/
structure Moved (F F' : List Nat) (w w' : World) : Prop where
  os : w'.os = w.os
  tape : w'.tape = w.tape
  output : w'.output = w.output
  size : w.heap.size ≤ w'.heap.size
  block : ∀ k, k < w.heap.size → k ∉ F → w'.heap[k]? = w.heap[k]?
  fresh : ∀ k ∈ F', k ∈ F ∨ w.heap.size ≤ k
section
variable {w w' : World} {F F' : List Nat} {p m g : Nat} {fv : Value} {s : St}
theorem Is.cell (h : Is w F p s m g fv) : w.cell? ⟨p, 0, none⟩ = some (.int .i64 s.room) ∧ w.cell? ⟨p, 1, none⟩ = some (.int .i64 s.ever) ∧ w.cell? ⟨p, 2, none⟩ = some fv ∧ w.cell? ⟨p, 3, none⟩ = some (.map (some m)) ∧ w.cell? ⟨p, 4, none⟩ = some (.slice (some ⟨g, 0, none⟩) s.gens.length s.gens.length) := by
  refine ⟨?_, ?_, ?_, ?_, ?_⟩ <;> simp [World.cell?, h.hp]
theorem Is.gen (h : Is w F p s m g fv) (i : Int) (h0 : 0 ≤ i) (h1 : i < s.gens.length) : w.cell? ⟨g, i.toNat, none⟩ = some (.int .i64 (rd s.gens i)) ∧ w.frozen? ⟨g, i.toNat, none⟩ = false := by
  have hl : i.toNat < s.gens.length := by omega
  constructor
  · simp [World.cell?, h.hg, nums, rd, List.getD_eq_getElem?_getD, List.getElem?_eq_getElem hl]
  · simp [World.frozen?, h.hg]
theorem Moved.refl (F : List Nat) (w : World) : Moved F F w w := ⟨rfl, rfl, rfl, Nat.le_refl _, fun _ _ _ => rfl, fun _ h => .inl h⟩
theorem Moved.below {B : Nat} (h : Moved F F' w w') (hB : ∀ k ∈ F, B ≤ k) (hs : B ≤ w.heap.size) : Below B w w' :=
  ⟨h.os, h.tape, h.output, h.size, fun k hk => h.block k (by omega) (fun hF => by have := hB k hF; omega)⟩
theorem Is.drewN (h : Is w F p s m g fv) (n : Nat) : Is (w.drewN n) F p s m g fv := ⟨h.hp, h.hm, h.hg, Kd.R_drewN h.hf n, h.pF, h.mF, h.gF, h.lt⟩
theorem Moved.drawn {w1 : World} (h : Moved F F' w w') (hd : Drawn0 w' w1) : Moved F F' w w1 := by
  obtain ⟨n, rfl⟩ := hd
  exact ⟨h.os, h.tape, h.output, h.size, h.block, h.fresh⟩

theorem Live_calls (h : Is w F p s m g fv) (x : Int) : Calls Try.prog 14 #[.pointer (some ⟨p, 0, none⟩), .int .i64 x] w fun e w' => e = .returned (.bool (has s.live x)) ∧ w' = w := by
  obtain ⟨c0, c1, c2, c3, c4⟩ := h.cell
  have hl := lookup_ents h.hm x
  go_enter Try.func14, Try.ntmps14
  go_wp2
  go_ret
  exact ⟨rfl, rfl⟩
theorem Live_none (w : World) (x : Int) : Calls Try.prog 14 #[.pointer none, .int .i64 x] w fun e w' => e = .returned (.bool false) ∧ w' = w := by
  go_enter Try.func14, Try.ntmps14
  go_wp2
  go_ret
  exact ⟨rfl, rfl⟩
theorem Count_none (w : World) : Calls Try.prog 15 #[.pointer none] w fun e w' => e = .returned (.int .i64 0) ∧ w' = w := by
  go_enter Try.func15, Try.ntmps15
  go_wp2
  go_ret
  exact ⟨rfl, rfl⟩
theorem Gen_none (w : World) (x : Int) : Calls Try.prog 19 #[.pointer none, .int .i64 x] w fun e w' => e = .returned (.int .i64 0) ∧ w' = w := by
  go_enter Try.func19, Try.ntmps19
  go_wp2
  go_ret
  exact ⟨rfl, rfl⟩
theorem Count_calls (h : Is w F p s m g fv) : Calls Try.prog 15 #[.pointer (some ⟨p, 0, none⟩)] w fun e w' => e = .returned (.int .i64 s.live.length) ∧ w' = w := by
  obtain ⟨c0, c1, c2, c3, c4⟩ := h.cell
  have hm := h.hm
  have hlen : (Builtin.len_ #[49] 3 #[.map (some m)]).run Try.prog w = .ok (.int .i64 s.live.length) w := by
    simp [Builtin.len_, run_underlying under49, MapKept.run_getObj_map hm, Result.andThen, ents, goInt]
  go_enter Try.func15, Try.ntmps15
  go_wp2
  go_ret
  exact ⟨rfl, rfl⟩
def genOf (s : St) (x : Int) : Int := if x < 1 then 0 else if x ≥ s.gens.length then 0 else rd s.gens x
theorem Gen_calls (h : Is w F p s m g fv) (x : Int) : Calls Try.prog 19 #[.pointer (some ⟨p, 0, none⟩), .int .i64 x] w fun e w' => e = .returned (.int .i64 (genOf s x)) ∧ w' = w := by
  obtain ⟨c0, c1, c2, c3, c4⟩ := h.cell
  unfold genOf
  by_cases h1 : x < 1
  · have e1 : decide (x < 1) = true := decide_eq_true h1
    rw [if_pos h1]
    go_enter Try.func19, Try.ntmps19
    go_wp2
    go_ret
    exact ⟨rfl, rfl⟩
  · have e1 : decide (x < 1) = false := decide_eq_false h1
    rw [if_neg h1]
    by_cases h2 : x ≥ s.gens.length
    · have e2 : decide ((s.gens.length : Int) ≤ x) = true := decide_eq_true h2
      rw [if_pos h2]
      go_enter Try.func19, Try.ntmps19
      go_wp2
      go_ret
      exact ⟨rfl, rfl⟩
    · have e2 : decide ((s.gens.length : Int) ≤ x) = false := decide_eq_false h2
      have e3 : 0 ≤ x := by omega
      have e4 : x < s.gens.length := by omega
      obtain ⟨g1, g2⟩ := h.gen x e3 e4
      rw [if_neg h2]
      go_enter Try.func19, Try.ntmps19
      go_wp2
      go_ret
      exact ⟨rfl, rfl⟩
end
end Go.Proofs.Ytpoecjieagkoaaa.Arena
