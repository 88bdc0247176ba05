/- Arena: its methods, as a thing beside others and beside values that are only read. No condition. -/
import Derived.Test.YtpoecjieagkoaaaBa
import Derived.Test.YtpoecjieagkoaaaOwn5
namespace Go.Proofs.Ytpoecjieagkoaaa.Arena
open Go Go.ChangeMaps Go.RowKit Go.Proofs.YtpoecjieagkoaaaW.PrintWords Go.Proofs.YtpoecjieagkoaaaW.PrintLast Go.Proofs.YtpoecjieagkoaaaW.PrintMore
set_option linter.unusedVariables false
set_option linter.unusedSimpArgs false
def arenaO (p : Nat) (s : St) : Own.Thing where
  holds w F P := ∃ L : List Nat, (∀ k, F k ↔ k ∈ L) ∧ ∃ m g fv, Is w L p s m g fv
  lt := by
    rintro w F P ⟨L, hL, m, g, fv, h⟩ k hk
    exact h.lt k ((hL k).mp hk)
  mono h _ := h
  kept := by
    rintro w w' F P ⟨L, hL, m, g, fv, h⟩ hk hs
    exact ⟨L, hL, m, g, fv, h.kept (fun k a => hk k (.inl ((hL k).mpr a)) (h.lt k a)) hs⟩
section
variable {w0 w w' : World} {F0 P0 : Nat → Prop} {p : Nat} {s : St} {ts : List Own.Thing}
theorem actO (h : Own.St w0 F0 P0 (arenaO p s :: ts) w) : ∃ L m g fv, Is w L p s m g fv ∧ ∀ w' s' L' m' g' fv', Is w' L' p s' m' g' fv' → Moved L L' w w' → Own.St w0 F0 P0 (arenaO p s' :: ts) w' := by
  obtain ⟨F1, P1, h1, hk⟩ := Own.St.part (ts1 := [arenaO p s]) h
  obtain ⟨F, ⟨G1, G2, g1, ⟨L, hL, m, g, fv, hI⟩, g3, g4⟩, hm⟩ := h1
  have hF1 : ∀ k, k < w.heap.size → k ∈ L → F1 k := fun k hk1 hL' => (hm.fresh k ((g1 k).mpr (.inl ((hL k).mpr hL')))).elim id (fun c => absurd hk1 (by omega))
  refine ⟨L, m, g, fv, hI, fun w' s' L' m' g' fv' hI' hM => hk w' [arenaO p s'] ⟨⟨fun k => k ∈ L', ⟨fun k => k ∈ L', fun _ => False, fun k => by simp, ⟨L', fun _ => Iff.rfl, m', g', fv', hI'⟩, fun k _ => id, fun k => id⟩, ?_⟩⟩⟩
  exact ⟨hM.os, hM.tape, hM.output, hM.size, fun k hk1 hF => hM.block k hk1 (fun hL' => hF (hF1 k hk1 hL')), fun k hk1 => (hM.fresh k hk1).elim (fun c => .inl (hF1 k (hI.lt k c) c)) .inr⟩
theorem take_o (h : Own.St w0 F0 P0 (arenaO p s :: ts) w) {x v : Int} {s' : St} (hx : pickG s = x) (hv : (if x = 0 then 0 else rd s.gens x + 1) = v) (hs : takeS s = s') (hl : s.freed.length ≤ 1000000) (he : 0 ≤ s.ever ∧ s.ever ≤ 1000000)
    (hfree : x ≠ 0 → has s.live x = false) (hr : x ≠ 0 → 1 ≤ x ∧ x < s.gens.length) (hb : 0 ≤ rd s.gens x ∧ rd s.gens x ≤ 1000000) :
    Calls Try.prog 11 #[.pointer (some ⟨p, 0, none⟩)] w fun e w' => e = .returned (.tuple #[.int .i64 x, .int .i64 v, .bool (decide (x ≠ 0))]) ∧ Own.St w0 F0 P0 (arenaO p s' :: ts) w' := by
  obtain ⟨L, m, g, fv, hI, hk⟩ := actO h
  subst hx hv hs
  refine (take_calls hI hl he hfree hr hb).mono ?_
  rintro e w' ⟨rfl, ⟨fv', hI'⟩, hM⟩
  exact ⟨rfl, hk w' _ _ _ _ _ hI' hM⟩
theorem free_o (h : Own.St w0 F0 P0 (arenaO p s :: ts) w) (x : Int) {b : Bool} {s' : St} (hb : has s.live x = b) (hs : freeS s x = s') (hl : s.freed.length ≤ 1000000) :
    Calls Try.prog 12 #[.pointer (some ⟨p, 0, none⟩), .int .i64 x] w fun e w' => e = .returned (.bool b) ∧ Own.St w0 F0 P0 (arenaO p s' :: ts) w' := by
  obtain ⟨L, m, g, fv, hI, hk⟩ := actO h
  subst hb hs
  refine (free_calls hI x hl).mono ?_
  rintro e w' ⟨rfl, F', ⟨fv', hI'⟩, hM⟩
  exact ⟨rfl, hk w' _ _ _ _ _ hI' hM⟩
theorem live_o (h : Own.St w0 F0 P0 (arenaO p s :: ts) w) (x : Int) {b : Bool} (hb : has s.live x = b) : Calls Try.prog 14 #[.pointer (some ⟨p, 0, none⟩), .int .i64 x] w fun e w' => e = .returned (.bool b) ∧ w' = w := by
  obtain ⟨L, m, g, fv, hI, -⟩ := actO h
  subst hb
  exact Live_calls hI x
theorem count_o (h : Own.St w0 F0 P0 (arenaO p s :: ts) w) {n : Int} (hn : (s.live.length : Int) = n) : Calls Try.prog 15 #[.pointer (some ⟨p, 0, none⟩)] w fun e w' => e = .returned (.int .i64 n) ∧ w' = w := by
  obtain ⟨L, m, g, fv, hI, -⟩ := actO h
  subst hn
  exact Count_calls hI
theorem gen_o (h : Own.St w0 F0 P0 (arenaO p s :: ts) w) (x : Int) {n : Int} (hn : genOf s x = n) : Calls Try.prog 19 #[.pointer (some ⟨p, 0, none⟩), .int .i64 x] w fun e w' => e = .returned (.int .i64 n) ∧ w' = w := by
  obtain ⟨L, m, g, fv, hI, -⟩ := actO h
  subst hn
  exact Gen_calls hI x
theorem new_o (h : Own.St w0 F0 P0 ts w) (room : Int) (hr : 1 ≤ room ∧ room ≤ 64) : Calls Try.prog 10 #[.int .i64 room] w fun e w' => ∃ p, e = .returned (.tuple #[.pointer (some ⟨p, 0, none⟩), .int .i64 0]) ∧ Own.St w0 F0 P0 (arenaO p (newS room) :: ts) w' := by
  refine (new_calls room hr w).mono ?_
  rintro e w' ⟨p, rfl, ⟨F, m, g, fv, hI, hB⟩, hb⟩
  exact ⟨p, rfl, h.made hb (fun P hP => ⟨fun k => k ∈ F, ⟨F, fun _ => Iff.rfl, m, g, fv, hI⟩, hB⟩)⟩
theorem ok_take_o (h : Own.St w0 F0 P0 (arenaO p s :: ts) w) {n c : Int} (hn : 1 ≤ n ∧ n ≤ 64) (hO : Ok n s c) (hc : c ≤ 100000) {g : Int} (hg : pickG s = g) (hg0 : g ≠ 0) {v : Int} (hv : rd s.gens g + 1 = v) :
    Calls Try.prog 11 #[.pointer (some ⟨p, 0, none⟩)] w fun e w' => e = .returned (.tuple #[.int .i64 g, .int .i64 v, .bool true]) ∧ Own.St w0 F0 P0 (arenaO p (takeS s) :: ts) w' := by
  subst hg hv
  have hT := hO.take hg0
  have hm := hO.many
  have he := hO.ever
  have hgn := hO.gen (pickG s)
  have hcl := take_o h (x := pickG s) (v := rd s.gens (pickG s) + 1) (s' := takeS s) rfl (if_neg hg0) rfl (by omega) (by omega) (fun _ => hT.1) (fun _ => by rw [hO.gl]; have := hT.2.1; omega) (by omega)
  rw [decide_eq_true hg0] at hcl
  exact hcl
theorem ok_none_o (h : Own.St w0 F0 P0 (arenaO p s :: ts) w) {n c : Int} (hn : 1 ≤ n ∧ n ≤ 64) (hO : Ok n s c) (hc : c ≤ 100000) (hg : pickG s = 0) :
    Calls Try.prog 11 #[.pointer (some ⟨p, 0, none⟩)] w fun e w' => e = .returned (.tuple #[.int .i64 0, .int .i64 0, .bool false]) ∧ Own.St w0 F0 P0 (arenaO p s :: ts) w' := by
  have hm := hO.many
  have he := hO.ever
  have hgn := hO.gen 0
  exact take_o h (x := 0) (v := 0) (s' := s) hg rfl (hO.full hg).2.1 (by omega) (by omega) (fun h => absurd rfl h) (fun h => absurd rfl h) (by omega)
end
end Go.Proofs.Ytpoecjieagkoaaa.Arena
