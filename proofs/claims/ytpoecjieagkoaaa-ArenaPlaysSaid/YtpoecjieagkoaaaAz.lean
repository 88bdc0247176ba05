/- Arena: its methods, as a thing beside others. No condition. -/
import Derived.Test.YtpoecjieagkoaaaAy
import Derived.Test.YtpoecjieagkoaaaSep
namespace Go.Proofs.Ytpoecjieagkoaaa.Arena
open Go Go.ChangeMaps Go.RowKit Go.Proofs.YtpoecjieagkoaaaW.PrintWords Go.Proofs.YtpoecjieagkoaaaW.PrintLast Go.Proofs.YtpoecjieagkoaaaW.PrintMore
open Go.Proofs.Ytpoecjieagkoaaa.Sep (Thing)
set_option linter.unusedVariables false
set_option linter.unusedSimpArgs false
def arenaT (p : Nat) (s : St) : Thing where
  holds w F := ∃ L : List Nat, (∀ k, F k ↔ k ∈ L) ∧ ∃ m g fv, Is w L p s m g fv
  lt := by
    rintro w F ⟨L, hL, m, g, fv, h⟩ k hk
    exact h.lt k ((hL k).mp hk)
  kept := by
    rintro w w' F ⟨L, hL, m, g, fv, h⟩ hk hs
    exact ⟨L, hL, m, g, fv, h.kept (fun k a => hk k ((hL k).mpr a)) hs⟩
section
variable {w0 w w' : World} {p : Nat} {s : St} {ts : List Thing}
theorem moved_of {F F' : List Nat} (h : Moved F F' w w') : Sep.Moved (fun k => k ∈ F) (fun k => k ∈ F') w w' := ⟨h.os, h.tape, h.output, h.size, h.block, h.fresh⟩
theorem take_st (h : Sep.St w0 (arenaT p s :: ts) w) {x v : Int} {s' : St} (hx : pickG s = x) (hv : (if x = 0 then 0 else rd s.gens x + 1) = v) (hs : takeS s = s') (hl : s.freed.length ≤ 1000000) (he : 0 ≤ s.ever ∧ s.ever ≤ 1000000)
    (hfree : x ≠ 0 → has s.live x = false) (hr : x ≠ 0 → 1 ≤ x ∧ x < s.gens.length) (hb : 0 ≤ rd s.gens x ∧ rd s.gens x ≤ 1000000) :
    Calls Try.prog 11 #[.pointer (some ⟨p, 0, none⟩)] w fun e w' => e = .returned (.tuple #[.int .i64 x, .int .i64 v, .bool (decide (x ≠ 0))]) ∧ Sep.St w0 (arenaT p s' :: ts) w' := by
  obtain ⟨F, ⟨L, hL, m, g, fv, hI⟩, hk, -⟩ := h.act1
  subst hx hv hs
  refine (take_calls hI hl he hfree hr hb).mono ?_
  rintro e w' ⟨rfl, ⟨fv', hI'⟩, hM⟩
  obtain rfl : F = fun k => k ∈ L := funext fun k => propext (hL k)
  exact ⟨rfl, hk w' _ _ ⟨L, fun _ => Iff.rfl, m, g, fv', hI'⟩ (moved_of hM)⟩
theorem free_st (h : Sep.St w0 (arenaT p s :: ts) w) (x : Int) {b : Bool} {s' : St} (hb : has s.live x = b) (hs : freeS s x = s') (hl : s.freed.length ≤ 1000000) :
    Calls Try.prog 12 #[.pointer (some ⟨p, 0, none⟩), .int .i64 x] w fun e w' => e = .returned (.bool b) ∧ Sep.St w0 (arenaT p s' :: ts) w' := by
  obtain ⟨F, ⟨L, hL, m, g, fv, hI⟩, hk, -⟩ := h.act1
  subst hb hs
  refine (free_calls hI x hl).mono ?_
  rintro e w' ⟨rfl, F', ⟨fv', hI'⟩, hM⟩
  obtain rfl : F = fun k => k ∈ L := funext fun k => propext (hL k)
  exact ⟨rfl, hk w' _ _ ⟨F', fun _ => Iff.rfl, m, g, fv', hI'⟩ (moved_of hM)⟩
theorem live_st (h : Sep.St w0 (arenaT p s :: ts) w) (x : Int) {b : Bool} (hb : has s.live x = b) : Calls Try.prog 14 #[.pointer (some ⟨p, 0, none⟩), .int .i64 x] w fun e w' => e = .returned (.bool b) ∧ w' = w := by
  obtain ⟨F, ⟨L, hL, m, g, fv, hI⟩, -⟩ := h.act1
  subst hb
  exact Live_calls hI x
theorem count_st (h : Sep.St w0 (arenaT p s :: ts) w) {n : Int} (hn : (s.live.length : Int) = n) : Calls Try.prog 15 #[.pointer (some ⟨p, 0, none⟩)] w fun e w' => e = .returned (.int .i64 n) ∧ w' = w := by
  obtain ⟨F, ⟨L, hL, m, g, fv, hI⟩, -⟩ := h.act1
  subst hn
  exact Count_calls hI
theorem gen_st (h : Sep.St w0 (arenaT p s :: ts) w) (x : Int) {n : Int} (hn : genOf s x = n) : Calls Try.prog 19 #[.pointer (some ⟨p, 0, none⟩), .int .i64 x] w fun e w' => e = .returned (.int .i64 n) ∧ w' = w := by
  obtain ⟨F, ⟨L, hL, m, g, fv, hI⟩, -⟩ := h.act1
  subst hn
  exact Gen_calls hI x
theorem new_st (h : Sep.St w0 ts w) (room : Int) (hr : 1 ≤ room ∧ room ≤ 64) : Calls Try.prog 10 #[.int .i64 room] w fun e w' => ∃ p, e = .returned (.tuple #[.pointer (some ⟨p, 0, none⟩), .int .i64 0]) ∧ Sep.St w0 (arenaT p (newS room) :: ts) w' := by
  refine (new_calls room hr w).mono ?_
  rintro e w' ⟨p, rfl, ⟨F, m, g, fv, hI, hB⟩, hb⟩
  exact ⟨p, rfl, h.made (F' := fun k => k ∈ F) ⟨F, fun _ => Iff.rfl, m, g, fv, hI⟩ hB hb⟩
theorem full_take_st (h : Sep.St w0 (arenaT p s :: ts) w) {n x c : Int} {fr : List Int} (hn : 1 ≤ n ∧ n ≤ 64) (hF : Full n s (fr ++ [x]) c) (hc : c ≤ 1000000) (hl : fr.length ≤ 1000) :
    Calls Try.prog 11 #[.pointer (some ⟨p, 0, none⟩)] w fun e w' => e = .returned (.tuple #[.int .i64 x, .int .i64 (rd s.gens x + 1), .bool true]) ∧ Sep.St w0 (arenaT p (takeS s) :: ts) w' := by
  obtain ⟨h1, h2, h3, h4⟩ := hF.take hn.1
  have hg := hF.gen x
  have hx0 : x ≠ 0 := by omega
  have hcl := take_st h (x := x) (v := rd s.gens x + 1) (s' := takeS s) h1 (if_neg hx0) rfl (by rw [hF.freed]; simp; omega) (by rw [hF.ever]; omega) (fun _ => h2) (fun _ => by rw [hF.gl]; omega) (by omega)
  rw [decide_eq_true hx0] at hcl
  exact hcl
theorem full_none_st (h : Sep.St w0 (arenaT p s :: ts) w) {n c : Int} (hn : 1 ≤ n ∧ n ≤ 64) (hF : Full n s [] c) (hc : c ≤ 1000000) :
    Calls Try.prog 11 #[.pointer (some ⟨p, 0, none⟩)] w fun e w' => e = .returned (.tuple #[.int .i64 0, .int .i64 0, .bool false]) ∧ Sep.St w0 (arenaT p s :: ts) w' := by
  obtain ⟨h1, h2⟩ := hF.pick_none
  have hg := hF.gen 0
  exact take_st h (x := 0) (v := 0) (s' := s) h1 rfl h2 (by rw [hF.freed]; simp) (by rw [hF.ever]; omega) (fun h => absurd rfl h) (fun h => absurd rfl h) (by omega)
theorem tk_take_st {n : Int} {k : Nat} (h : Sep.St w0 (arenaT p (tk n k) :: ts) w) (hn : 1 ≤ n ∧ n ≤ 64) (hk : (k : Int) < n) :
    Calls Try.prog 11 #[.pointer (some ⟨p, 0, none⟩)] w fun e w' => e = .returned (.tuple #[.int .i64 ((k : Int) + 1), .int .i64 1, .bool true]) ∧ Sep.St w0 (arenaT p (tk n (k + 1)) :: ts) w' := by
  have ht := tk_at n hn.1 k (by omega)
  have hp := tk_pick hn.1 (k := k) (by omega)
  rw [if_neg (by omega)] at hp
  have hx0 : (k : Int) + 1 ≠ 0 := by omega
  have hg := ht.gen ((k : Int) + 1) (by omega)
  rw [if_neg (by omega)] at hg
  have hcl := take_st h (x := (k : Int) + 1) (v := 1) (s' := tk n (k + 1)) hp (by rw [if_neg hx0, hg]; rfl) rfl (by rw [ht.freed]; simp) (by rw [ht.ever]; omega) (fun _ => by rw [ht.live]; exact decide_eq_false (by omega)) (fun _ => by rw [ht.gl]; omega) (by omega)
  rw [decide_eq_true hx0] at hcl
  exact hcl
theorem in_st {t : Thing} {A : Option Addr} {c : Nat} {e : Nat} {l : List Int} (h : Sep.St w0 (t :: Sep.rowT (Kd.int .i64) e (.slice A l.length c) l :: ts) w) (x : Int) (hl : l.length ≤ 100000) :
    Calls Try.prog 13 #[.slice A l.length c, .int .i64 x] w fun e w' => e = .returned (.bool (decide (x ∈ l))) ∧ Drawn0 w w' := by
  obtain ⟨-, h1, h2⟩ := h.swap.reads
  exact in_calls l x hl w h2 h1
end
end Go.Proofs.Ytpoecjieagkoaaa.Arena
