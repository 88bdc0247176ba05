/- Arena: the document's example. No condition. -/
import Derived.Test.YtpoecjieagkoaaaAu
namespace Go.Proofs.Ytpoecjieagkoaaa.Arena
open Go Go.ChangeMaps Go.RowKit Go.Proofs.YtpoecjieagkoaaaW.PrintWords Go.Proofs.YtpoecjieagkoaaaW.PrintLast Go.Proofs.YtpoecjieagkoaaaW.PrintMore
set_option linter.unusedVariables false
set_option linter.unusedSimpArgs false
section
variable {w w' w1 : World} {F F' : List Nat} {p m g : Nat} {fv : Value} {s : St}
/-- The answers of a method told as numbers; the arena beside what lies below B. -/
def At (B : Nat) (w : World) (p : Nat) (s : St) : Prop := ∃ F m g fv, Is w F p s m g fv ∧ ∀ k ∈ F, B ≤ k
theorem Is.size (h : Is w F p s m g fv) {B : Nat} (hB : ∀ k ∈ F, B ≤ k) : B ≤ w.heap.size := Nat.le_trans (hB p h.pF) (Nat.le_of_lt (h.lt p h.pF))
theorem At.drawn {B : Nat} (h : At B w p s) (hd : Drawn0 w w') : At B w' p s := by
  obtain ⟨F, m, g, fv, h, hB⟩ := h
  obtain ⟨n, rfl⟩ := hd
  exact ⟨F, m, g, fv, h.drewN n, hB⟩
theorem take_at {B : Nat} (h : At B w p s) {x v : Int} {s' : St} (hx : pickG s = x) (hv : (if x = 0 then 0 else rd s.gens x + 1) = v) (hs : takeS s = s') (hl : s.freed.length ≤ 1000000) (he : 0 ≤ s.ever ∧ s.ever ≤ 1000000)
    (hfree : x ≠ 0 → has s.live x = false) (hr : x ≠ 0 → 1 ≤ x ∧ x < s.gens.length) (hb : 0 ≤ rd s.gens x ∧ rd s.gens x ≤ 1000000) :
    Calls Try.prog 11 #[.pointer (some ⟨p, 0, none⟩)] w fun e w' => e = .returned (.tuple #[.int .i64 x, .int .i64 v, .bool (decide (x ≠ 0))]) ∧ At B w' p s' ∧ Below B w w' := by
  obtain ⟨F, m, g, fv, h, hB⟩ := h
  subst hx hv hs
  refine (take_calls h hl he hfree hr hb).mono ?_
  rintro e w' ⟨rfl, ⟨fv', hI⟩, hM⟩
  exact ⟨rfl, ⟨F, m, g, fv', hI, hB⟩, hM.below hB (h.size hB)⟩
theorem free_at {B : Nat} (h : At B w p s) (x : Int) {b : Bool} {s' : St} (hb : has s.live x = b) (hs : freeS s x = s') (hl : s.freed.length ≤ 1000000) :
    Calls Try.prog 12 #[.pointer (some ⟨p, 0, none⟩), .int .i64 x] w fun e w' => e = .returned (.bool b) ∧ At B w' p s' ∧ Below B w w' := by
  obtain ⟨F, m, g, fv, h, hB⟩ := h
  subst hb hs
  refine (free_calls h x hl).mono ?_
  rintro e w' ⟨rfl, F', ⟨fv', hI⟩, hM⟩
  refine ⟨rfl, ⟨F', m, g, fv', hI, fun k hk => ?_⟩, hM.below hB (h.size hB)⟩
  rcases hM.fresh k hk with h1 | h1
  · exact hB k h1
  · exact Nat.le_trans (h.size hB) h1
theorem live_at {B : Nat} (h : At B w p s) (x : Int) {b : Bool} (hb : has s.live x = b) : Calls Try.prog 14 #[.pointer (some ⟨p, 0, none⟩), .int .i64 x] w fun e w' => e = .returned (.bool b) ∧ w' = w := by
  obtain ⟨F, m, g, fv, h, hB⟩ := h
  subst hb
  exact Live_calls h x
theorem count_at {B : Nat} (h : At B w p s) {n : Int} (hn : (s.live.length : Int) = n) : Calls Try.prog 15 #[.pointer (some ⟨p, 0, none⟩)] w fun e w' => e = .returned (.int .i64 n) ∧ w' = w := by
  obtain ⟨F, m, g, fv, h, hB⟩ := h
  subst hn
  exact Count_calls h
theorem gen_at {B : Nat} (h : At B w p s) (x : Int) {n : Int} (hn : genOf s x = n) : Calls Try.prog 19 #[.pointer (some ⟨p, 0, none⟩), .int .i64 x] w fun e w' => e = .returned (.int .i64 n) ∧ w' = w := by
  obtain ⟨F, m, g, fv, h, hB⟩ := h
  subst hn
  exact Gen_calls h x
theorem new_at (room : Int) (hr : 1 ≤ room ∧ room ≤ 64) (w : World) : Calls Try.prog 10 #[.int .i64 room] w fun e w' => ∃ p, e = .returned (.tuple #[.pointer (some ⟨p, 0, none⟩), .int .i64 0]) ∧ At w.heap.size w' p (newS room) ∧ Below w.heap.size w w' := by
  refine (new_calls room hr w).mono ?_
  rintro e w' ⟨p, rfl, ⟨F, m, g, fv, h, hB⟩, hb⟩
  exact ⟨p, rfl, ⟨F, m, g, fv, h, hB⟩, hb⟩
end
def s0 : St := newS 3
def s1 : St := takeS s0
def s2 : St := takeS s1
def s3 : St := freeS s2 1
def s4 : St := takeS s3
theorem shown_calls (w : World) : Calls Try.prog 9 #[] w fun e w' => e = .returned (.bool true) ∧ Below w.heap.size w w' := by
  go_enter Try.func9, Try.ntmps9
  go_wp2_with (first | (go_at_call 10; refine (new_at 3 (by decide) _).mono ?_; rintro e w1 ⟨p, rfl, hA, hb⟩; have HA0 := Aside0.mk hA; have HB := Aside0.mk hb; clear hA hb) | (go_at_call 11; refine (take_at (s := newS 3) (x := 1) (v := 1) (s' := s1) HA0.out (by decide +kernel) (by decide +kernel) rfl (by decide +kernel) (by decide +kernel) (by decide +kernel) (by decide +kernel) (by decide +kernel)).mono ?_; rintro e w2 ⟨rfl, hA, hb⟩; have HA1 := Aside0.mk hA; have HB2 := Aside0.mk (HB.out.trans hb); clear hA hb HB HA0) | (go_at_call 11; refine (take_at (s := s1) (x := 2) (v := 1) (s' := s2) HA1.out (by decide +kernel) (by decide +kernel) rfl (by decide +kernel) (by decide +kernel) (by decide +kernel) (by decide +kernel) (by decide +kernel)).mono ?_; rintro e w3 ⟨rfl, hA, hb⟩; have HA2 := Aside0.mk hA; have HB3 := Aside0.mk (HB2.out.trans hb); clear hA hb HB2 HA1) | (go_at_call 12; refine (free_at (s := s2) (s' := s3) HA2.out 1 (b := true) (by decide +kernel) rfl (by decide +kernel)).mono ?_; rintro e w4 ⟨rfl, hA, hb⟩; have HA3 := Aside0.mk hA; have HB4 := Aside0.mk (HB3.out.trans hb); clear hA hb HB3 HA2) | (go_at_call 11; refine (take_at (s := s3) (x := 1) (v := 2) (s' := s4) HA3.out (by decide +kernel) (by decide +kernel) rfl (by decide +kernel) (by decide +kernel) (by decide +kernel) (by decide +kernel) (by decide +kernel)).mono ?_; rintro e w5 ⟨rfl, hA, hb⟩; have HA4 := Aside0.mk hA; have HB5 := Aside0.mk (HB4.out.trans hb); clear hA hb HB4 HA3) | (go_at_call 15; refine (count_at (s := s4) HA4.out (n := 2) (by decide +kernel)).mono ?_; rintro e w6 ⟨rfl, rfl⟩))
  go_ret
  exact ⟨rfl, HB5.out⟩
end Go.Proofs.Ytpoecjieagkoaaa.Arena
