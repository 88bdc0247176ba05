/- Arena: as many are taken as there is room. No condition. -/
import Derived.Test.YtpoecjieagkoaaaAv
namespace Go.Proofs.Ytpoecjieagkoaaa.Arena
open Go Go.ChangeMaps Go.RowKit Go.Proofs.YtpoecjieagkoaaaW.PrintWords Go.Proofs.YtpoecjieagkoaaaW.PrintLast Go.Proofs.YtpoecjieagkoaaaW.PrintMore
set_option linter.unusedVariables false
set_option linter.unusedSimpArgs false
/-- k have been taken out of n. -/
def tk (n : Int) : Nat → St
  | 0 => newS n
  | k + 1 => takeS (tk n k)
structure TkAt (n : Int) (k : Nat) (s : St) : Prop where
  room : s.room = n
  ever : s.ever = k
  freed : s.freed = []
  live : ∀ x, has s.live x = decide (1 ≤ x ∧ x ≤ (k : Int))
  len : s.live.length = k
  gl : s.gens.length = (n + 1).toNat
  gen : ∀ x : Int, 0 ≤ x → rd s.gens x = if 1 ≤ x ∧ x ≤ (k : Int) then 1 else 0
theorem tk_at (n : Int) (hn : 1 ≤ n) : ∀ k : Nat, (k : Int) ≤ n → TkAt n k (tk n k)
  | 0, _ => by
    refine ⟨rfl, rfl, rfl, fun x => ?_, rfl, by simp [tk, newS], fun x hx => ?_⟩
    · show false = _
      rw [decide_eq_false (by omega)]
    · rw [if_neg (by omega)]
      show ((List.replicate (n + 1).toNat (0 : Int)).getD x.toNat 0) = 0
      rw [List.getD_eq_getElem?_getD, List.getElem?_replicate]
      split <;> rfl
  | k + 1, hk => by
    have ih := tk_at n hn k (by omega)
    have hp : pickG (tk n k) = (k : Int) + 1 := by
      unfold pickG
      rw [if_pos ih.freed, if_neg (by rw [ih.ever, ih.room]; omega), ih.ever]
    have hS : pickS (tk n k) = { tk n k with ever := (k : Int) + 1 } := by
      unfold pickS
      rw [if_pos ih.freed, if_neg (by rw [ih.ever, ih.room]; omega), ih.ever]
    have ht : tk n (k + 1) = { tk n k with ever := (k : Int) + 1, live := (tk n k).live ++ [((k : Int) + 1, (tk n k).clock)], clock := (tk n k).clock + 1, gens := (tk n k).gens.set ((k : Int) + 1).toNat (rd (tk n k).gens ((k : Int) + 1) + 1) } := by
      show takeS (tk n k) = _
      unfold takeS
      rw [hp, if_neg (by omega), hS]
    rw [ht]
    refine ⟨ih.room, by simp, ih.freed, fun x => ?_, by simp [ih.len], by simp [ih.gl], fun x hx => ?_⟩
    · have h1 : has ((tk n k).live ++ [((k : Int) + 1, (tk n k).clock)]) x = (has (tk n k).live x || ((k : Int) + 1 == x)) := by simp [has]
      rw [h1, ih.live]
      by_cases hx : (k : Int) + 1 = x
      · rw [beq_iff_eq.mpr hx, Bool.or_true, decide_eq_true (by omega)]
      · rw [beq_eq_false_iff_ne.mpr hx, Bool.or_false]
        exact decide_eq_decide.mpr (by omega)
    · show ((tk n k).gens.set ((k : Int) + 1).toNat (rd (tk n k).gens ((k : Int) + 1) + 1)).getD x.toNat 0 = _
      have hg := ih.gen ((k : Int) + 1) (by omega)
      rw [if_neg (by omega)] at hg
      rw [hg, List.getD_eq_getElem?_getD, List.getElem?_set]
      have hgl := ih.gl
      by_cases hx2 : ((k : Int) + 1).toNat = x.toNat
      · rw [if_pos hx2, if_pos (by omega), if_pos (by omega)]; rfl
      · rw [if_neg hx2]
        have := ih.gen x hx
        have e : rd (tk n k).gens x = (tk n k).gens[x.toNat]?.getD 0 := by show (tk n k).gens.getD x.toNat 0 = _; rw [List.getD_eq_getElem?_getD]
        rw [← e, this]
        by_cases h3 : 1 ≤ x ∧ x ≤ (k : Int)
        · rw [if_pos h3, if_pos (by omega)]
        · rw [if_neg h3, if_neg (by omega)]
theorem tk_pick {n : Int} (hn : 1 ≤ n) {k : Nat} (hk : (k : Int) ≤ n) : pickG (tk n k) = if (k : Int) = n then 0 else (k : Int) + 1 := by
  have ih := tk_at n hn k hk
  unfold pickG
  rw [if_pos ih.freed, ih.ever, ih.room]
/-- The next one is taken. -/
theorem tk_take {B : Nat} {w : World} {p : Nat} {n : Int} (hn : 1 ≤ n ∧ n ≤ 64) {k : Nat} (hk : (k : Int) < n) (h : At B w p (tk n k)) :
    Calls Try.prog 11 #[.pointer (some ⟨p, 0, none⟩)] w fun e w' => e = .returned (.tuple #[.int .i64 ((k + 1 : Nat) : Int), .int .i64 1, .bool true]) ∧ At B w' p (tk n (k + 1)) ∧ Below B w w' := by
  have ih := tk_at n hn.1 k (by omega)
  have hp := tk_pick hn.1 (k := k) (by omega)
  rw [if_neg (by omega)] at hp
  have hg := ih.gen ((k : Int) + 1) (by omega)
  rw [if_neg (by omega)] at hg
  have hc := take_at h (x := (k : Int) + 1) (v := 1) (s' := tk n (k + 1)) hp (by rw [if_neg (by omega), hg]; rfl) rfl (by rw [ih.freed]; simp) (by rw [ih.ever]; omega) (fun _ => by rw [ih.live]; exact decide_eq_false (by omega)) (fun _ => by rw [ih.gl]; omega) (by rw [hg]; omega)
  rw [decide_eq_true (show (k : Int) + 1 ≠ 0 by omega)] at hc
  exact hc
/-- Nobody is left. -/
theorem tk_full {B : Nat} {w : World} {p : Nat} {n : Int} (hn : 1 ≤ n ∧ n ≤ 64) {k : Nat} (hk : (k : Int) = n) (h : At B w p (tk n k)) :
    Calls Try.prog 11 #[.pointer (some ⟨p, 0, none⟩)] w fun e w' => e = .returned (.tuple #[.int .i64 0, .int .i64 0, .bool false]) ∧ At B w' p (tk n k) ∧ Below B w w' := by
  have ih := tk_at n hn.1 k (by omega)
  have hp := tk_pick hn.1 (k := k) (by omega)
  rw [if_pos hk] at hp
  have hs : takeS (tk n k) = tk n k := by
    unfold takeS pickS
    rw [hp, if_pos rfl, if_pos ih.freed, if_pos (by rw [ih.ever, ih.room]; exact hk)]
  have hg := ih.gen 0 (by omega)
  rw [if_neg (by omega)] at hg
  exact take_at h (x := 0) (v := 0) (s' := tk n k) hp rfl hs (by rw [ih.freed]; simp) (by rw [ih.ever]; omega) (fun h => absurd rfl h) (fun h => absurd rfl h) (by rw [hg]; omega)
end Go.Proofs.Ytpoecjieagkoaaa.Arena
