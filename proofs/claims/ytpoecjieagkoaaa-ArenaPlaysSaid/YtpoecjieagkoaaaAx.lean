/- Arena: full arenas, of which some were freed. No condition. -/
import Derived.Test.YtpoecjieagkoaaaAw
import Derived.Test.YtpoecjieagkoaaaPTakex1
namespace Go.Proofs.Ytpoecjieagkoaaa.Arena
open Go Go.ChangeMaps Go.RowKit Go.Proofs.YtpoecjieagkoaaaW.PrintWords Go.Proofs.YtpoecjieagkoaaaW.PrintLast Go.Proofs.YtpoecjieagkoaaaW.PrintMore Go.Proofs.Ytpoecjieagkoaaa.PTake
set_option linter.unusedVariables false
set_option linter.unusedSimpArgs false
/-- All n numbers were taken; fr are those freed since; no generation is above c. -/
structure Full (n : Int) (s : St) (fr : List Int) (c : Int) : Prop where
  room : s.room = n
  ever : s.ever = n
  freed : s.freed = fr
  live : ∀ x, has s.live x = decide ((1 ≤ x ∧ x ≤ n) ∧ x ∉ fr)
  keys : (s.live.map (·.1)).Nodup
  many : (s.live.length : Int) + fr.length = n
  gl : s.gens.length = (n + 1).toNat
  gen : ∀ x : Int, 0 ≤ rd s.gens x ∧ rd s.gens x ≤ c
  nodup : fr.Nodup
  mem : ∀ x ∈ fr, 1 ≤ x ∧ x ≤ n
theorem has_iff (l : List (Int × Nat)) (x : Int) : has l x = true ↔ x ∈ l.map (·.1) := by
  simp only [has, List.any_eq_true, List.mem_map]
  exact ⟨fun ⟨p, h1, h2⟩ => ⟨p, h1, by simpa using h2⟩, fun ⟨p, h1, h2⟩ => ⟨p, h1, by simpa using h2⟩⟩
theorem tk_keys (n : Int) (hn : 1 ≤ n) : ∀ k : Nat, (k : Int) ≤ n → ((tk n k).live.map (·.1)).Nodup
  | 0, _ => List.nodup_nil
  | k + 1, hk => by
    have ih := tk_at n hn k (by omega)
    have hp := tk_pick hn (k := k) (by omega)
    rw [if_neg (by omega)] at hp
    have hl : (tk n (k + 1)).live = (tk n k).live ++ [((k : Int) + 1, (tk n k).clock)] := by
      show (takeS (tk n k)).live = _
      unfold takeS
      rw [hp, if_neg (by omega)]
    rw [hl, List.map_append, List.nodup_append]
    refine ⟨tk_keys n hn k (by omega), by simp, ?_⟩
    intro x hx y hy
    have h1 := (has_iff _ x).mpr hx
    rw [ih.live] at h1
    have h2 := of_decide_eq_true h1
    simp at hy
    omega
theorem full_tk {n : Int} (hn : 1 ≤ n) {k : Nat} (hk : (k : Int) = n) : Full n (tk n k) [] 1 := by
  have h := tk_at n hn k (by omega)
  refine ⟨h.room, by rw [h.ever]; exact hk, h.freed, fun x => ?_, tk_keys n hn k (by omega), by rw [h.len]; simp; exact hk, h.gl, fun x => ?_, List.nodup_nil, fun x hx => by cases hx⟩
  · rw [h.live]
    exact decide_eq_decide.mpr ⟨fun h => ⟨by omega, by simp⟩, fun h => by omega⟩
  · by_cases hx : 0 ≤ x
    · rw [h.gen x hx]; split <;> omega
    · have e : rd (tk n k).gens x = rd (tk n k).gens 0 := by
        show (tk n k).gens.getD x.toNat 0 = (tk n k).gens.getD (0 : Int).toNat 0
        rw [show x.toNat = 0 by omega]; rfl
      rw [e, h.gen 0 (by omega), if_neg (by omega)]
      omega
theorem del_map (l : List (Int × Nat)) (x : Int) : (del l x).map (·.1) = (l.map (·.1)).erase x := by
  unfold del
  induction l with
  | nil => rfl
  | cons a l ih =>
    by_cases h : a.1 = x
    · simp [List.findIdx_cons, h]
    · have h1 : (a.1 == x) = false := beq_eq_false_iff_ne.mpr h
      simp only [List.findIdx_cons, h1, cond_false, List.eraseIdx_cons_succ, List.map_cons]
      rw [ih, List.erase_cons_tail (by simpa using h)]
theorem Full.free {n : Int} {s : St} {fr : List Int} {c : Int} (h : Full n s fr c) {x : Int} (hx : 1 ≤ x ∧ x ≤ n) (hn : x ∉ fr) : has s.live x = true ∧ Full n (freeS s x) (fr ++ [x]) c := by
  have hl : has s.live x = true := by rw [h.live]; exact decide_eq_true ⟨hx, hn⟩
  have hf : freeS s x = { s with live := del s.live x, freed := s.freed ++ [x] } := by unfold freeS; rw [if_pos hl]
  refine ⟨hl, ?_⟩
  rw [hf]
  have hmem := (has_iff _ _).mp hl
  refine ⟨h.room, h.ever, by show s.freed ++ [x] = _; rw [h.freed], fun y => ?_, ?_, ?_, h.gl, h.gen, ?_, ?_⟩
  · have e1 : has (del s.live x) y = decide (y ∈ (s.live.map (·.1)).erase x) := by
      rw [← del_map]
      cases hb : has (del s.live x) y with
      | true => exact (decide_eq_true ((has_iff _ _).mp hb)).symm
      | false => exact (decide_eq_false (fun h2 => by rw [(has_iff _ _).mpr h2] at hb; cases hb)).symm
    show has (del s.live x) y = _
    rw [e1]
    refine decide_eq_decide.mpr ?_
    rw [h.keys.mem_erase_iff, ← has_iff, h.live]
    simp only [decide_eq_true_eq, List.mem_append, List.mem_singleton]
    constructor
    · rintro ⟨h1, h2, h3⟩; exact ⟨h2, fun h4 => h4.elim h3 h1⟩
    · rintro ⟨h1, h2⟩; exact ⟨fun h3 => h2 (.inr h3), h1, fun h3 => h2 (.inl h3)⟩
  · show ((del s.live x).map (·.1)).Nodup
    rw [del_map]; exact h.keys.erase x
  · show ((del s.live x).length : Int) + ((fr ++ [x]).length : Nat) = n
    have h1 : (del s.live x).length = (s.live.map (·.1)).length - 1 := by
      have e2 := congrArg List.length (del_map s.live x)
      rw [List.length_map, List.length_erase_of_mem hmem] at e2
      exact e2
    have h2 : 0 < (s.live.map (·.1)).length := List.length_pos_of_mem hmem
    have h3 := h.many
    rw [List.length_map] at h1 h2
    simp
    omega
  · refine List.nodup_append.mpr ⟨h.nodup, by simp, ?_⟩
    rintro y hy z hz rfl
    simp at hz
    subst hz
    exact hn hy
  · intro y hy
    rcases List.mem_append.mp hy with hy | hy
    · exact h.mem y hy
    · simp at hy; subst hy; exact hx
theorem Full.free_not {n : Int} {s : St} {fr : List Int} {c : Int} (h : Full n s fr c) {x : Int} (hn : x ∈ fr) : has s.live x = false ∧ freeS s x = s := by
  have hl : has s.live x = false := by rw [h.live]; exact decide_eq_false (fun h2 => h2.2 hn)
  exact ⟨hl, by unfold freeS; rw [if_neg (by rw [hl]; decide)]⟩
theorem Full.pick_none {n : Int} {s : St} {c : Int} (h : Full n s [] c) : pickG s = 0 ∧ takeS s = s := by
  have hp : pickG s = 0 := by unfold pickG; rw [if_pos h.freed, if_pos (by rw [h.ever, h.room])]
  refine ⟨hp, ?_⟩
  unfold takeS pickS
  rw [hp, if_pos rfl, if_pos h.freed, if_pos (by rw [h.ever, h.room])]
theorem Full.take {n : Int} {s : St} {fr : List Int} {x c : Int} (hn : 1 ≤ n) (h : Full n s (fr ++ [x]) c) : pickG s = x ∧ has s.live x = false ∧ (1 ≤ x ∧ x ≤ n) ∧ Full n (takeS s) fr (c + 1) := by
  have hne : s.freed ≠ [] := by rw [h.freed]; simp
  have hx := h.mem x (by simp)
  have hp : pickG s = x := by
    unfold pickG
    rw [if_neg hne, h.freed]
    show (fr ++ [x]).getD _ 0 = x
    have : (((fr ++ [x]).length : Int) - 1).toNat = fr.length := by simp
    rw [this]
    simp [List.getD]
  have hl : has s.live x = false := by rw [h.live]; exact decide_eq_false (fun h2 => h2.2 (by simp))
  have hS : pickS s = { s with freed := fr } := by
    unfold pickS
    rw [if_neg hne, h.freed]
    simp
  have hT : takeS s = { s with freed := fr, live := s.live ++ [(x, s.clock)], clock := s.clock + 1, gens := s.gens.set x.toNat (rd s.gens x + 1) } := by
    unfold takeS
    rw [hp, if_neg (by omega), hS]
  have hnd := List.nodup_append.mp h.nodup
  refine ⟨hp, hl, hx, ?_⟩
  rw [hT]
  refine ⟨h.room, h.ever, rfl, fun y => ?_, ?_, ?_, by simpa using h.gl, fun y => ?_, hnd.1, fun y hy => h.mem y (List.mem_append_left _ hy)⟩
  · show has (s.live ++ [(x, s.clock)]) y = _
    have h1 : has (s.live ++ [(x, s.clock)]) y = (has s.live y || (x == y)) := by simp [has]
    rw [h1, h.live]
    by_cases hy : x = y
    · subst hy
      rw [beq_self_eq_true, Bool.or_true]
      exact (decide_eq_true ⟨hx, fun h2 => hnd.2.2 x h2 x (by simp) rfl⟩).symm
    · rw [beq_eq_false_iff_ne.mpr hy, Bool.or_false]
      refine decide_eq_decide.mpr ⟨fun h2 => ⟨h2.1, fun h3 => h2.2 (List.mem_append_left _ h3)⟩, fun h2 => ⟨h2.1, fun h3 => ?_⟩⟩
      rcases List.mem_append.mp h3 with h3 | h3
      · exact h2.2 h3
      · simp at h3; exact hy h3.symm
  · show ((s.live ++ [(x, s.clock)]).map (·.1)).Nodup
    rw [List.map_append, List.nodup_append]
    refine ⟨h.keys, by simp, ?_⟩
    rintro y hy z hz rfl
    simp at hz
    subst hz
    rw [(has_iff _ _).mpr hy] at hl
    cases hl
  · show ((s.live ++ [(x, s.clock)]).length : Int) + fr.length = n
    have := h.many
    simp at this ⊢
    omega
  · show 0 ≤ (s.gens.set x.toNat (rd s.gens x + 1)).getD y.toNat 0 ∧ _
    have h1 := h.gen x
    have h2 := h.gen y
    have e : rd s.gens y = s.gens[y.toNat]?.getD 0 := by show s.gens.getD y.toNat 0 = _; rw [List.getD_eq_getElem?_getD]
    show 0 ≤ (s.gens.set x.toNat (rd s.gens x + 1)).getD y.toNat 0 ∧ (s.gens.set x.toNat (rd s.gens x + 1)).getD y.toNat 0 ≤ c + 1
    rw [List.getD_eq_getElem?_getD, List.getElem?_set]
    split
    · split
      · simp; omega
      · simp; omega
    · rw [← e]; omega
theorem in_l0 (l : List Int) (x : Int) (hl : l.length ≤ 100000) : ∀ (m i k : Nat), i + m = l.length → m + 1 ≤ k → catafalqueref01_In.l0 k l x (i : Int) = some (decide (x ∈ l.drop i))
  | 0, i, k, hi, hk => by
    obtain ⟨k, rfl⟩ : ∃ j, k = j + 1 := ⟨k - 1, by omega⟩
    simp only [catafalqueref01_In.l0]
    rw [if_neg (by omega), List.drop_of_length_le (by omega)]
    rfl
  | m + 1, i, k, hi, hk => by
    obtain ⟨k, rfl⟩ : ∃ j, k = j + 1 := ⟨k - 1, by omega⟩
    have hw : wrap64 ((i : Int) + 1) = ((i + 1 : Nat) : Int) := by unfold wrap64; omega
    have ra : rd l (i : Int) = l[i]'(by omega) := by show l.getD i 0 = _; rw [List.getD_eq_getElem?_getD, List.getElem?_eq_getElem (by omega)]; rfl
    simp only [catafalqueref01_In.l0]
    have da := List.drop_eq_getElem_cons (show i < l.length by omega)
    rw [if_pos (by omega), if_pos (by omega), hw, in_l0 l x hl m (i + 1) k (by omega) (by omega), ra, da]
    by_cases h : l[i]'(by omega) = x
    · rw [if_pos h, decide_eq_true (by rw [h]; exact List.mem_cons_self)]
    · rw [if_neg h]
      exact congrArg some (decide_eq_decide.mpr ⟨fun e => List.mem_cons_of_mem _ e, fun e => by
        rcases List.mem_cons.mp e with e | e
        · exact absurd e.symm h
        · exact e⟩)
theorem in_calls {A : Option Addr} {c : Nat} (l : List Int) (x : Int) (hl : l.length ≤ 100000) (w : World) (hr : Kd.C (Kd.int .i64) w A l.length l) (hc : l.length ≤ c) :
    Calls Try.prog 13 #[.slice A l.length c, .int .i64 x] w fun e w' => e = .returned (.bool (decide (x ∈ l))) ∧ Drawn0 w w' :=
  catafalqueref01_In.calls (l.length + 1) A c l x _ w hr hc (in_l0 l x hl l.length 0 (l.length + 1) (by omega) (by omega))
end Go.Proofs.Ytpoecjieagkoaaa.Arena
