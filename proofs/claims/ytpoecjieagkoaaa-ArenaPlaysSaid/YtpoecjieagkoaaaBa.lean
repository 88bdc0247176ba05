/- Arena: what is true of every arena, and stays so. No condition. -/
import Derived.Test.YtpoecjieagkoaaaAz
namespace Go.Proofs.Ytpoecjieagkoaaa.Arena
open Go Go.ChangeMaps Go.RowKit Go.Proofs.YtpoecjieagkoaaaW.PrintWords Go.Proofs.YtpoecjieagkoaaaW.PrintLast Go.Proofs.YtpoecjieagkoaaaW.PrintMore
open Go.Proofs.Ytpoecjieagkoaaa.Sep (Thing)
set_option linter.unusedVariables false
set_option linter.unusedSimpArgs false
structure Ok (n : Int) (s : St) (c : Int) : Prop where
  room : s.room = n
  ever : 0 ≤ s.ever ∧ s.ever ≤ n
  mem : ∀ x, (has s.live x = true ∨ x ∈ s.freed) ↔ (1 ≤ x ∧ x ≤ s.ever)
  disj : ∀ x ∈ s.freed, has s.live x = false
  keys : (s.live.map (·.1)).Nodup
  fnd : s.freed.Nodup
  many : (s.live.length : Int) + s.freed.length = s.ever
  gl : s.gens.length = (n + 1).toNat
  gen : ∀ x, 0 ≤ rd s.gens x ∧ rd s.gens x ≤ c
  pos : ∀ x, 1 ≤ x → x ≤ s.ever → 1 ≤ rd s.gens x
theorem Ok.new {n : Int} (hn : 1 ≤ n) : Ok n (newS n) 0 := by
  have hz : ∀ x : Int, rd (newS n).gens x = 0 := fun x => by
    show (List.replicate (n + 1).toNat (0 : Int)).getD x.toNat 0 = 0
    rw [List.getD_eq_getElem?_getD, List.getElem?_replicate]
    split <;> rfl
  refine ⟨rfl, ⟨by show (0 : Int) ≤ 0; omega, by show (0 : Int) ≤ n; omega⟩, (fun x => ?_), (fun x hx => by cases hx), List.nodup_nil, List.nodup_nil, rfl, (by simp [newS]), (fun x => by rw [hz]; omega), (fun x h1 h2 => ?_)⟩
  · constructor
    · rintro (h | h)
      · cases h
      · cases h
    · rintro ⟨h1, h2⟩
      have : x ≤ 0 := h2
      omega
  · have : x ≤ 0 := h2
    omega
theorem has_del {l : List (Int × Nat)} (hk : (l.map (·.1)).Nodup) (x y : Int) : has (del l x) y = (has l y && decide (y ≠ x)) := by
  have h1 : has (del l x) y = true ↔ has l y = true ∧ y ≠ x := by
    rw [has_iff, has_iff, del_map, hk.mem_erase_iff]
    exact And.comm
  cases hb : has (del l x) y with
  | true => have := h1.mp hb; rw [this.1, decide_eq_true this.2]; rfl
  | false =>
    cases hc : has l y with
    | false => rfl
    | true =>
      by_cases hxy : y = x
      · subst hxy; simp
      · rw [h1.mpr ⟨hc, hxy⟩] at hb; cases hb
theorem Ok.free {n : Int} {s : St} {c : Int} (h : Ok n s c) (x : Int) : Ok n (freeS s x) c ∧ ((freeS s x).live.length : Int) = s.live.length - (if has s.live x then 1 else 0) ∧ (freeS s x).gens = s.gens := by
  unfold freeS
  cases hx : has s.live x with
  | false => exact ⟨h, by simp, rfl⟩
  | true =>
    rw [if_pos rfl, if_pos rfl]
    have hmem := (has_iff _ _).mp hx
    have hlen : ((del s.live x).length : Int) = s.live.length - 1 := by
      have e2 := congrArg List.length (del_map s.live x)
      rw [List.length_map, List.length_erase_of_mem hmem, List.length_map] at e2
      have h2 : 0 < (s.live.map (·.1)).length := List.length_pos_of_mem hmem
      rw [List.length_map] at h2
      omega
    have hxr := (h.mem x).mp (.inl hx)
    refine ⟨⟨h.room, h.ever, fun y => ?_, fun y hy => ?_, ?_, ?_, ?_, h.gl, h.gen, h.pos⟩, hlen, rfl⟩
    · show has (del s.live x) y = true ∨ y ∈ s.freed ++ [x] ↔ _
      rw [has_del h.keys, ← h.mem y, Bool.and_eq_true, decide_eq_true_eq, List.mem_append, List.mem_singleton]
      constructor
      · rintro (h1 | h1 | h1)
        · exact .inl h1.1
        · exact .inr h1
        · subst h1; exact .inl hx
      · rintro (h1 | h1)
        · by_cases hxy : y = x
          · exact .inr (.inr hxy)
          · exact .inl ⟨h1, hxy⟩
        · exact .inr (.inl h1)
    · show has (del s.live x) y = false
      rw [has_del h.keys]
      rcases List.mem_append.mp hy with hy | hy
      · rw [h.disj y hy]; rfl
      · rw [List.mem_singleton.mp hy, decide_eq_false (by simp), Bool.and_false]
    · show ((del s.live x).map (·.1)).Nodup
      rw [del_map]; exact h.keys.erase x
    · refine List.nodup_append.mpr ⟨h.fnd, by simp, ?_⟩
      rintro y hy z hz rfl
      rw [List.mem_singleton.mp hz] at hy
      rw [h.disj x hy] at hx; cases hx
    · show ((del s.live x).length : Int) + ((s.freed ++ [x]).length : Nat) = s.ever
      have := h.many
      rw [hlen, List.length_append]
      simp
      omega
/-- Nobody can be taken. -/
theorem Ok.full {n : Int} {s : St} {c : Int} (h : Ok n s c) (hp : pickG s = 0) : (s.live.length : Int) = n ∧ takeS s = s ∧ s.freed = [] ∧ s.ever = n := by
  unfold pickG at hp
  by_cases hf : s.freed = []
  · rw [if_pos hf] at hp
    by_cases he : s.ever = s.room
    · have := h.many
      have := h.room
      have h0 : s.freed.length = 0 := by rw [hf]; rfl
      refine ⟨by omega, ?_, hf, by omega⟩
      unfold takeS pickS
      rw [show pickG s = 0 by unfold pickG; rw [if_pos hf, if_pos he], if_pos rfl, if_pos hf, if_pos he]
    · rw [if_neg he] at hp
      have := h.ever
      omega
  · rw [if_neg hf] at hp
    have hpos : 0 < s.freed.length := List.length_pos_iff.mpr hf
    have hm : rd s.freed ((s.freed.length : Int) - 1) ∈ s.freed := by
      show s.freed.getD _ 0 ∈ _
      have e : ((s.freed.length : Int) - 1).toNat = s.freed.length - 1 := by omega
      rw [e, List.getD_eq_getElem?_getD, List.getElem?_eq_getElem (by omega)]
      exact List.getElem_mem _
    have := (h.mem _).mp (.inr hm)
    omega
theorem Ok.take {n : Int} {s : St} {c : Int} (h : Ok n s c) (hp : pickG s ≠ 0) : has s.live (pickG s) = false ∧ (1 ≤ pickG s ∧ pickG s ≤ n) ∧ (s.live.length : Int) < n ∧ Ok n (takeS s) (c + 1) ∧ (takeS s).live = s.live ++ [(pickG s, s.clock)] ∧ (takeS s).gens = s.gens.set (pickG s).toNat (rd s.gens (pickG s) + 1) ∧ (takeS s).clock = s.clock + 1 := by
  obtain ⟨q1, q2, q3⟩ := pickS_live s
  have hT : takeS s = { pickS s with live := s.live ++ [(pickG s, s.clock)], clock := s.clock + 1, gens := s.gens.set (pickG s).toNat (rd s.gens (pickG s) + 1) } := by unfold takeS; rw [if_neg hp]
  have key : has s.live (pickG s) = false ∧ (1 ≤ pickG s ∧ pickG s ≤ (pickS s).ever) ∧ (pickS s).room = n ∧ (0 ≤ (pickS s).ever ∧ s.ever ≤ (pickS s).ever ∧ (pickS s).ever ≤ n) ∧ (∀ y, (has s.live y = true ∨ y = pickG s ∨ y ∈ (pickS s).freed) ↔ (1 ≤ y ∧ y ≤ (pickS s).ever)) ∧ (∀ y ∈ (pickS s).freed, has s.live y = false ∧ y ≠ pickG s) ∧ (pickS s).freed.Nodup ∧ (s.live.length : Int) + 1 + (pickS s).freed.length = (pickS s).ever ∧ (∀ y, 1 ≤ y → y ≤ (pickS s).ever → y ≠ pickG s → y ≤ s.ever) := by
    by_cases hf : s.freed = []
    · by_cases he : s.ever = s.room
      · exact absurd (show pickG s = 0 by unfold pickG; rw [if_pos hf, if_pos he]) hp
      · have e1 : pickG s = s.ever + 1 := by unfold pickG; rw [if_pos hf, if_neg he]
        have e2 : pickS s = { s with ever := s.ever + 1 } := by unfold pickS; rw [if_pos hf, if_neg he]
        have hr := h.room
        have hev := h.ever
        have hm := h.many
        have h0 : s.freed.length = 0 := by rw [hf]; rfl
        rw [e1, e2]
        refine ⟨?_, ⟨by omega, by show s.ever + 1 ≤ s.ever + 1; omega⟩, hr, ⟨by show 0 ≤ s.ever + 1; omega, by show s.ever ≤ s.ever + 1; omega, by show s.ever + 1 ≤ n; omega⟩, fun y => ?_, fun y hy => ?_, h.fnd, ?_, fun y h1 h2 h3 => ?_⟩
        · cases hb : has s.live (s.ever + 1) with
          | false => rfl
          | true => have := (h.mem _).mp (.inl hb); omega
        · have := h.mem y
          show _ ∨ y = s.ever + 1 ∨ y ∈ s.freed ↔ (1 ≤ y ∧ y ≤ s.ever + 1)
          rw [← or_assoc, or_right_comm, this]
          omega
        · rw [show ({ s with ever := s.ever + 1 } : St).freed = s.freed from rfl, hf] at hy; cases hy
        · show (s.live.length : Int) + 1 + s.freed.length = s.ever + 1; omega
        · have h2' : y ≤ s.ever + 1 := h2
          omega
    · have hpos : 0 < s.freed.length := List.length_pos_iff.mpr hf
      have e : ((s.freed.length : Int) - 1).toNat = s.freed.length - 1 := by omega
      have e1 : pickG s = s.freed[s.freed.length - 1]'(by omega) := by
        unfold pickG
        rw [if_neg hf]
        show s.freed.getD _ 0 = _
        rw [e, List.getD_eq_getElem?_getD, List.getElem?_eq_getElem (by omega)]; rfl
      have e2 : pickS s = { s with freed := s.freed.take (s.freed.length - 1) } := by unfold pickS; rw [if_neg hf]
      have e3 : s.freed = s.freed.take (s.freed.length - 1) ++ [pickG s] := by
        have := List.take_succ_eq_append_getElem (show s.freed.length - 1 < s.freed.length by omega)
        rw [show s.freed.length - 1 + 1 = s.freed.length by omega, List.take_length] at this
        rw [e1]; exact this
      have hg : pickG s ∈ s.freed := by rw [e3]; simp
      have hgr := (h.mem _).mp (.inr hg)
      have hnd := List.nodup_append.mp (show (s.freed.take (s.freed.length - 1) ++ [pickG s]).Nodup by rw [← e3]; exact h.fnd)
      have hev := h.ever
      have hl3 := congrArg List.length e3
      rw [List.length_append] at hl3
      rw [e2]
      refine ⟨h.disj _ hg, ⟨hgr.1, hgr.2⟩, h.room, ⟨hev.1, by show s.ever ≤ s.ever; omega, hev.2⟩, fun y => ?_, fun y hy => ⟨h.disj y (List.mem_of_mem_take hy), fun hy2 => hnd.2.2 y hy (pickG s) (by simp) hy2⟩, hnd.1, ?_, fun y h1 h2 h3 => h2⟩
      · rw [← h.mem y]
        show _ ∨ y = pickG s ∨ y ∈ s.freed.take (s.freed.length - 1) ↔ _ ∨ y ∈ s.freed
        have : y ∈ s.freed ↔ y ∈ s.freed.take (s.freed.length - 1) ∨ y = pickG s := by
          constructor
          · intro hy; rw [e3] at hy; simpa using hy
          · rintro (hy | hy)
            · exact List.mem_of_mem_take hy
            · rw [hy]; exact hg
        rw [this, or_comm (a := y = pickG s)]
      · have := h.many
        show (s.live.length : Int) + 1 + ((s.freed.take (s.freed.length - 1)).length : Nat) = s.ever
        simp at hl3 ⊢
        omega
  obtain ⟨k1, k2, k3, k4, k5, k6, k7, k8, k9⟩ := key
  generalize hpg : pickG s = g at k1 k2 k5 k6 k9 hp ⊢
  rw [hpg] at hT
  have hgl := h.gl
  have hrd : ∀ y : Int, rd (s.gens.set g.toNat (rd s.gens g + 1)) y = if g.toNat = y.toNat then rd s.gens g + 1 else rd s.gens y := fun y => by
    show (s.gens.set g.toNat (rd s.gens g + 1)).getD y.toNat 0 = _
    rw [List.getD_eq_getElem?_getD, List.getElem?_set]
    split
    · rw [if_pos (by omega)]; rfl
    · show _ = s.gens.getD y.toNat 0
      rw [List.getD_eq_getElem?_getD]
  refine ⟨k1, ⟨k2.1, by omega⟩, ?_, ?_, by rw [hT], by rw [hT], by rw [hT]⟩
  · omega
  · rw [hT]
    refine ⟨k3, ⟨k4.1, k4.2.2⟩, fun y => ?_, fun y hy => ?_, ?_, k7, ?_, by simpa using h.gl, fun y => ?_, fun y h1 h2 => ?_⟩
    · show has (s.live ++ [(g, s.clock)]) y = true ∨ y ∈ (pickS s).freed ↔ _
      have h1 : has (s.live ++ [(g, s.clock)]) y = (has s.live y || (g == y)) := by simp [has]
      rw [h1, Bool.or_eq_true, beq_iff_eq, or_assoc, eq_comm (a := g)]
      exact k5 y
    · show has (s.live ++ [(g, s.clock)]) y = false
      have h1 : has (s.live ++ [(g, s.clock)]) y = (has s.live y || (g == y)) := by simp [has]
      obtain ⟨a1, a2⟩ := k6 y hy
      rw [h1, a1, beq_eq_false_iff_ne.mpr (Ne.symm a2)]; rfl
    · show ((s.live ++ [(g, s.clock)]).map (·.1)).Nodup
      rw [List.map_append, List.nodup_append]
      refine ⟨h.keys, by simp, ?_⟩
      rintro y hy z hz rfl
      simp at hz
      subst hz
      rw [(has_iff _ _).mpr hy] at k1
      cases k1
    · show ((s.live ++ [(g, s.clock)]).length : Int) + ((pickS s).freed.length : Nat) = (pickS s).ever
      rw [List.length_append]
      simp
      omega
    · show 0 ≤ rd (s.gens.set g.toNat (rd s.gens g + 1)) y ∧ _
      have h1 := h.gen g
      have h2 := h.gen y
      show 0 ≤ rd (s.gens.set g.toNat (rd s.gens g + 1)) y ∧ rd (s.gens.set g.toNat (rd s.gens g + 1)) y ≤ c + 1
      rw [hrd]
      split <;> omega
    · show 1 ≤ rd (s.gens.set g.toNat (rd s.gens g + 1)) y
      have h3 := h.gen g
      rw [hrd]
      split
      · omega
      · exact h.pos y h1 (k9 y h1 h2 (fun e => by subst e; omega))
section
variable {w0 w w' : World} {p : Nat} {s : St} {ts : List Thing}
theorem ok_take_st (h : Sep.St w0 (arenaT p s :: ts) w) {n c : Int} (hn : 1 ≤ n ∧ n ≤ 64) (hO : Ok n s c) (hc : c ≤ 100000) {g : Int} (hg : pickG s = g) (hg0 : g ≠ 0) :
    Calls Try.prog 11 #[.pointer (some ⟨p, 0, none⟩)] w fun e w' => e = .returned (.tuple #[.int .i64 g, .int .i64 (rd s.gens g + 1), .bool true]) ∧ Sep.St w0 (arenaT p (takeS s) :: ts) w' := by
  subst hg
  have hT := hO.take hg0
  have hm := hO.many
  have he := hO.ever
  have hgn := hO.gen (pickG s)
  have hcl := take_st h (x := pickG s) (v := rd s.gens (pickG s) + 1) (s' := takeS s) rfl (if_neg hg0) rfl (by omega) (by omega) (fun _ => hT.1) (fun _ => by rw [hO.gl]; have := hT.2.1; omega) (by omega)
  rw [decide_eq_true hg0] at hcl
  exact hcl
theorem ok_none_st (h : Sep.St w0 (arenaT p s :: ts) w) {n c : Int} (hn : 1 ≤ n ∧ n ≤ 64) (hO : Ok n s c) (hc : c ≤ 100000) (hg : pickG s = 0) :
    Calls Try.prog 11 #[.pointer (some ⟨p, 0, none⟩)] w fun e w' => e = .returned (.tuple #[.int .i64 0, .int .i64 0, .bool false]) ∧ Sep.St w0 (arenaT p s :: ts) w' := by
  have hm := hO.many
  have he := hO.ever
  have hgn := hO.gen 0
  exact take_st h (x := 0) (v := 0) (s' := s) hg rfl (hO.full hg).2.1 (by omega) (by omega) (fun h => absurd rfl h) (fun h => absurd rfl h) (by omega)
theorem Ok.freed_len {n : Int} {s : St} {c : Int} (hO : Ok n s c) (hn : n ≤ 64) : s.freed.length ≤ 1000000 := by
  have hm := hO.many
  have he := hO.ever
  omega
end
end Go.Proofs.Ytpoecjieagkoaaa.Arena
