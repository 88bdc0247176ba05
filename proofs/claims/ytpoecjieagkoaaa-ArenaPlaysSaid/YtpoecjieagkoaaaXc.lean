/- Arena: the document's functions in plain words, and their calls. No condition. -/
import Derived.Test.YtpoecjieagkoaaaXb
import Derived.Test.YtpoecjieagkoaaaPRef08x1
namespace Go.Proofs.Ytpoecjieagkoaaa.Arena
open Go Go.ChangeMaps Go.RowKit Go.Proofs.YtpoecjieagkoaaaW.PrintWords Go.Proofs.YtpoecjieagkoaaaW.PrintLast Go.Proofs.YtpoecjieagkoaaaW.PrintMore Go.Proofs.Ytpoecjieagkoaaa.PTake Go.Proofs.Ytpoecjieagkoaaa.Own
set_option linter.unusedVariables false
set_option linter.unusedSimpArgs false
theorem in_f (l : List Int) (x : Int) (hl : l.length ≤ 100000) (k : Nat) (hk : l.length + 1 ≤ k) : catafalqueref01_In.f k l x = some (decide (x ∈ l)) := in_l0 l x hl l.length 0 k (by omega) hk
def keys (s : St) : List Int := s.live.map (·.1)
theorem has_mem (s : St) (x : Int) : has s.live x = decide (x ∈ keys s) := by
  cases h : has s.live x with
  | true => exact (decide_eq_true ((has_iff _ _).mp h)).symm
  | false => exact (decide_eq_false (fun a => by rw [(has_iff _ _).mpr a] at h; cases h)).symm
theorem pick_l0 {s : St} {n c : Int} (hO : Ok n s c) (hn : n ≤ 64) (hf : s.freed = []) (fr gs : List Int) : ∀ (d : Nat) (g : Int) (k : Nat), 1 ≤ g → g + d = s.ever + 1 → (keys s).length + d + 2 ≤ k →
    catafalqueref08_pick.l0 k g s.room (keys s) fr gs = some (if s.ever = s.room then 0 else s.ever + 1)
  | 0, g, k, h1, hg, hk => by
    obtain ⟨k, rfl⟩ : ∃ j, k = j + 1 := ⟨k - 1, by omega⟩
    have hr := hO.room
    have he := hO.ever
    simp only [catafalqueref08_pick.l0]
    by_cases h : s.ever = s.room
    · rw [if_pos h, if_neg (by omega)]
    · have hl : (keys s).length ≤ 100000 := by have := hO.many; simp [keys]; omega
      rw [if_neg h, if_pos (by omega), in_f _ _ hl _ (by omega)]
      have : g ∉ keys s := fun a => by
        have := (hO.mem g).mp (.inl ((has_iff _ _).mpr a))
        omega
      simp only [decide_eq_false this, Option.bind_some]
      simp
      omega
  | d + 1, g, k, h1, hg, hk => by
    obtain ⟨k, rfl⟩ : ∃ j, k = j + 1 := ⟨k - 1, by omega⟩
    have hr := hO.room
    have he := hO.ever
    have hl : (keys s).length ≤ 100000 := by have := hO.many; simp [keys]; omega
    simp only [catafalqueref08_pick.l0]
    rw [if_pos (by omega), in_f _ _ hl _ (by omega)]
    have : g ∈ keys s := by
      rcases (hO.mem g).mpr ⟨h1, by omega⟩ with a | a
      · exact (has_iff _ _).mp a
      · rw [hf] at a; cases a
    have hw : wrap64 (g + 1) = g + 1 := by unfold wrap64; omega
    simp only [decide_eq_true this, Option.bind_some, if_true, hw]
    exact pick_l0 hO hn hf fr gs d (g + 1) k (by omega) (by omega) (by omega)
theorem pick_f {s : St} {n c : Int} (hO : Ok n s c) (hn : n ≤ 64) (gs : List Int) : catafalqueref08_pick.f 200 s.room (keys s) s.freed gs = some (pickG s) := by
  have hm := hO.many
  have he := hO.ever
  unfold catafalqueref08_pick.f pickG
  by_cases hf : s.freed = []
  · rw [if_pos hf, hf, if_neg (by simp)]
    have := pick_l0 hO hn hf [] gs s.ever.toNat 1 200 (by omega) (by omega) (by simp [keys]; omega)
    exact this
  · have hpos : 0 < s.freed.length := List.length_pos_iff.mpr hf
    have hw : wrap64 ((s.freed.length : Int) - 1) = (s.freed.length : Int) - 1 := by unfold wrap64; omega
    rw [if_neg hf, if_pos (by omega), hw, if_pos (by omega), if_pos (by omega)]
theorem without_l0 (l : List Int) (x : Int) (hl : l.length ≤ 100000) : ∀ (m i k : Nat) (out : List Int), i + m = l.length → m + 1 ≤ k → out.length ≤ i → catafalqueref08_without.l0 k l x out (i : Int) = some (out ++ (l.drop i).filter (fun y => decide (y ≠ x)))
  | 0, i, k, out, hi, hk, ho => by
    obtain ⟨k, rfl⟩ : ∃ j, k = j + 1 := ⟨k - 1, by omega⟩
    simp only [catafalqueref08_without.l0]
    rw [if_neg (by omega), List.drop_of_length_le (by omega)]
    simp
  | m + 1, i, k, out, hi, hk, ho => by
    obtain ⟨k, rfl⟩ : ∃ j, k = j + 1 := ⟨k - 1, by omega⟩
    have hw : wrap64 ((i : Int) + 1) = ((i + 1 : Nat) : Int) := by unfold wrap64; omega
    have ra : rd l (i : Int) = l[i]'(by omega) := by show l.getD i 0 = _; rw [List.getD_eq_getElem?_getD, List.getElem?_eq_getElem (by omega)]; rfl
    simp only [catafalqueref08_without.l0]
    have da := List.drop_eq_getElem_cons (show i < l.length by omega)
    rw [if_pos (by omega), if_pos (by omega), hw, ra, da]
    by_cases h : l[i]'(by omega) = x
    · rw [if_pos h, without_l0 l x hl m (i + 1) k out (by omega) (by omega) (by omega), List.filter_cons_of_neg (by simp [h])]
    · rw [if_neg h, if_pos (by omega), without_l0 l x hl m (i + 1) k _ (by omega) (by omega) (by simp; omega), List.filter_cons_of_pos (by simp [h])]
      simp
theorem without_f (l : List Int) (x : Int) (hl : l.length ≤ 1000) (k : Nat) (hk : l.length + 1 ≤ k) : catafalqueref08_without.f k l x = some (l.filter (fun y => decide (y ≠ x))) := by
  have := without_l0 l x (by omega) l.length 0 k [] (by omega) hk (by simp)
  unfold catafalqueref08_without.f
  simpa using this
theorem filter_erase {l : List Int} (hn : l.Nodup) (x : Int) : l.filter (fun y => decide (y ≠ x)) = l.erase x := by
  rw [List.Nodup.erase_eq_filter hn]
  exact List.filter_congr fun y _ => by by_cases h : y = x <;> simp [h]
theorem takeS_rel {s : St} {n c : Int} (hO : Ok n s c) (hp : pickG s ≠ 0) : keys (takeS s) = keys s ++ [pickG s] ∧ (takeS s).freed = s.freed.filter (fun y => decide (y ≠ pickG s)) ∧ (takeS s).gens = s.gens.set (pickG s).toNat (rd s.gens (pickG s) + 1) ∧ (takeS s).room = s.room := by
  obtain ⟨h1, h2, h3, h4, h5, h6, h7⟩ := hO.take hp
  refine ⟨by unfold keys; rw [h5]; simp, ?_, h6, by rw [h4.room, hO.room]⟩
  have e0 : (takeS s).freed = (pickS s).freed := by unfold takeS; rw [if_neg hp]
  rw [e0, filter_erase hO.fnd]
  by_cases hf : s.freed = []
  · rw [hf]
    unfold pickS
    rw [if_pos hf]
    split
    · rw [hf]; rfl
    · show s.freed = _; rw [hf]; rfl
  · have hpos : 0 < s.freed.length := List.length_pos_iff.mpr hf
    have e : ((s.freed.length : Int) - 1).toNat = s.freed.length - 1 := by omega
    have e1 : pickG s = s.freed[s.freed.length - 1]'(by omega) := by
      unfold pickG
      rw [if_neg hf]
      show s.freed.getD _ 0 = _
      rw [e, List.getD_eq_getElem?_getD, List.getElem?_eq_getElem (by omega)]; rfl
    have e2 : pickS s = { s with freed := s.freed.take (s.freed.length - 1) } := by unfold pickS; rw [if_neg hf]
    have e3 : s.freed = s.freed.take (s.freed.length - 1) ++ [pickG s] := by
      have := List.take_succ_eq_append_getElem (show s.freed.length - 1 < s.freed.length by omega)
      rw [show s.freed.length - 1 + 1 = s.freed.length by omega, List.take_length] at this
      rw [e1]; exact this
    rw [e2]
    show s.freed.take (s.freed.length - 1) = _
    have hnd := hO.fnd
    generalize s.freed.take (s.freed.length - 1) = t at e3
    rw [e3] at hnd ⊢
    have hnt : pickG s ∉ t := fun a => (List.nodup_append.mp hnd).2.2 _ a _ (by simp) rfl
    rw [List.erase_append_right _ hnt]
    simp
theorem freeS_rel {s : St} {n c : Int} (hO : Ok n s c) (x : Int) (hx : has s.live x = true) : keys (freeS s x) = (keys s).filter (fun y => decide (y ≠ x)) ∧ (freeS s x).freed = s.freed ++ [x] ∧ (freeS s x).gens = s.gens ∧ (freeS s x).room = s.room := by
  unfold freeS
  rw [if_pos hx]
  refine ⟨?_, rfl, rfl, rfl⟩
  unfold keys
  rw [filter_erase hO.keys]
  exact del_map _ _
theorem new_l0 (n : Int) (hn : n ≤ 64) : ∀ (d : Nat) (i : Nat) (k : Nat) (r : Int), (i : Int) + d = n + 1 → d + 1 ≤ k → Go.Proofs.Ytpoecjieagkoaaa.PRef08.catafalqueref08_New.l0 k n (i : Int) r (List.replicate i 0) = some (r, [], [], List.replicate (n + 1).toNat 0, 0)
  | 0, i, k, r, hi, hk => by
    obtain ⟨k, rfl⟩ : ∃ j, k = j + 1 := ⟨k - 1, by omega⟩
    simp only [Go.Proofs.Ytpoecjieagkoaaa.PRef08.catafalqueref08_New.l0]
    rw [if_neg (by omega), show (n + 1).toNat = i by omega]
  | d + 1, i, k, r, hi, hk => by
    obtain ⟨k, rfl⟩ : ∃ j, k = j + 1 := ⟨k - 1, by omega⟩
    have hw : wrap64 ((i : Int) + 1) = ((i + 1 : Nat) : Int) := by unfold wrap64; omega
    simp only [Go.Proofs.Ytpoecjieagkoaaa.PRef08.catafalqueref08_New.l0]
    rw [if_pos (by omega), if_pos (by simp; omega), hw, show List.replicate i (0 : Int) ++ [0] = List.replicate (i + 1) 0 from (List.replicate_succ' ..).symm]
    exact new_l0 n hn d (i + 1) k r (by omega) (by omega)
theorem new_f (n : Int) (h : 1 ≤ n ∧ n ≤ 64) : Go.Proofs.Ytpoecjieagkoaaa.PRef08.catafalqueref08_New.f 100 n = some (n, [], [], List.replicate (n + 1).toNat 0, 0) := by
  unfold Go.Proofs.Ytpoecjieagkoaaa.PRef08.catafalqueref08_New.f
  rw [if_neg (by omega), decide_eq_false (by omega)]
  have := new_l0 n h.2 (n + 1).toNat 0 99 n (by omega) (by omega)
  simpa [Go.Proofs.Ytpoecjieagkoaaa.PRef08.catafalqueref08_New.j0] using this
theorem new_f_bad (n : Int) (h : n < 1 ∨ n > 64) : Go.Proofs.Ytpoecjieagkoaaa.PRef08.catafalqueref08_New.f 100 n = some (0, [], [], [], 1) := by
  unfold Go.Proofs.Ytpoecjieagkoaaa.PRef08.catafalqueref08_New.f
  by_cases h1 : n < 1
  · rw [if_pos h1]; simp [Go.Proofs.Ytpoecjieagkoaaa.PRef08.catafalqueref08_New.j0]
  · rw [if_neg h1, decide_eq_true (by omega)]; simp [Go.Proofs.Ytpoecjieagkoaaa.PRef08.catafalqueref08_New.j0]
section
variable {w0 w w' : World} {F0 P0 : Nat → Prop} {ts : List Thing} {s : St} {n c : Int} {vl vf vg : Value}
/-- The document's arena, read. -/
def Dt (vl vf vg : Value) (s : St) (ts : List Thing) : List Thing := rdT (Kd.int .i64) vl (keys s) :: rdT (Kd.int .i64) vf s.freed :: rdT (Kd.int .i64) vg s.gens :: ts
theorem doc_take (h : Own.St w0 F0 P0 (Dt vl vf vg s ts) w) (hO : Ok n s c) (hn : n ≤ 64) (hc : c ≤ 100000) {g : Int} (hg : pickG s = g) (hp : g ≠ 0) {m : Int} (hm : rd s.gens g + 1 = m) :
    Calls Try.prog 17 #[.agg #[.int .i64 s.room, vl, vf, vg]] w fun e w' => ∃ v1 v2 v3, e = .returned (.tuple #[.agg #[.int .i64 (takeS s).room, v1, v2, v3], .int .i64 g, .int .i64 m, .bool true]) ∧ Own.St w0 F0 P0 (Dt v1 v2 v3 (takeS s) ts) w' := by
  subst hg hm
  obtain ⟨t1, t2, t3, t4⟩ := takeS_rel hO hp
  have hT := hO.take hp
  have hm := hO.many
  have he := hO.ever
  have hgl := hO.gl
  have hgn := hO.gen (pickG s)
  unfold Dt
  rw [t1, t2, t3, t4]
  exact refTake w0 w F0 P0 ts s.room (pickG s) (keys s) s.freed s.gens _ vl vf vg h 200 (pick_f hO hn _) hp (without_f _ _ (by omega) _ (by omega)) ⟨by simp [keys]; omega, by omega⟩ (by omega) (by omega) (by omega)
theorem doc_free (h : Own.St w0 F0 P0 (Dt vl vf vg s ts) w) (hO : Ok n s c) (hn : n ≤ 64) (x : Int) (hx : has s.live x = true) :
    Calls Try.prog 18 #[.agg #[.int .i64 s.room, vl, vf, vg], .int .i64 x] w fun e w' => ∃ v1 v2 v3, e = .returned (.tuple #[.agg #[.int .i64 (freeS s x).room, v1, v2, v3], .bool true]) ∧ Own.St w0 F0 P0 (Dt v1 v2 v3 (freeS s x) ts) w' := by
  obtain ⟨t1, t2, t3, t4⟩ := freeS_rel hO x hx
  have hm := hO.many
  have he := hO.ever
  have hk : (keys s).length = s.live.length := by simp [keys]
  unfold Dt
  rw [t1, t2, t3, t4]
  refine (refFree w0 w F0 P0 ts s.room x (keys s) s.freed s.gens _ vl vf vg h 200 (by rw [in_f _ _ (by omega) _ (by omega), ← has_mem, hx]) (without_f _ _ (by omega) _ (by omega)) (by omega)).mono ?_
  rintro e w' ⟨v1, v2, rfl, hS⟩
  exact ⟨v1, v2, vg, rfl, hS⟩
theorem no_fin {b b' : Nat} {x : Thing} {a0 a1 a2 a3 b0 b1 b2 b3 : Value} (h : Own.St w0 F0 P0 (boxT b' 37 #[a0, a1, a2, a3] :: x :: ts) w) (hb : b = b') : Own.St w0 F0 P0 ts ((((w.setCell ⟨b, 0, none⟩ b0).setCell ⟨b, 1, none⟩ b1).setCell ⟨b, 2, none⟩ b2).setCell ⟨b, 3, none⟩ b3) := by
  subst hb
  exact ((((h.box_set 0 b0).box_set 1 b1).box_set 2 b2).box_set 3 b3).drop.drop
set_option maxHeartbeats 1000000 in
theorem doc_take_no (h : Own.St w0 F0 P0 (Dt vl vf vg s ts) w) (hO : Ok n s c) (hn : n ≤ 64) (hp : pickG s = 0) :
    Calls Try.prog 17 #[.agg #[.int .i64 s.room, vl, vf, vg]] w fun e w' => e = .returned (.tuple #[.agg #[.int .i64 s.room, vl, vf, vg], .int .i64 0, .int .i64 0, .bool false]) ∧ Own.St w0 F0 P0 (Dt vl vf vg s ts) w' := by
  have hpf := pick_f hO hn s.gens
  rw [hp] at hpf
  obtain ⟨Al, cl, rfl, hcl, hl⟩ := h.rd_open
  obtain ⟨Af, cf, rfl, hcf, hf⟩ := (St.pick (ts1 := [_]) h).rd_open
  obtain ⟨Ag, cg, rfl, hcg, hgn⟩ := (St.pick (ts1 := [_, _]) h).rd_open
  generalize s.room = r at hpf ⊢
  obtain ⟨L, hL⟩ : ∃ L, keys s = L := ⟨_, rfl⟩
  rw [hL] at hpf hcl hl h
  obtain ⟨b, hb⟩ : ∃ b, w.heap.size = b := ⟨_, rfl⟩
  have hb1 : Below w.heap.size w ((w.alloc (.cells #[.int .i64 r, .slice Al L.length cl, .slice Af s.freed.length cf, .slice Ag s.gens.length cg] 37)).alloc (.cells #[.int .i64 0, .slice none 0 0, .slice none 0 0, .slice none 0 0] 37)) := below_alloc (below_alloc (Below.refl _ _) _) _
  have hS := ((h.box #[.int .i64 r, .slice Al L.length cl, .slice Af s.freed.length cf, .slice Ag s.gens.length cg] 37).box #[.int .i64 0, .slice none 0 0, .slice none 0 0, .slice none 0 0] 37)
  rw [show (w.alloc (.cells #[.int .i64 r, .slice Al L.length cl, .slice Af s.freed.length cf, .slice Ag s.gens.length cg] 37)).heap.size = b + 1 from by simp [hb], hb] at hS
  have HBZ := Aside0.mk hb
  have HS := Aside0.mk hS
  have HC1 := Aside0.mk (Kd.C_below hl hb1)
  have HC2 := Aside0.mk (Kd.C_below hf hb1)
  have HC3 := Aside0.mk (Kd.C_below hgn hb1)
  have HPF := Aside0.mk hpf
  rw [hL]
  clear h hl hf hgn hpf hb1 hb hS hL hp
  go_enter Try.func17, Try.ntmps17
  go_wp2_with (first | (go_at_call 22; (with_reducible refine (catafalqueref08_pick.calls 200 r Al cl L Af cf s.freed Ag cg s.gens 0 _ HC1.out hcl HC2.out hcf HC3.out hcg HPF.out).mono ?_); rintro e w3 ⟨rfl, hb⟩; have hS2 := HS.out.below hb; clear hb; obtain ⟨c0, -⟩ := hS2.drop.box_cell 0 _ rfl; obtain ⟨c1, -⟩ := hS2.drop.box_cell 1 _ rfl; obtain ⟨c2, -⟩ := hS2.drop.box_cell 2 _ rfl; obtain ⟨c3, -⟩ := hS2.drop.box_cell 3 _ rfl; obtain ⟨d0, f0⟩ := hS2.box_cell 0 _ rfl; obtain ⟨d1, f1⟩ := hS2.box_cell 1 _ rfl; obtain ⟨d2, f2⟩ := hS2.box_cell 2 _ rfl; obtain ⟨d3, f3⟩ := hS2.box_cell 3 _ rfl; have HS3 := Aside0.mk hS2; rw [← HBZ.out] at c0 c1 c2 c3 d0 d1 d2 d3 f0 f1 f2 f3; clear hS2 HS))
  exact bodyPost_ret (v := .tuple #[.agg #[.int .i64 r, .slice Al L.length cl, .slice Af s.freed.length cf, .slice Ag s.gens.length cg], .int .i64 0, .int .i64 0, .bool false]) (by simp [results, Try.results17, go_sem, c0, c1, c2, c3, d0, d1, d2, d3]) rfl ⟨rfl, no_fin HS3.out (by rw [HBZ.out])⟩
set_option maxHeartbeats 1000000 in
theorem doc_free_no (h : Own.St w0 F0 P0 (Dt vl vf vg s ts) w) (hO : Ok n s c) (hn : n ≤ 64) (x : Int) (hx : has s.live x = false) :
    Calls Try.prog 18 #[.agg #[.int .i64 s.room, vl, vf, vg], .int .i64 x] w fun e w' => e = .returned (.tuple #[.agg #[.int .i64 s.room, vl, vf, vg], .bool false]) ∧ Own.St w0 F0 P0 (Dt vl vf vg s ts) w' := by
  have hlen : (keys s).length ≤ 64 := by have h1 := hO.many; have h2 := hO.ever; simp [keys]; omega
  have hpf : catafalqueref01_In.f 200 (keys s) x = some false := by rw [in_f _ _ (by omega) _ (by omega), ← has_mem, hx]
  obtain ⟨Al, cl, rfl, hcl, hl⟩ := h.rd_open
  obtain ⟨Af, cf, rfl, hcf, hf⟩ := (St.pick (ts1 := [_]) h).rd_open
  obtain ⟨Ag, cg, rfl, hcg, hgn⟩ := (St.pick (ts1 := [_, _]) h).rd_open
  generalize s.room = r
  obtain ⟨L, hL⟩ : ∃ L, keys s = L := ⟨_, rfl⟩
  rw [hL] at hpf hcl hl h
  obtain ⟨b, hb⟩ : ∃ b, w.heap.size = b := ⟨_, rfl⟩
  have hb1 : Below w.heap.size w ((w.alloc (.cells #[.int .i64 r, .slice Al L.length cl, .slice Af s.freed.length cf, .slice Ag s.gens.length cg] 37)).alloc (.cells #[.int .i64 0, .slice none 0 0, .slice none 0 0, .slice none 0 0] 37)) := below_alloc (below_alloc (Below.refl _ _) _) _
  have hS := ((h.box #[.int .i64 r, .slice Al L.length cl, .slice Af s.freed.length cf, .slice Ag s.gens.length cg] 37).box #[.int .i64 0, .slice none 0 0, .slice none 0 0, .slice none 0 0] 37)
  rw [show (w.alloc (.cells #[.int .i64 r, .slice Al L.length cl, .slice Af s.freed.length cf, .slice Ag s.gens.length cg] 37)).heap.size = b + 1 from by simp [hb], hb] at hS
  have HBZ := Aside0.mk hb
  have HS := Aside0.mk hS
  have HC1 := Aside0.mk (Kd.C_below hl hb1)
  have HPF := Aside0.mk hpf
  have HL := Aside0.mk hL
  rw [hL]
  clear h hl hf hgn hpf hb1 hb hS hL hlen hx
  go_enter Try.func18, Try.ntmps18
  go_wp2_with (first | (go_at_call 13; (with_reducible refine (catafalqueref01_In.calls 200 Al cl L x false _ HC1.out hcl HPF.out).mono ?_); rintro e w3 ⟨rfl, hb⟩; have hS2 := HS.out.below hb.below; clear hb; obtain ⟨c0, -⟩ := hS2.drop.box_cell 0 _ rfl; obtain ⟨c1, -⟩ := hS2.drop.box_cell 1 _ rfl; obtain ⟨c2, -⟩ := hS2.drop.box_cell 2 _ rfl; obtain ⟨c3, -⟩ := hS2.drop.box_cell 3 _ rfl; obtain ⟨d0, f0⟩ := hS2.box_cell 0 _ rfl; obtain ⟨d1, f1⟩ := hS2.box_cell 1 _ rfl; obtain ⟨d2, f2⟩ := hS2.box_cell 2 _ rfl; obtain ⟨d3, f3⟩ := hS2.box_cell 3 _ rfl; have HS3 := Aside0.mk hS2; rw [← HBZ.out] at c0 c1 c2 c3 d0 d1 d2 d3 f0 f1 f2 f3; clear hS2 HS))
  exact bodyPost_ret (v := .tuple #[.agg #[.int .i64 r, .slice Al L.length cl, .slice Af s.freed.length cf, .slice Ag s.gens.length cg], .bool false]) (by simp [results, Try.results18, go_sem, c0, c1, c2, c3, d0, d1, d2, d3]) rfl ⟨rfl, no_fin HS3.out (by rw [HBZ.out])⟩
end
end Go.Proofs.Ytpoecjieagkoaaa.Arena
