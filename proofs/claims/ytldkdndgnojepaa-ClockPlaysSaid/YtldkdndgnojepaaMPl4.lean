/- ClockPlays: whoever sleeps, and wakes, and whatever time goes by, each answer, who sleeps, and what time it is, are the document's. No condition. -/
import Derived.Test.YtldkdndgnojepaaMPl2
import Derived.Test.YtldkdndgnojepaaMPl3
namespace Go.Proofs.Ytldkdndgnojepaa.Heap
open Go Go.RowKit Go.Shelf Go.Proofs.Ytldkdndgnojepaa.Own Go.Proofs.YtldkdndgnojepaaW.PrintWords Go.Proofs.YtldkdndgnojepaaW.PrintLast Go.Proofs.YtldkdndgnojepaaW.PrintMore
set_option linter.unusedVariables false
set_option linter.unusedSimpArgs false
abbrev kOn := PRef13.k67
abbrev On := PRef13.S67
def lk (S : List Tm) : List On := S.map (fun x => ⟨x.g, x.t⟩)
theorem lk_len (S : List Tm) : (lk S).length = S.length := by simp [lk]
theorem lk_append (S R : List Tm) : lk (S ++ R) = lk S ++ lk R := by simp [lk]
theorem rd_lk {S : List Tm} {i : Nat} (h : i < S.length) : PRef13.rd_T67 (lk S) (i : Int) = ⟨S[i].g, S[i].t⟩ := by
  unfold PRef13.rd_T67 lk
  simp [List.getD_eq_getElem?_getD, h]
theorem idx_due (T : Int) {S : List Tm} (hr : Ris S) {i : Nat} (hi : i < S.length) : S[i].t ≤ T ↔ i < (due T S).length := by
  have hs : due T S ++ rest T S = S := List.takeWhile_append_dropWhile
  obtain ⟨h1, h2⟩ := due_filter T hr
  constructor
  · intro h
    refine Nat.lt_of_not_le fun hle => ?_
    have hm : S[i] ∈ rest T S := by
      have h3 : S[i] = (due T S ++ rest T S)[i]'(by rw [hs]; exact hi) := by congr 1; exact hs.symm
      rw [h3, List.getElem_append_right hle]
      exact List.getElem_mem _
    rw [h2] at hm
    have := (List.mem_filter.mp hm).2
    simp at this
    omega
  · intro h
    have hm : S[i] ∈ due T S := by
      have h3 : S[i] = (due T S ++ rest T S)[i]'(by rw [hs]; exact hi) := by congr 1; exact hs.symm
      rw [h3, List.getElem_append_left h]
      exact List.getElem_mem _
    rw [h1] at hm
    simpa using (List.mem_filter.mp hm).2
theorem cmp_newer {x y : Tm} (h : y.s < x.s) : cmpT x y < 0 ↔ x.t < y.t := by
  have h' : ¬ x.s < y.s := by omega
  unfold cmpT sgn
  by_cases h1 : x.t < y.t
  · simp [h1]
  · by_cases h2 : y.t < x.t
    · simp [h1, h2]
    · simp [h1, h2, h, h']
theorem insL_at (T q g : Int) : ∀ {S : List Tm}, (∀ y ∈ S, y.s ≤ q) → insL ⟨T, q + 1, g⟩ S = due T S ++ ⟨T, q + 1, g⟩ :: rest T S
  | [], _ => rfl
  | y :: S, h => by
    have hy := h y List.mem_cons_self
    have ih := insL_at T q g (S := S) (fun z hz => h z (List.mem_cons_of_mem _ hz))
    have hc : cmpT ⟨T, q + 1, g⟩ y < 0 ↔ T < y.t := cmp_newer (x := ⟨T, q + 1, g⟩) (show y.s < q + 1 by omega)
    unfold insL
    by_cases ht : y.t ≤ T
    · rw [if_neg (fun a => by have := hc.mp a; omega), ih]
      simp only [due, rest, List.takeWhile_cons, List.dropWhile_cons, decide_eq_true ht, if_true, List.cons_append]
    · rw [if_pos (hc.mpr (by omega))]
      simp only [due, rest, List.takeWhile_cons, List.dropWhile_cons, decide_eq_false ht]
      rfl
theorem lk_due (T : Int) (S : List Tm) : (lk S).take (due T S).length = lk (due T S) ∧ (lk S).drop (due T S).length = lk (rest T S) := by
  have hs : due T S ++ rest T S = S := List.takeWhile_append_dropWhile
  have h1 : lk S = lk (due T S) ++ lk (rest T S) := by rw [← lk_append, hs]
  have h2 : (lk (due T S)).length = (due T S).length := lk_len _
  rw [h1]
  exact ⟨List.take_left' h2, List.drop_left' h2⟩
theorem mem_gs_here {x : Tm} {g : Int} {l : List Tm} (h : x.g = g) : g ∈ gs (x :: l) := by
  rw [← h]; exact List.mem_cons_self
theorem mem_gs_cons {x : Tm} {g : Int} {l : List Tm} (h : ¬ x.g = g) : g ∈ gs (x :: l) ↔ g ∈ gs l :=
  ⟨fun a => (List.mem_cons.mp a).elim (fun b => absurd b.symm h) id, fun a => List.mem_cons_of_mem _ a⟩
theorem dropG_here {x : Tm} {g : Int} {l : List Tm} (h : x.g = g) : dropG g (x :: l) = dropG g l := List.filter_cons_of_neg (by simp [h])
theorem dropG_cons {x : Tm} {g : Int} {l : List Tm} (h : ¬ x.g = g) : dropG g (x :: l) = x :: dropG g l := List.filter_cons_of_pos (by simpa using h)
theorem ref_sleep_l0 (g now T : Int) {S : List Tm} (hr : Ris S) (hl : S.length ≤ 1000000) : ∀ (k i : Nat), S.length - i < k → i ≤ S.length →
    PRef13.catafalqueref13_Sleep.l0 k g ((min i (due T S).length : Nat) : Int) (i : Int) now (lk S) g T = if g ∈ gs (S.drop i) then some (now, lk S, 5) else some (now, lk (due T S) ++ ⟨g, T⟩ :: lk (rest T S), 0)
  | 0, i, hk, hi => by omega
  | k + 1, i, hk, hi => by
    have hdl := due_len T S
    simp only [PRef13.catafalqueref13_Sleep.l0]
    by_cases h : i < S.length
    · have e1 : S.drop i = S[i] :: S.drop (i + 1) := List.drop_eq_getElem_cons h
      rw [if_pos (by rw [lk_len]; omega), if_pos (by omega), rd_lk h, w64s (by omega), e1]
      by_cases hg : S[i].g = g
      · rw [if_pos hg, if_pos (mem_gs_here hg)]
      · rw [if_neg hg]
        have hiff : (g ∈ gs (S[i] :: S.drop (i + 1))) ↔ g ∈ gs (S.drop (i + 1)) := mem_gs_cons hg
        have ih := ref_sleep_l0 g now T hr hl k (i + 1) (by omega) (by omega)
        have hid := idx_due T hr h
        by_cases ht : S[i].t ≤ T
        · have hlt := hid.mp ht
          rw [if_pos ht]
          rw [show min (i + 1) (due T S).length = i + 1 by omega] at ih
          rw [ih]
          simp only [hiff]
        · have hlt : ¬ i < (due T S).length := fun a => ht (hid.mpr a)
          rw [if_neg ht]
          rw [show min (i + 1) (due T S).length = min i (due T S).length by omega] at ih
          rw [ih]
          simp only [hiff]
    · obtain rfl : i = S.length := by omega
      have hp : min S.length (due T S).length = (due T S).length := by omega
      obtain ⟨d1, d2⟩ := lk_due T S
      have l1 := lk_len (due T S)
      have l2 := lk_len (rest T S)
      rw [if_neg (by rw [lk_len]; omega), hp]
      simp only [Option.bind_some, Int.toNat_natCast, d1, d2, List.nil_append, List.length_nil, List.length_append, l1, l2, lk_len, List.length_cons, List.drop_length]
      rw [if_pos (by omega), if_pos (by omega), if_pos (by omega), if_pos (by omega), if_pos (by omega), if_neg (by simp [gs])]
      simp
structure Sq (S : List Tm) (q : Int) : Prop where
  srt : Srt S
  seq : ∀ y ∈ S, y.s ≤ q
theorem Sq.ris {S : List Tm} {q : Int} (h : Sq S q) : Ris S := srt_ris h.srt
theorem Sq.sleep {S : List Tm} {q : Int} (h : Sq S q) (now g n : Int) : Sq (sleepS S now q g n) (sleepQ S q g n) ∧ (sleepS S now q g n).length ≤ S.length + 1 ∧ q ≤ sleepQ S q g n ∧ sleepQ S q g n ≤ q + 1 := by
  unfold sleepS sleepQ
  split
  · refine ⟨⟨insL_srt _ _ h.srt, fun y hy => ?_⟩, by rw [insL_len]; omega, by omega, by omega⟩
    rcases List.mem_cons.mp ((insL_perm _ _).mem_iff.mp hy) with rfl | hy
    · exact Int.le_refl _
    · have := h.seq y hy; omega
  · exact ⟨h, by omega, by omega, by omega⟩
theorem Sq.tick {S : List Tm} {q : Int} (h : Sq S q) (now n : Int) (hnow : 0 ≤ now ∧ now ≤ 1099511627776) : Sq (tickS S now n) q ∧ (tickS S now n).length ≤ S.length ∧ (tickW S now n).length ≤ S.length ∧ 0 ≤ tickN now n ∧ tickN now n ≤ 1099511627776 := by
  unfold tickS tickN tickW tickC
  have hd := due_len (now + n) S
  have hs : (rest (now + n) S).Sublist S := List.dropWhile_sublist _
  by_cases h1 : n < 0
  · rw [if_pos h1, if_neg (show ¬ (1 : Int) = 0 by decide), if_neg (show ¬ (1 : Int) = 0 by decide), if_neg (show ¬ (1 : Int) = 0 by decide)]
    exact ⟨h, Nat.le_refl _, Nat.zero_le _, hnow.1, hnow.2⟩
  · rw [if_neg h1]
    by_cases h2 : 1099511627776 - now < n
    · rw [if_pos h2, if_neg (show ¬ (7 : Int) = 0 by decide), if_neg (show ¬ (7 : Int) = 0 by decide), if_neg (show ¬ (7 : Int) = 0 by decide)]
      exact ⟨h, Nat.le_refl _, Nat.zero_le _, hnow.1, hnow.2⟩
    · rw [if_neg h2, if_pos rfl, if_pos rfl, if_pos rfl, gs_len]
      exact ⟨⟨h.srt.sublist hs, fun y hy => h.seq y (hs.subset hy)⟩, by omega, by omega, by omega, by omega⟩
theorem Sq.drop {S : List Tm} {q : Int} (h : Sq S q) (g : Int) : Sq (dropG g S) q ∧ (dropG g S).length ≤ S.length :=
  ⟨⟨List.Pairwise.filter _ h.srt, fun y hy => h.seq y (List.mem_filter.mp hy).1⟩, dropG_len g S⟩
theorem ref_sleep_f (g n now q : Int) {S : List Tm} (hq : Sq S q) (hl : S.length ≤ 1000000) (hnow : 0 ≤ now ∧ now ≤ 1099511627776) :
    PRef13.catafalqueref13_Sleep.f (S.length + 2) now (lk S) g n = some (now, lk (sleepS S now q g n), sleepC S g n) := by
  unfold PRef13.catafalqueref13_Sleep.f sleepS sleepC
  by_cases hb : g ≤ 0 ∨ n < 1 ∨ 1000 < n
  · rw [if_pos hb, if_neg (show ¬ (1 : Int) = 0 by decide)]
    by_cases h1 : g < 1
    · rw [if_pos h1]; simp [PRef13.catafalqueref13_Sleep.j0]
    · rw [if_neg h1]
      by_cases h2 : n < 1
      · rw [if_pos h2]; simp [PRef13.catafalqueref13_Sleep.j0]
      · rw [if_neg h2]
        have h3 : decide (n > 1000) = true := decide_eq_true (by omega)
        rw [h3]; simp [PRef13.catafalqueref13_Sleep.j0]
  · have h3 : decide (n > 1000) = false := decide_eq_false (by omega)
    rw [if_neg hb, if_neg (by omega), if_neg (by omega), h3]
    simp only [PRef13.catafalqueref13_Sleep.j0]
    rw [if_neg (by decide)]
    have hw : wrap64 (now + n) = now + n := by unfold wrap64; omega
    have h0 := ref_sleep_l0 g now (now + n) hq.ris hl (S.length + 1) 0 (by omega) (by omega)
    simp only [Nat.zero_min, List.drop_zero] at h0
    rw [hw]
    refine h0.trans ?_
    by_cases hin : g ∈ gs S
    · rw [if_pos hin, if_pos hin, if_neg (show ¬ (5 : Int) = 0 by decide)]
    · rw [if_neg hin, if_neg hin, if_pos rfl, insL_at (now + n) q g hq.seq, lk_append]
      rfl
theorem gs_append (S R : List Tm) : gs (S ++ R) = gs S ++ gs R := by simp [gs]
theorem ref_tick_l0 (now m : Int) {S : List Tm} (hl : S.length ≤ 1000000) : ∀ (k i : Nat) (W : List Int) (acc : List On), S.length - i < k → i ≤ S.length → W.length ≤ i → acc.length ≤ i →
    PRef13.catafalqueref13_Tick.l0 k W (i : Int) now (lk S) m acc = some (m, acc ++ lk ((S.drop i).filter (fun x => decide (m < x.t))), W ++ gs ((S.drop i).filter (fun x => decide (x.t ≤ m))), 0)
  | 0, i, W, acc, hk, hi, _, _ => by omega
  | k + 1, i, W, acc, hk, hi, hW, ha => by
    simp only [PRef13.catafalqueref13_Tick.l0]
    by_cases h : i < S.length
    · have e1 : S.drop i = S[i] :: S.drop (i + 1) := List.drop_eq_getElem_cons h
      rw [if_pos (by rw [lk_len]; omega), if_pos (by omega), rd_lk h, w64s (by omega), e1]
      by_cases ht : S[i].t ≤ m
      · rw [if_pos ht, if_pos (by omega), ref_tick_l0 now m hl k (i + 1) _ _ (by omega) (by omega) (by simp; omega) (by omega)]
        rw [List.filter_cons_of_neg (by simp; omega), List.filter_cons_of_pos (by simpa using ht)]
        simp [gs]
      · rw [if_neg ht, if_pos (by omega), ref_tick_l0 now m hl k (i + 1) _ _ (by omega) (by omega) (by omega) (by simp; omega)]
        rw [List.filter_cons_of_pos (by simp; omega), List.filter_cons_of_neg (by simpa using ht)]
        simp [lk]
    · obtain rfl : i = S.length := by omega
      rw [if_neg (by rw [lk_len]; omega), List.drop_length]
      simp [lk, gs]
theorem ref_tick_f (n now : Int) {S : List Tm} (hr : Ris S) (hl : S.length ≤ 1000000) (hnow : 0 ≤ now ∧ now ≤ 1099511627776) :
    PRef13.catafalqueref13_Tick.f (S.length + 2) now (lk S) n = some (tickN now n, lk (tickS S now n), tickW S now n, tickC now n) := by
  unfold PRef13.catafalqueref13_Tick.f tickN tickS tickW tickC
  by_cases h1 : n < 0
  · rw [if_pos h1, if_pos h1, if_neg (show ¬ (1 : Int) = 0 by decide), if_neg (show ¬ (1 : Int) = 0 by decide), if_neg (show ¬ (1 : Int) = 0 by decide)]
  · rw [if_neg h1, if_neg h1]
    by_cases h2 : 1099511627776 - now < n
    · rw [if_pos h2, if_neg (show ¬ (7 : Int) = 0 by decide), if_neg (show ¬ (7 : Int) = 0 by decide), if_neg (show ¬ (7 : Int) = 0 by decide)]
      by_cases h3 : n > 1099511627776
      · rw [if_pos h3]; simp [PRef13.catafalqueref13_Tick.j0]
      · rw [if_neg h3]
        have hw : wrap64 (now + n) = now + n := by unfold wrap64; omega
        have h4 : decide (now + n > 1099511627776) = true := decide_eq_true (by omega)
        rw [hw, h4]; simp [PRef13.catafalqueref13_Tick.j0]
    · have hw : wrap64 (now + n) = now + n := by unfold wrap64; omega
      have h4 : decide (now + n > 1099511627776) = false := decide_eq_false (by omega)
      rw [if_neg h2, if_pos rfl, if_pos rfl, if_pos rfl, if_neg (by omega), hw, h4]
      simp only [PRef13.catafalqueref13_Tick.j0]
      rw [if_neg (by decide), hw]
      have h5 := ref_tick_l0 now (now + n) hl (S.length + 1) 0 [] [] (by omega) (by omega) (by simp) (by simp)
      obtain ⟨d1, d2⟩ := due_filter (now + n) hr
      rw [d1, d2]
      simpa using h5
theorem ref_wake_l0 (g now : Int) {S : List Tm} (hl : S.length ≤ 1000000) : ∀ (k i : Nat) (is : Bool) (acc : List On), S.length - i < k → i ≤ S.length → acc.length ≤ i →
    PRef13.catafalqueref13_Wake.l0 k g is (i : Int) now (lk S) now acc = some (now, acc ++ lk (dropG g (S.drop i)), is || decide (g ∈ gs (S.drop i)))
  | 0, i, is, acc, hk, hi, _ => by omega
  | k + 1, i, is, acc, hk, hi, ha => by
    simp only [PRef13.catafalqueref13_Wake.l0]
    by_cases h : i < S.length
    · have e1 : S.drop i = S[i] :: S.drop (i + 1) := List.drop_eq_getElem_cons h
      rw [if_pos (by rw [lk_len]; omega), if_pos (by omega), rd_lk h, w64s (by omega), e1]
      by_cases hg : S[i].g = g
      · rw [if_pos hg, ref_wake_l0 g now hl k (i + 1) _ _ (by omega) (by omega) (by omega)]
        rw [dropG_here hg, decide_eq_true (mem_gs_here hg)]
        simp
      · rw [if_neg hg, if_pos (by omega), ref_wake_l0 g now hl k (i + 1) _ _ (by omega) (by omega) (by simp; omega)]
        have hdd : decide (g ∈ gs (S[i] :: S.drop (i + 1))) = decide (g ∈ gs (S.drop (i + 1))) := decide_eq_decide.mpr (mem_gs_cons hg)
        rw [dropG_cons hg, hdd]
        simp [lk]
    · obtain rfl : i = S.length := by omega
      rw [if_neg (by rw [lk_len]; omega), List.drop_length]
      simp [lk, gs, dropG]
theorem ref_wake_f (g now : Int) {S : List Tm} (hl : S.length ≤ 1000000) : PRef13.catafalqueref13_Wake.f (S.length + 1) now (lk S) g = some (now, lk (dropG g S), decide (g ∈ gs S)) := by
  unfold PRef13.catafalqueref13_Wake.f
  have h := ref_wake_l0 g now hl (S.length + 1) 0 false [] (by omega) (by omega) (by simp)
  simpa using h
theorem ref_who_l0 (now : Int) {S : List Tm} (hl : S.length ≤ 1000000) : ∀ (k i : Nat) (W : List Int), S.length - i < k → i ≤ S.length → W.length ≤ i →
    PRef13.catafalqueref13_Who.l0 k W (i : Int) now (lk S) = some (W ++ gs (S.drop i))
  | 0, i, W, hk, hi, _ => by omega
  | k + 1, i, W, hk, hi, hW => by
    simp only [PRef13.catafalqueref13_Who.l0]
    by_cases h : i < S.length
    · have e1 : S.drop i = S[i] :: S.drop (i + 1) := List.drop_eq_getElem_cons h
      rw [if_pos (by rw [lk_len]; omega), if_pos (by omega), if_pos (by omega), rd_lk h, w64s (by omega), e1, ref_who_l0 now hl k (i + 1) _ (by omega) (by omega) (by simp; omega)]
      rw [List.append_assoc]
      rfl
    · obtain rfl : i = S.length := by omega
      rw [if_neg (by rw [lk_len]; omega), List.drop_length]
      simp [gs]
theorem ref_who_f (now : Int) {S : List Tm} (hl : S.length ≤ 1000000) : PRef13.catafalqueref13_Who.f (S.length + 1) now (lk S) = some (gs S) := by
  unfold PRef13.catafalqueref13_Who.f
  have h := ref_who_l0 now hl (S.length + 1) 0 [] (by omega) (by omega) (by simp)
  simpa using h
/-! ### The calls -/
theorem flatOn (w : World) (base : Nat) (ok : Nat → Prop) (x : On) (c : List Value) (h : kOn.K w x c) : kOn.M w base ok x c := by
  have := PRef13.k67_open h
  subst this
  exact PRef13.k67_mkM w base ok x
section
variable {w0 w w' : World} {F0 P0 : Nat → Prop} {ts : List Thing} {p : Nat} {H S : List Tm} {now q : Int} {u : Value}
theorem ref_sleep_calls (h : St w0 F0 P0 (rowT kOn 67 u (lk S) :: ts) w) (hq : Sq S q) (hl : S.length ≤ 1000000) (hnow : 0 ≤ now ∧ now ≤ 1099511627776) (g n : Int) (c : Int) (S' : List Tm) (e1 : sleepC S g n = c) (e2 : sleepS S now q g n = S') :
    Calls Try.prog 17 #[.agg #[.int .i64 now, u], .int .i64 g, .int .i64 n] w fun e w' => ∃ v1, e = .returned (.tuple #[.agg #[.int .i64 now, v1], .int .i64 c]) ∧ St w0 F0 P0 (rowT kOn 67 v1 (lk S') :: ts) w' := by
  subst e1; subst e2
  refine (PRef13.catafalqueref13_Sleep.calls (S.length + 2) now (fun k => some k = u.ownBlock) u (lk S) g n now _ _ (noHeap w) w (noHeap_below w) (h.flat flatOn rfl) (ref_sleep_f g n now q hq hl hnow)).mono ?_
  rintro e w' ⟨v1, rfl, hR, hb, hk⟩
  exact ⟨v1, rfl, St.redo rfl h (noHeap_os hb) hk hR⟩
theorem ref_tick_calls (h : St w0 F0 P0 (rowT kOn 67 u (lk S) :: ts) w) (hr : Ris S) (hl : S.length ≤ 1000000) (hnow : 0 ≤ now ∧ now ≤ 1099511627776) (n : Int) (c : Int) (L : List Int) (S' : List Tm) (m : Int) (e1 : tickC now n = c) (e2 : tickW S now n = L) (e3 : tickS S now n = S') (e4 : tickN now n = m) :
    Calls Try.prog 18 #[.agg #[.int .i64 now, u], .int .i64 n] w fun e w' => ∃ v1 v2, e = .returned (.tuple #[.agg #[.int .i64 m, v1], v2, .int .i64 c]) ∧ St w0 F0 P0 (rowT kOn 67 v1 (lk S') :: rowT (Kd.int .i64) 3 v2 L :: ts) w' := by
  subst e1; subst e2; subst e3; subst e4
  refine (PRef13.catafalqueref13_Tick.calls (S.length + 2) now (fun k => some k = u.ownBlock) u (lk S) n _ _ _ _ (noHeap w) w (noHeap_below w) (h.flat flatOn rfl) (ref_tick_f n now hr hl hnow)).mono ?_
  rintro e w' ⟨v1, v2, rfl, hR, hR2, hb, hk⟩
  exact ⟨v1, v2, rfl, St.redo2 rfl rfl (by decide) h (noHeap_os hb) hk hR hR2⟩
theorem ref_wake_calls (h : St w0 F0 P0 (rowT kOn 67 u (lk S) :: ts) w) (hl : S.length ≤ 1000000) (g : Int) (b : Bool) (S' : List Tm) (e1 : decide (g ∈ gs S) = b) (e2 : dropG g S = S') :
    Calls Try.prog 20 #[.agg #[.int .i64 now, u], .int .i64 g] w fun e w' => ∃ v1, e = .returned (.tuple #[.agg #[.int .i64 now, v1], .bool b]) ∧ St w0 F0 P0 (rowT kOn 67 v1 (lk S') :: ts) w' := by
  subst e1; subst e2
  obtain ⟨A, c, rfl⟩ := h.slice
  obtain ⟨-, hc, hC⟩ := h.reads
  refine (PRef13.catafalqueref13_Wake.calls (S.length + 1) now A c (lk S) g now _ _ w hC hc (ref_wake_f g now hl)).mono ?_
  rintro e w' ⟨v1, rfl, hR, hb⟩
  exact ⟨v1, rfl, (h.got hR hb (Nat.le_refl _)).swap.drop⟩
theorem ref_who_calls (h : St w0 F0 P0 (rowT kOn 67 u (lk S) :: ts) w) (hl : S.length ≤ 1000000) :
    Calls Try.prog 21 #[.agg #[.int .i64 now, u]] w fun e w' => ∃ v1, e = .returned v1 ∧ St w0 F0 P0 (rowT (Kd.int .i64) 3 v1 (gs S) :: rowT kOn 67 u (lk S) :: ts) w' := by
  obtain ⟨A, c, rfl⟩ := h.slice
  obtain ⟨-, hc, hC⟩ := h.reads
  refine (PRef13.catafalqueref13_Who.calls (S.length + 1) now A c (lk S) _ w hC hc (ref_who_f now hl)).mono ?_
  rintro e w' ⟨v1, rfl, hR, hb⟩
  exact ⟨v1, rfl, h.got hR hb (Nat.le_refl _)⟩
end
end Go.Proofs.Ytldkdndgnojepaa.Heap
namespace Go.Proofs.Ytldkdndgnojepaa.Heap
open Go Go.RowKit Go.Shelf Go.Proofs.Ytldkdndgnojepaa.Own Go.Proofs.YtldkdndgnojepaaW.PrintWords Go.Proofs.YtldkdndgnojepaaW.PrintLast Go.Proofs.YtldkdndgnojepaaW.PrintMore
set_option linter.unusedVariables false
set_option linter.unusedSimpArgs false
theorem opDc : Go.Proofs.YtldkdndgnojepaaX.Opens Try.prog 48 kTm (fun x => (Lit.int .i64 x.t).wf = true ∧ (Lit.int .i64 x.s).wf = true ∧ (Lit.int .i64 x.g).wf = true) :=
  Go.Proofs.YtldkdndgnojepaaX.Opens.imp (Go.Proofs.YtldkdndgnojepaaX.Opens.struct (fun x : Tm => (x.t, x.s, x.g)) (fun p => ⟨p.1, p.2.1, p.2.2⟩) (fun _ => rfl) Try.underlying48 (by kernel_rfl) (Go.Proofs.YtldkdndgnojepaaX.OpensF.cons rfl (by kernel_rfl) (Go.Proofs.YtldkdndgnojepaaX.Opens.int Try.underlying3) (Go.Proofs.YtldkdndgnojepaaX.OpensF.cons rfl (by kernel_rfl) (Go.Proofs.YtldkdndgnojepaaX.Opens.int Try.underlying3) (Go.Proofs.YtldkdndgnojepaaX.OpensF.one rfl (by kernel_rfl) (Go.Proofs.YtldkdndgnojepaaX.Opens.int Try.underlying2))))) (fun a h => by simpa using h)
theorem set2 {w0 w : World} {F0 P0 : Nat → Prop} {ts : List Thing} {b T : Nat} {a0 a1 b0 b1 : Value} (h : St w0 F0 P0 (boxT b T #[a0, a1] :: ts) w) : St w0 F0 P0 (boxT b T #[b0, b1] :: ts) ((w.setCell ⟨b, 0, none⟩ b0).setCell ⟨b, 1, none⟩ b1) := (h.box_set 0 b0).box_set 1 b1
theorem box2 {w0 w : World} {F0 P0 : Nat → Prop} {ts : List Thing} {b T : Nat} {a0 a1 : Value} (h : St w0 F0 P0 (boxT b T #[a0, a1] :: ts) w) : (w.cell? ⟨b, 0, none⟩ = some a0 ∧ w.cell? ⟨b, 1, none⟩ = some a1) ∧ (w.frozen? ⟨b, 0, none⟩ = false ∧ w.frozen? ⟨b, 1, none⟩ = false) ∧ b < w.heap.size :=
  ⟨⟨(h.box_cell 0 _ rfl).1, (h.box_cell 1 _ rfl).1⟩, ⟨(h.box_cell 0 _ rfl).2, (h.box_cell 1 _ rfl).2⟩, h.boxed.2⟩
section
variable {w0 w : World} {F0 P0 : Nat → Prop} {ts : List Thing} {a b c d e f : Thing}
theorem fix1 (h : St w0 F0 P0 (a :: b :: c :: d :: ts) w) : St w0 F0 P0 (c :: b :: a :: ts) w := (((St.pick (ts1 := [_, _, _]) h).drop).nth2).perm ((List.Perm.swap _ _ _).cons _)
theorem fix2 (h : St w0 F0 P0 (a :: b :: c :: ts) w) : St w0 F0 P0 (b :: a :: ts) w := ((St.pick (ts1 := [_, _]) h).drop).swap
theorem fix3 (h : St w0 F0 P0 (a :: b :: c :: d :: e :: f :: ts) w) : St w0 F0 P0 (d :: c :: a :: ts) w := (((St.pick (ts1 := [_]) ((St.pick (ts1 := [_, _, _, _]) ((St.pick (ts1 := [_, _, _, _, _]) h).drop)).drop)).drop).nth2).perm ((List.Perm.swap _ _ _).cons _)
end
def Deeds (A : Option Addr) (l : List Tm) : Thing := valT (fun W => kTm.C W A l.length l)
set_option maxRecDepth 100000 in
set_option maxHeartbeats 8000000 in
theorem plays_calls (w : World) (A : Option Addr) (c : Nat) (l : List Tm) (hr : kTm.C w A l.length l) (hc : l.length ≤ c) (wf : (∀ x ∈ l, (Lit.int .i64 x.t).wf = true ∧ (Lit.int .i64 x.s).wf = true ∧ (Lit.int .i64 x.g).wf = true) ∧ l.length * 24 ≤ 140737488351232 ∧ l.length ≤ maxLen) :
    Calls Try.prog 6 #[.slice A l.length c] w fun e w' => e = .returned (.bool true) ∧ Below w.heap.size w w' := by
  have HS0 := Aside0.mk (show St w (fun _ => False) (fun _ => True) [Deeds A l] w from St.arg (St.start w (fun _ => True)) (fun _ => id) (fun _ _ => trivial) (Kd.C_F (Kd.heap_iso _ (Kd.heap_pair (Kd.heap_int _) (Kd.heap_pair (Kd.heap_int _) (Kd.heap_int _)))) hr))
  have hci : (l.length : Int) ≤ (c : Int) := by omega
  clear hr hc wf
  go_enter Try.func6, Try.ntmps6
  go_wp2_with (first
    | (go_at_call 9; (with_reducible refine (shown_calls _).mono ?_); rintro e w1 ⟨rfl, hb⟩; obtain ⟨pb, hpb⟩ : ∃ pb, w1.heap.size = pb := ⟨_, rfl⟩; have hS := ((ck_new (HS0.out.below hb)).box #[.int .i64 0, .slice none 0 0] 46).nil kOn 67; rw [show (w1.alloc (.cells #[.slice none 0 0, .int .i64 0, .int .i64 0] 43)).heap.size = pb + 1 from by simp [hpb], hpb] at hS; have HS1 := Aside0.mk (St.pick (ts1 := [_, _]) hS); clear hS hb HS0))
  go_loopg [6] (l.length + 1) (fun kq v6 w' => ∃ (i : Nat) (S : List Tm) (m q : Int) (u : Value), v6 = .int .i64 (i : Int) ∧ Aside0 (i + kq = l.length + 1 ∧ i ≤ 200 ∧ i ≤ l.length) ∧ Aside0 (S.length ≤ i ∧ 0 ≤ q ∧ q ≤ (i : Int)) ∧ Aside0 (0 ≤ m ∧ m ≤ 1099511627776) ∧ Aside0 (Sq S q) ∧ Aside0 (St w (fun _ => False) (fun _ => True) (ckT pb S m q :: rowT kOn 67 u (lk S) :: boxT (pb + 1) 46 #[.int .i64 m, u] :: Deeds A l :: []) w'))
  case atStart => exact ⟨0, [], 0, 0, _, rfl, ⟨by omega, by omega, Nat.zero_le _⟩, ⟨Nat.le_refl _, by decide, by decide⟩, ⟨by decide, by decide⟩, ⟨⟨List.Pairwise.nil, fun y hy => by cases hy⟩⟩, HS1⟩
  case round =>
    clear HS1
    obtain ⟨i, S, m, q, u, rfl, HK, HI, HM, HQ, HS⟩ := hrel
    cases gk with
    | zero => exact absurd HK.out (by omega)
    | succ k1 =>
      have hi0 : (0 : Int) ≤ (i : Int) := by omega
      have hi1 : (i : Int) ≤ 200 := by have := HK.out; omega
      by_cases hin : i < l.length
      · have d1 : decide ((i : Int) < (l.length : Int)) = true := decide_eq_true (by omega)
        have d1n : decide (i < l.length) = true := decide_eq_true hin
        by_cases hin2 : i < 200
        · have d2 : decide ((i : Int) < 200) = true := decide_eq_true (by omega)
          have d2n : decide (i < 200) = true := decide_eq_true hin2
          have hlt : (i : Int) < (l.length : Int) := by omega
          obtain ⟨ad, rfl, a0, a1, a2⟩ := at_elem HS.out.drop.drop.drop.now hin
          generalize l[i] = x at a0 a1 a2
          obtain ⟨kd, g, n⟩ := x
          dsimp only at a0 a1 a2
          have HIN := Aside0.mk (And.intro hin hin2)
          have hlS : S.length ≤ 100000 := by have := HI.out; have := HK.out; omega
          have HLS := Aside0.mk hlS
          have HSa := Aside0.mk (HS.out.box #[.int .i64 kd, .int .i64 g, .int .i64 n] 48)
          have HQ1 := Aside0.mk (show 0 ≤ q ∧ q ≤ 1000000000 by have := HI.out; omega)
          clear hin hin2 HS hlS
          by_cases hk0 : kd = 0
          · subst hk0
            obtain ⟨c1, e1⟩ : ∃ c1, sleepC S g n = c1 := ⟨_, rfl⟩
            obtain ⟨S1, e2⟩ : ∃ S1, sleepS S m q g n = S1 := ⟨_, rfl⟩
            obtain ⟨q1, e3⟩ : ∃ q1, sleepQ S q g n = q1 := ⟨_, rfl⟩
            have HE := Aside0.mk (And.intro e1 (And.intro e2 e3))
            have hsq := HQ.out.sleep m g n
            rw [e2, e3] at hsq
            have HQS := Aside0.mk hsq
            have HL1 := Aside0.mk (show S1.length ≤ 100000 by have := hsq.2.1; have := HLS.out; have := HI.out; have := HK.out; omega)
            clear e1 e2 e3 hsq
            obtain ⟨ks, hks⟩ : ∃ ks, S1.length = ks := ⟨_, rfl⟩
            have HKS := Aside0.mk hks
            clear hks
            have hD0 := HSa.out
            obtain ⟨⟨x0, x1, x2⟩, -, -⟩ := box_cells3 hD0
            clear hD0
            go_wp2_with (first
              | (go_at_call 16; (with_reducible refine (ck_sleep_to HSa.out.swap HLS.out g n HM.out HQ1.out c1 S1 q1 HE.out.1 HE.out.2.1 HE.out.2.2).mono ?_); rintro e w3 ⟨rfl, hS⟩; have hD := St.pick (ts1 := [_]) hS; obtain ⟨⟨x0, x1, x2⟩, -, -⟩ := box_cells3 hD; obtain ⟨⟨y0, y1⟩, ⟨fy0, fy1⟩, hyl⟩ := box2 (St.pick (ts1 := [_, _, _]) hS); clear hD; have HSb := Aside0.mk hS; clear hS HSa)
              | (go_at_call 17; (with_reducible refine (ref_sleep_calls (St.pick (ts1 := [_, _]) HSb.out) HQ.out (by have := HLS.out; omega) HM.out g n c1 S1 HE.out.1 HE.out.2.1).mono ?_); rintro e w4 ⟨v1, rfl, hS⟩; have hsl := hS.slice; obtain ⟨A1, d1, hsl⟩ := hsl; rw [lk_len, HKS.out] at hsl; subst hsl; obtain ⟨⟨z0, z1⟩, ⟨fz0, fz1⟩, hzl⟩ := box2 (St.pick (ts1 := [_, _, _]) hS); have hSc := (set2 (b0 := .int .i64 m) (b1 := .slice A1 ks d1) (St.pick (ts1 := [_, _, _]) hS)).below (below_alloc (Below.refl _ _) (.cells #[.int .i64 m, .slice A1 ks d1] 46)); simp only [List.cons_append, List.nil_append] at hSc; have HSc := Aside0.mk hSc; clear hSc; clear hS HSb x0 x1 x2 y0 y1 fy0 fy1 hyl))
            have HSX := Aside0.mk (fix1 HSc.out)
            clear HSc z0 z1 fz0 fz1 hzl
            refine start_ (n := 13) (S := fun w' => w'.cell? ⟨pb + 1, 0, none⟩ = some (.int .i64 m) ∧ w'.cell? ⟨pb + 1, 1, none⟩ = some (.slice A1 ks d1)) (ds := [9, 10]) #[false, false, false, false, false, false, false, false, false, false, false, false, false] (by kernel_rfl) rfl rfl ?_ (fun hHeld => ?_)
            · exact ⟨(box2 (St.pick (ts1 := [_, _]) HSX.out)).1.1, (box2 (St.pick (ts1 := [_, _]) HSX.out)).1.2⟩
            refine pure_ (i := 0) (N := (some 102)) (v := ?_) (a' := ?_) #[true, false, false, false, false, false, false, false, false, false, false, false, false] rfl rfl (by kernel_rfl) (fun _ _ _ h => h) (Or.inl ⟨by rfl, ?_⟩) ?_ ?_
            rotate_left
            · intro w'; go_simp; with_reducible rfl
            rotate_left
            · simp only [Act.put, List.setIfInBounds_toArray, List.set_cons_zero, List.set_cons_succ]; rfl
            refine pure_ (i := 2) (N := (some 104)) (v := ?_) (a' := ?_) #[true, false, true, false, false, false, false, false, false, false, false, false, false] rfl rfl (by kernel_rfl) (fun _ _ _ h => h) (Or.inl ⟨by rfl, ?_⟩) ?_ ?_
            rotate_left
            · intro w'; go_simp; with_reducible rfl
            rotate_left
            · simp only [Act.put, List.setIfInBounds_toArray, List.set_cons_zero, List.set_cons_succ]; rfl
            refine take_ (i := 3) (N := (some 105)) (v := ?_) (a' := ?_) #[true, false, true, true, false, false, false, false, false, false, false, false, false] rfl rfl (by kernel_rfl) (fun _ _ _ h => h) (Or.inl ⟨by rfl, ?_⟩) hHeld ?_ ?_
            rotate_left
            · (intro w' hw'_; try dsimp only at hw'_); go_split_ands; go_simp; with_reducible rfl
            rotate_left
            · simp only [Act.put, List.setIfInBounds_toArray, List.set_cons_zero, List.set_cons_succ]; rfl
            refine one_ (i := 1) (N := (some 103)) #[true, true, true, true, false, false, false, false, false, false, false, false, false] rfl rfl (by kernel_rfl) (by decide) (fun K hK => ?_)
            refine goes_ Try.func14 (by kernel_rfl) rfl #[.pointer (some ⟨pb, 0, none⟩)] (by rfl) rfl rfl (by simp [Act.eval]) ?_
            with_reducible refine (ck_now (HSX.out.below (below_drew1 (Below.refl _ _)))).mono ?_
            rintro e w21 ⟨rfl, rfl⟩
            refine ⟨_, rfl, ?_⟩
            refine hK.out _ _ hHeld (fun hHeld => ?_)
            clear hK
            refine norm_ (a' := ?_) ?_ ?_
            rotate_left
            · simp only [Act.put, List.setIfInBounds_toArray, List.set_cons_zero, List.set_cons_succ]; rfl
            refine pure_ (i := 4) (N := (some 106)) (v := ?_) (a' := ?_) #[true, true, true, true, true, false, false, false, false, false, false, false, false] rfl rfl (by kernel_rfl) (fun _ _ _ h => h) (Or.inl ⟨by rfl, ?_⟩) ?_ ?_
            rotate_left
            · intro w'; go_simp; with_reducible rfl
            rotate_left
            · simp only [Act.put, List.setIfInBounds_toArray, List.set_cons_zero, List.set_cons_succ]; rfl
            refine pure_ (i := 5) (N := (some 107)) (v := ?_) (a' := ?_) #[true, true, true, true, true, true, false, false, false, false, false, false, false] rfl rfl (by kernel_rfl) (fun _ _ _ h => h) (Or.inl ⟨by rfl, ?_⟩) ?_ ?_
            rotate_left
            · intro w'; go_simp; with_reducible rfl
            rotate_left
            · simp only [Act.put, List.setIfInBounds_toArray, List.set_cons_zero, List.set_cons_succ]; rfl
            refine pure_ (i := 6) (N := (some 108)) (v := ?_) (a' := ?_) #[true, true, true, true, true, true, true, false, false, false, false, false, false] rfl rfl (by kernel_rfl) (fun _ _ _ h => h) (Or.inl ⟨by rfl, ?_⟩) ?_ ?_
            rotate_left
            · intro w'; go_simp; with_reducible rfl
            rotate_left
            · simp only [Act.put, List.setIfInBounds_toArray, List.set_cons_zero, List.set_cons_succ]; rfl
            refine take_ (i := 8) (N := (some 110)) (v := ?_) (a' := ?_) #[true, true, true, true, true, true, true, false, true, false, false, false, false] rfl rfl (by kernel_rfl) (fun _ _ _ h => h) (Or.inl ⟨by rfl, ?_⟩) hHeld ?_ ?_
            rotate_left
            · (intro w' hw'_; try dsimp only at hw'_); go_split_ands; go_simp; with_reducible rfl
            rotate_left
            · simp only [Act.put, List.setIfInBounds_toArray, List.set_cons_zero, List.set_cons_succ]; rfl
            refine one_ (i := 7) (N := (some 109)) #[true, true, true, true, true, true, true, true, true, false, false, false, false] rfl rfl (by kernel_rfl) (by decide) (fun K hK => ?_)
            refine goes_ Try.func13 (by kernel_rfl) rfl #[.pointer (some ⟨pb, 0, none⟩)] (by rfl) rfl rfl (by simp [Act.eval]) ?_
            with_reducible refine (ck_asleep_n (HSX.out.below (below_drew1 (Below.refl _ _))) HL1.out ks HKS.out).mono ?_
            rintro e w22 ⟨A22, c22, rfl, hc22, hS⟩
            refine ⟨_, rfl, ?_⟩
            have HS22 := Aside0.mk hS
            have HC22 := Aside0.mk hc22
            have hb22 := box2 (St.pick (ts1 := [_, _, _]) hS)
            clear hS hc22 HSX
            refine hK.out _ _ ⟨hb22.1.1, hb22.1.2⟩ (fun hHeld => ?_)
            clear hK
            refine norm_ (a' := ?_) ?_ ?_
            rotate_left
            · simp only [Act.put, List.setIfInBounds_toArray, List.set_cons_zero, List.set_cons_succ]; rfl
            refine last_ (i := 9) (N := (some 111)) #[true, true, true, true, true, true, true, true, true, true, false, false, false] rfl rfl (by kernel_rfl) (by decide) (fun K hK => ?_)
            refine goes_ Try.func21 (by kernel_rfl) rfl #[.agg #[.int .i64 m, .slice A1 ks d1]] (by rfl) rfl rfl (by simp [Act.eval]) ?_
            with_reducible refine (ref_who_calls (St.pick (ts1 := [_, _]) HS22.out) (by have := HL1.out; omega)).mono ?_
            rintro e w23 ⟨v23, rfl, hS⟩
            refine ⟨_, rfl, ?_⟩
            have hv := row_nums hS (show (gs S1).length = ks by rw [gs_len]; exact HKS.out)
            obtain ⟨A23, c23, rfl, hc23, hS23⟩ := hv
            have HS23 := Aside0.mk hS23
            have HC23 := Aside0.mk hc23
            clear hS hS23 hc23 HS22
            refine hK.out _ _ ?_
            clear hK
            refine norm_ (a' := ?_) ?_ ?_
            rotate_left
            · simp only [Act.put, List.setIfInBounds_toArray, List.set_cons_zero, List.set_cons_succ]; rfl
            refine last_ (i := 10) (N := (some 112)) #[true, true, true, true, true, true, true, true, true, true, true, false, false] rfl rfl (by kernel_rfl) (by decide) (fun K hK => ?_)
            refine goes_ Try.func12 (by kernel_rfl) rfl #[.slice A22 ks c22, .slice A23 ks c23] (by rfl) rfl rfl (by simp [Act.eval]) ?_
            with_reducible refine (ints_n _ (nums_now (St.pick (ts1 := [_, _, _]) HS23.out) ks (by rw [gs_len]; exact HKS.out)) HC22.out (nums_now HS23.out ks (by rw [gs_len]; exact HKS.out)) HC23.out (by have := HL1.out; have := HKS.out; omega) true (decide_eq_true rfl)).mono ?_
            rintro e w24 ⟨rfl, hd⟩
            refine ⟨_, rfl, ?_⟩
            have HS24 := Aside0.mk (HS23.out.drawn hd)
            clear hd HS23
            refine hK.out _ _ ?_
            clear hK
            refine norm_ (a' := ?_) ?_ ?_
            rotate_left
            · simp only [Act.put, List.setIfInBounds_toArray, List.set_cons_zero, List.set_cons_succ]; rfl
            refine pure_ (i := 11) (N := (some 113)) (v := ?_) (a' := ?_) #[true, true, true, true, true, true, true, true, true, true, true, true, false] rfl rfl (by kernel_rfl) (fun _ _ _ h => h) (Or.inl ⟨by rfl, ?_⟩) ?_ ?_
            rotate_left
            · intro w'; go_simp; with_reducible rfl
            rotate_left
            · simp only [Act.put, List.setIfInBounds_toArray, List.set_cons_zero, List.set_cons_succ]; rfl
            refine pure_ (i := 12) (N := (some 114)) (v := ?_) (a' := ?_) #[true, true, true, true, true, true, true, true, true, true, true, true, true] rfl rfl (by kernel_rfl) (fun _ _ _ h => h) (Or.inl ⟨by rfl, ?_⟩) ?_ ?_
            rotate_left
            · intro w'; go_simp; with_reducible rfl
            rotate_left
            · simp only [Act.put, List.setIfInBounds_toArray, List.set_cons_zero, List.set_cons_succ]; rfl
            refine done_ (by kernel_rfl) ?_
            go_wp2
            go_roundg k1
            case measure => have := HK.out; omega
            case rel => exact ⟨i + 1, S1, m, q1, .slice A1 ks d1, by first | rfl | go_num, ⟨by have := HK.out; omega, by have := HIN.out; omega, by have := HIN.out; omega⟩, ⟨by have := HQS.out.2; have := HI.out; omega, by have := HQS.out.2; have := HI.out; omega, by have := HQS.out.2; have := HI.out; omega⟩, HM, ⟨HQS.out.1⟩, ⟨fix2 HS24.out.drop⟩⟩
          · by_cases hk1 : kd = 1
            · subst hk1
              obtain ⟨c1, e1⟩ : ∃ c1, tickC m n = c1 := ⟨_, rfl⟩
              obtain ⟨L, e2⟩ : ∃ L, tickW S m n = L := ⟨_, rfl⟩
              obtain ⟨S1, e3⟩ : ∃ S1, tickS S m n = S1 := ⟨_, rfl⟩
              obtain ⟨m1, e4⟩ : ∃ m1, tickN m n = m1 := ⟨_, rfl⟩
              obtain ⟨kw, e5⟩ : ∃ kw, L.length = kw := ⟨_, rfl⟩
              have HE := Aside0.mk (And.intro e1 (And.intro e2 (And.intro e3 (And.intro e4 e5))))
              have hsq := HQ.out.tick m n HM.out
              rw [e2, e3, e4, e5] at hsq
              have HQS := Aside0.mk hsq
              have HL1 := Aside0.mk (show S1.length ≤ 100000 by have := hsq.2.1; have := HLS.out; omega)
              clear e1 e2 e3 e4 e5 hsq hk0
              obtain ⟨ks, hks⟩ : ∃ ks, S1.length = ks := ⟨_, rfl⟩
              have HKS := Aside0.mk hks
              clear hks
              have hD0 := HSa.out
              obtain ⟨⟨x0, x1, x2⟩, -, -⟩ := box_cells3 hD0
              clear hD0
              go_wp2_with (first
                | (go_at_call 11; (with_reducible refine (ck_tick_to HSa.out.swap HLS.out n HM.out c1 L kw S1 m1 HE.out.1 HE.out.2.1 HE.out.2.2.2.2 HE.out.2.2.1 HE.out.2.2.2.1).mono ?_); rintro e w3 ⟨A3, c3, rfl, hc3, hS⟩; have hD := St.pick (ts1 := [_, _]) hS; obtain ⟨⟨x0, x1, x2⟩, -, -⟩ := box_cells3 hD; obtain ⟨⟨y0, y1⟩, ⟨fy0, fy1⟩, hyl⟩ := box2 (St.pick (ts1 := [_, _, _, _]) hS); clear hD; have HSb := Aside0.mk hS; have HC3 := Aside0.mk hc3; clear hS hc3 HSa)
                | (go_at_call 18; (with_reducible refine (ref_tick_calls (St.pick (ts1 := [_, _, _]) HSb.out) HQ.out.ris (by have := HLS.out; omega) HM.out n c1 L S1 m1 HE.out.1 HE.out.2.1 HE.out.2.2.1 HE.out.2.2.2.1).mono ?_); rintro e w4 ⟨v1, v2, rfl, hS0⟩; have hsl := hS0.slice; obtain ⟨A1, d1, hsl⟩ := hsl; rw [lk_len, HKS.out] at hsl; subst hsl; have hv := row_nums hS0.swap HE.out.2.2.2.2; obtain ⟨A5, c5, rfl, hc5, hS⟩ := hv; obtain ⟨⟨z0, z1⟩, ⟨fz0, fz1⟩, hzl⟩ := box2 (St.pick (ts1 := [_, _, _, _, _]) hS); have HC5 := Aside0.mk hc5; have hSc := (set2 (b0 := .int .i64 m1) (b1 := .slice A1 ks d1) (St.pick (ts1 := [_, _, _, _, _]) hS)).below (below_alloc (Below.refl _ _) (.cells #[.int .i64 m1, .slice A1 ks d1] 46)); simp only [List.cons_append, List.nil_append] at hSc; have HSc := Aside0.mk hSc; clear hSc; clear hS hS0 hc5 HSb x0 x1 x2 y0 y1 fy0 fy1 hyl)
                | (go_at_call 12; (with_reducible refine (ints_n _ (nums_now (St.pick (ts1 := [_, _, _, _]) HSc.out) kw HE.out.2.2.2.2) HC3.out (nums_now (St.pick (ts1 := [_]) HSc.out) kw HE.out.2.2.2.2) HC5.out (by have := HQS.out.2.2.1; have := HLS.out; omega) true (decide_eq_true rfl)).mono ?_); rintro e w5 ⟨rfl, hd⟩; have HSd := Aside0.mk (HSc.out.drawn hd); clear hd HSc z0 z1 fz0 fz1 hzl))
              have HSX := Aside0.mk (fix3 HSd.out)
              clear HSd
              refine start_ (n := 13) (S := fun w' => w'.cell? ⟨pb + 1, 0, none⟩ = some (.int .i64 m1) ∧ w'.cell? ⟨pb + 1, 1, none⟩ = some (.slice A1 ks d1)) (ds := [9, 10]) #[false, false, false, false, false, false, false, false, false, false, false, false, false] (by kernel_rfl) rfl rfl ?_ (fun hHeld => ?_)
              · exact ⟨(box2 (St.pick (ts1 := [_, _]) HSX.out)).1.1, (box2 (St.pick (ts1 := [_, _]) HSX.out)).1.2⟩
              refine pure_ (i := 0) (N := (some 102)) (v := ?_) (a' := ?_) #[true, false, false, false, false, false, false, false, false, false, false, false, false] rfl rfl (by kernel_rfl) (fun _ _ _ h => h) (Or.inl ⟨by rfl, ?_⟩) ?_ ?_
              rotate_left
              · intro w'; go_simp; with_reducible rfl
              rotate_left
              · simp only [Act.put, List.setIfInBounds_toArray, List.set_cons_zero, List.set_cons_succ]; rfl
              refine pure_ (i := 2) (N := (some 104)) (v := ?_) (a' := ?_) #[true, false, true, false, false, false, false, false, false, false, false, false, false] rfl rfl (by kernel_rfl) (fun _ _ _ h => h) (Or.inl ⟨by rfl, ?_⟩) ?_ ?_
              rotate_left
              · intro w'; go_simp; with_reducible rfl
              rotate_left
              · simp only [Act.put, List.setIfInBounds_toArray, List.set_cons_zero, List.set_cons_succ]; rfl
              refine take_ (i := 3) (N := (some 105)) (v := ?_) (a' := ?_) #[true, false, true, true, false, false, false, false, false, false, false, false, false] rfl rfl (by kernel_rfl) (fun _ _ _ h => h) (Or.inl ⟨by rfl, ?_⟩) hHeld ?_ ?_
              rotate_left
              · (intro w' hw'_; try dsimp only at hw'_); go_split_ands; go_simp; with_reducible rfl
              rotate_left
              · simp only [Act.put, List.setIfInBounds_toArray, List.set_cons_zero, List.set_cons_succ]; rfl
              refine one_ (i := 1) (N := (some 103)) #[true, true, true, true, false, false, false, false, false, false, false, false, false] rfl rfl (by kernel_rfl) (by decide) (fun K hK => ?_)
              refine goes_ Try.func14 (by kernel_rfl) rfl #[.pointer (some ⟨pb, 0, none⟩)] (by rfl) rfl rfl (by simp [Act.eval]) ?_
              with_reducible refine (ck_now (HSX.out.below (below_drew1 (Below.refl _ _)))).mono ?_
              rintro e w21 ⟨rfl, rfl⟩
              refine ⟨_, rfl, ?_⟩
              refine hK.out _ _ hHeld (fun hHeld => ?_)
              clear hK
              refine norm_ (a' := ?_) ?_ ?_
              rotate_left
              · simp only [Act.put, List.setIfInBounds_toArray, List.set_cons_zero, List.set_cons_succ]; rfl
              refine pure_ (i := 4) (N := (some 106)) (v := ?_) (a' := ?_) #[true, true, true, true, true, false, false, false, false, false, false, false, false] rfl rfl (by kernel_rfl) (fun _ _ _ h => h) (Or.inl ⟨by rfl, ?_⟩) ?_ ?_
              rotate_left
              · intro w'; go_simp; with_reducible rfl
              rotate_left
              · simp only [Act.put, List.setIfInBounds_toArray, List.set_cons_zero, List.set_cons_succ]; rfl
              refine pure_ (i := 5) (N := (some 107)) (v := ?_) (a' := ?_) #[true, true, true, true, true, true, false, false, false, false, false, false, false] rfl rfl (by kernel_rfl) (fun _ _ _ h => h) (Or.inl ⟨by rfl, ?_⟩) ?_ ?_
              rotate_left
              · intro w'; go_simp; with_reducible rfl
              rotate_left
              · simp only [Act.put, List.setIfInBounds_toArray, List.set_cons_zero, List.set_cons_succ]; rfl
              refine pure_ (i := 6) (N := (some 108)) (v := ?_) (a' := ?_) #[true, true, true, true, true, true, true, false, false, false, false, false, false] rfl rfl (by kernel_rfl) (fun _ _ _ h => h) (Or.inl ⟨by rfl, ?_⟩) ?_ ?_
              rotate_left
              · intro w'; go_simp; with_reducible rfl
              rotate_left
              · simp only [Act.put, List.setIfInBounds_toArray, List.set_cons_zero, List.set_cons_succ]; rfl
              refine take_ (i := 8) (N := (some 110)) (v := ?_) (a' := ?_) #[true, true, true, true, true, true, true, false, true, false, false, false, false] rfl rfl (by kernel_rfl) (fun _ _ _ h => h) (Or.inl ⟨by rfl, ?_⟩) hHeld ?_ ?_
              rotate_left
              · (intro w' hw'_; try dsimp only at hw'_); go_split_ands; go_simp; with_reducible rfl
              rotate_left
              · simp only [Act.put, List.setIfInBounds_toArray, List.set_cons_zero, List.set_cons_succ]; rfl
              refine one_ (i := 7) (N := (some 109)) #[true, true, true, true, true, true, true, true, true, false, false, false, false] rfl rfl (by kernel_rfl) (by decide) (fun K hK => ?_)
              refine goes_ Try.func13 (by kernel_rfl) rfl #[.pointer (some ⟨pb, 0, none⟩)] (by rfl) rfl rfl (by simp [Act.eval]) ?_
              with_reducible refine (ck_asleep_n (HSX.out.below (below_drew1 (Below.refl _ _))) HL1.out ks HKS.out).mono ?_
              rintro e w22 ⟨A22, c22, rfl, hc22, hS⟩
              refine ⟨_, rfl, ?_⟩
              have HS22 := Aside0.mk hS
              have HC22 := Aside0.mk hc22
              have hb22 := box2 (St.pick (ts1 := [_, _, _]) hS)
              clear hS hc22 HSX
              refine hK.out _ _ ⟨hb22.1.1, hb22.1.2⟩ (fun hHeld => ?_)
              clear hK
              refine norm_ (a' := ?_) ?_ ?_
              rotate_left
              · simp only [Act.put, List.setIfInBounds_toArray, List.set_cons_zero, List.set_cons_succ]; rfl
              refine last_ (i := 9) (N := (some 111)) #[true, true, true, true, true, true, true, true, true, true, false, false, false] rfl rfl (by kernel_rfl) (by decide) (fun K hK => ?_)
              refine goes_ Try.func21 (by kernel_rfl) rfl #[.agg #[.int .i64 m1, .slice A1 ks d1]] (by rfl) rfl rfl (by simp [Act.eval]) ?_
              with_reducible refine (ref_who_calls (St.pick (ts1 := [_, _]) HS22.out) (by have := HL1.out; omega)).mono ?_
              rintro e w23 ⟨v23, rfl, hS⟩
              refine ⟨_, rfl, ?_⟩
              have hv := row_nums hS (show (gs S1).length = ks by rw [gs_len]; exact HKS.out)
              obtain ⟨A23, c23, rfl, hc23, hS23⟩ := hv
              have HS23 := Aside0.mk hS23
              have HC23 := Aside0.mk hc23
              clear hS hS23 hc23 HS22
              refine hK.out _ _ ?_
              clear hK
              refine norm_ (a' := ?_) ?_ ?_
              rotate_left
              · simp only [Act.put, List.setIfInBounds_toArray, List.set_cons_zero, List.set_cons_succ]; rfl
              refine last_ (i := 10) (N := (some 112)) #[true, true, true, true, true, true, true, true, true, true, true, false, false] rfl rfl (by kernel_rfl) (by decide) (fun K hK => ?_)
              refine goes_ Try.func12 (by kernel_rfl) rfl #[.slice A22 ks c22, .slice A23 ks c23] (by rfl) rfl rfl (by simp [Act.eval]) ?_
              with_reducible refine (ints_n _ (nums_now (St.pick (ts1 := [_, _, _]) HS23.out) ks (by rw [gs_len]; exact HKS.out)) HC22.out (nums_now HS23.out ks (by rw [gs_len]; exact HKS.out)) HC23.out (by have := HL1.out; have := HKS.out; omega) true (decide_eq_true rfl)).mono ?_
              rintro e w24 ⟨rfl, hd⟩
              refine ⟨_, rfl, ?_⟩
              have HS24 := Aside0.mk (HS23.out.drawn hd)
              clear hd HS23
              refine hK.out _ _ ?_
              clear hK
              refine norm_ (a' := ?_) ?_ ?_
              rotate_left
              · simp only [Act.put, List.setIfInBounds_toArray, List.set_cons_zero, List.set_cons_succ]; rfl
              refine pure_ (i := 11) (N := (some 113)) (v := ?_) (a' := ?_) #[true, true, true, true, true, true, true, true, true, true, true, true, false] rfl rfl (by kernel_rfl) (fun _ _ _ h => h) (Or.inl ⟨by rfl, ?_⟩) ?_ ?_
              rotate_left
              · intro w'; go_simp; with_reducible rfl
              rotate_left
              · simp only [Act.put, List.setIfInBounds_toArray, List.set_cons_zero, List.set_cons_succ]; rfl
              refine pure_ (i := 12) (N := (some 114)) (v := ?_) (a' := ?_) #[true, true, true, true, true, true, true, true, true, true, true, true, true] rfl rfl (by kernel_rfl) (fun _ _ _ h => h) (Or.inl ⟨by rfl, ?_⟩) ?_ ?_
              rotate_left
              · intro w'; go_simp; with_reducible rfl
              rotate_left
              · simp only [Act.put, List.setIfInBounds_toArray, List.set_cons_zero, List.set_cons_succ]; rfl
              refine done_ (by kernel_rfl) ?_
              go_wp2
              go_roundg k1
              case measure => have := HK.out; omega
              case rel => exact ⟨i + 1, S1, m1, q, .slice A1 ks d1, by first | rfl | go_num, ⟨by have := HK.out; omega, by have := HIN.out; omega, by have := HIN.out; omega⟩, ⟨by have := HQS.out.2; have := HI.out; omega, by have := HI.out; omega, by have := HI.out; omega⟩, ⟨HQS.out.2.2.2⟩, ⟨HQS.out.1⟩, ⟨fix2 HS24.out.drop⟩⟩
            · have z0 : (kd == 0) = false := beq_eq_false_iff_ne.mpr hk0
              have z1 : (kd == 1) = false := beq_eq_false_iff_ne.mpr hk1
              obtain ⟨bw, e1⟩ : ∃ b, decide (g ∈ gs S) = b := ⟨_, rfl⟩
              obtain ⟨S1, e2⟩ : ∃ S1, dropG g S = S1 := ⟨_, rfl⟩
              have HE := Aside0.mk (And.intro e1 e2)
              have hsq := HQ.out.drop g
              rw [e2] at hsq
              have HQS := Aside0.mk hsq
              have HL1 := Aside0.mk (show S1.length ≤ 100000 by have := hsq.2; have := HLS.out; omega)
              clear e1 e2 hsq hk0 hk1
              obtain ⟨ks, hks⟩ : ∃ ks, S1.length = ks := ⟨_, rfl⟩
              have HKS := Aside0.mk hks
              clear hks
              have hD0 := HSa.out
              obtain ⟨⟨x0, x1, x2⟩, -, -⟩ := box_cells3 hD0
              clear hD0
              go_wp2_with (first
                | (go_at_call 19; (with_reducible refine (ck_wake HSa.out.swap HLS.out g).mono ?_); rintro e w3 ⟨rfl, hS⟩; rw [HE.out.1]; rw [HE.out.2] at hS; have hD := St.pick (ts1 := [_]) hS; obtain ⟨⟨x0, x1, x2⟩, -, -⟩ := box_cells3 hD; obtain ⟨⟨y0, y1⟩, ⟨fy0, fy1⟩, hyl⟩ := box2 (St.pick (ts1 := [_, _, _]) hS); clear hD; have HSb := Aside0.mk hS; clear hS HSa)
                | (go_at_call 20; (with_reducible refine (ref_wake_calls (St.pick (ts1 := [_, _]) HSb.out) (by have := HLS.out; omega) g bw S1 HE.out.1 HE.out.2).mono ?_); rintro e w4 ⟨v1, rfl, hS⟩; have hsl := hS.slice; obtain ⟨A1, d1, hsl⟩ := hsl; rw [lk_len, HKS.out] at hsl; subst hsl; obtain ⟨⟨z0, z1⟩, ⟨fz0, fz1⟩, hzl⟩ := box2 (St.pick (ts1 := [_, _, _]) hS); have hSc := (set2 (b0 := .int .i64 m) (b1 := .slice A1 ks d1) (St.pick (ts1 := [_, _, _]) hS)).below (below_alloc (Below.refl _ _) (.cells #[.int .i64 m, .slice A1 ks d1] 46)); simp only [List.cons_append, List.nil_append] at hSc; have HSc := Aside0.mk hSc; clear hSc; clear hS HSb x0 x1 x2 y0 y1 fy0 fy1 hyl))
              have HSX := Aside0.mk (fix1 HSc.out)
              clear HSc z0 z1 fz0 fz1 hzl
              refine start_ (n := 13) (S := fun w' => w'.cell? ⟨pb + 1, 0, none⟩ = some (.int .i64 m) ∧ w'.cell? ⟨pb + 1, 1, none⟩ = some (.slice A1 ks d1)) (ds := [9, 10]) #[false, false, false, false, false, false, false, false, false, false, false, false, false] (by kernel_rfl) rfl rfl ?_ (fun hHeld => ?_)
              · exact ⟨(box2 (St.pick (ts1 := [_, _]) HSX.out)).1.1, (box2 (St.pick (ts1 := [_, _]) HSX.out)).1.2⟩
              refine pure_ (i := 0) (N := (some 102)) (v := ?_) (a' := ?_) #[true, false, false, false, false, false, false, false, false, false, false, false, false] rfl rfl (by kernel_rfl) (fun _ _ _ h => h) (Or.inl ⟨by rfl, ?_⟩) ?_ ?_
              rotate_left
              · intro w'; go_simp; with_reducible rfl
              rotate_left
              · simp only [Act.put, List.setIfInBounds_toArray, List.set_cons_zero, List.set_cons_succ]; rfl
              refine pure_ (i := 2) (N := (some 104)) (v := ?_) (a' := ?_) #[true, false, true, false, false, false, false, false, false, false, false, false, false] rfl rfl (by kernel_rfl) (fun _ _ _ h => h) (Or.inl ⟨by rfl, ?_⟩) ?_ ?_
              rotate_left
              · intro w'; go_simp; with_reducible rfl
              rotate_left
              · simp only [Act.put, List.setIfInBounds_toArray, List.set_cons_zero, List.set_cons_succ]; rfl
              refine take_ (i := 3) (N := (some 105)) (v := ?_) (a' := ?_) #[true, false, true, true, false, false, false, false, false, false, false, false, false] rfl rfl (by kernel_rfl) (fun _ _ _ h => h) (Or.inl ⟨by rfl, ?_⟩) hHeld ?_ ?_
              rotate_left
              · (intro w' hw'_; try dsimp only at hw'_); go_split_ands; go_simp; with_reducible rfl
              rotate_left
              · simp only [Act.put, List.setIfInBounds_toArray, List.set_cons_zero, List.set_cons_succ]; rfl
              refine one_ (i := 1) (N := (some 103)) #[true, true, true, true, false, false, false, false, false, false, false, false, false] rfl rfl (by kernel_rfl) (by decide) (fun K hK => ?_)
              refine goes_ Try.func14 (by kernel_rfl) rfl #[.pointer (some ⟨pb, 0, none⟩)] (by rfl) rfl rfl (by simp [Act.eval]) ?_
              with_reducible refine (ck_now (HSX.out.below (below_drew1 (Below.refl _ _)))).mono ?_
              rintro e w21 ⟨rfl, rfl⟩
              refine ⟨_, rfl, ?_⟩
              refine hK.out _ _ hHeld (fun hHeld => ?_)
              clear hK
              refine norm_ (a' := ?_) ?_ ?_
              rotate_left
              · simp only [Act.put, List.setIfInBounds_toArray, List.set_cons_zero, List.set_cons_succ]; rfl
              refine pure_ (i := 4) (N := (some 106)) (v := ?_) (a' := ?_) #[true, true, true, true, true, false, false, false, false, false, false, false, false] rfl rfl (by kernel_rfl) (fun _ _ _ h => h) (Or.inl ⟨by rfl, ?_⟩) ?_ ?_
              rotate_left
              · intro w'; go_simp; with_reducible rfl
              rotate_left
              · simp only [Act.put, List.setIfInBounds_toArray, List.set_cons_zero, List.set_cons_succ]; rfl
              refine pure_ (i := 5) (N := (some 107)) (v := ?_) (a' := ?_) #[true, true, true, true, true, true, false, false, false, false, false, false, false] rfl rfl (by kernel_rfl) (fun _ _ _ h => h) (Or.inl ⟨by rfl, ?_⟩) ?_ ?_
              rotate_left
              · intro w'; go_simp; with_reducible rfl
              rotate_left
              · simp only [Act.put, List.setIfInBounds_toArray, List.set_cons_zero, List.set_cons_succ]; rfl
              refine pure_ (i := 6) (N := (some 108)) (v := ?_) (a' := ?_) #[true, true, true, true, true, true, true, false, false, false, false, false, false] rfl rfl (by kernel_rfl) (fun _ _ _ h => h) (Or.inl ⟨by rfl, ?_⟩) ?_ ?_
              rotate_left
              · intro w'; go_simp; with_reducible rfl
              rotate_left
              · simp only [Act.put, List.setIfInBounds_toArray, List.set_cons_zero, List.set_cons_succ]; rfl
              refine take_ (i := 8) (N := (some 110)) (v := ?_) (a' := ?_) #[true, true, true, true, true, true, true, false, true, false, false, false, false] rfl rfl (by kernel_rfl) (fun _ _ _ h => h) (Or.inl ⟨by rfl, ?_⟩) hHeld ?_ ?_
              rotate_left
              · (intro w' hw'_; try dsimp only at hw'_); go_split_ands; go_simp; with_reducible rfl
              rotate_left
              · simp only [Act.put, List.setIfInBounds_toArray, List.set_cons_zero, List.set_cons_succ]; rfl
              refine one_ (i := 7) (N := (some 109)) #[true, true, true, true, true, true, true, true, true, false, false, false, false] rfl rfl (by kernel_rfl) (by decide) (fun K hK => ?_)
              refine goes_ Try.func13 (by kernel_rfl) rfl #[.pointer (some ⟨pb, 0, none⟩)] (by rfl) rfl rfl (by simp [Act.eval]) ?_
              with_reducible refine (ck_asleep_n (HSX.out.below (below_drew1 (Below.refl _ _))) HL1.out ks HKS.out).mono ?_
              rintro e w22 ⟨A22, c22, rfl, hc22, hS⟩
              refine ⟨_, rfl, ?_⟩
              have HS22 := Aside0.mk hS
              have HC22 := Aside0.mk hc22
              have hb22 := box2 (St.pick (ts1 := [_, _, _]) hS)
              clear hS hc22 HSX
              refine hK.out _ _ ⟨hb22.1.1, hb22.1.2⟩ (fun hHeld => ?_)
              clear hK
              refine norm_ (a' := ?_) ?_ ?_
              rotate_left
              · simp only [Act.put, List.setIfInBounds_toArray, List.set_cons_zero, List.set_cons_succ]; rfl
              refine last_ (i := 9) (N := (some 111)) #[true, true, true, true, true, true, true, true, true, true, false, false, false] rfl rfl (by kernel_rfl) (by decide) (fun K hK => ?_)
              refine goes_ Try.func21 (by kernel_rfl) rfl #[.agg #[.int .i64 m, .slice A1 ks d1]] (by rfl) rfl rfl (by simp [Act.eval]) ?_
              with_reducible refine (ref_who_calls (St.pick (ts1 := [_, _]) HS22.out) (by have := HL1.out; omega)).mono ?_
              rintro e w23 ⟨v23, rfl, hS⟩
              refine ⟨_, rfl, ?_⟩
              have hv := row_nums hS (show (gs S1).length = ks by rw [gs_len]; exact HKS.out)
              obtain ⟨A23, c23, rfl, hc23, hS23⟩ := hv
              have HS23 := Aside0.mk hS23
              have HC23 := Aside0.mk hc23
              clear hS hS23 hc23 HS22
              refine hK.out _ _ ?_
              clear hK
              refine norm_ (a' := ?_) ?_ ?_
              rotate_left
              · simp only [Act.put, List.setIfInBounds_toArray, List.set_cons_zero, List.set_cons_succ]; rfl
              refine last_ (i := 10) (N := (some 112)) #[true, true, true, true, true, true, true, true, true, true, true, false, false] rfl rfl (by kernel_rfl) (by decide) (fun K hK => ?_)
              refine goes_ Try.func12 (by kernel_rfl) rfl #[.slice A22 ks c22, .slice A23 ks c23] (by rfl) rfl rfl (by simp [Act.eval]) ?_
              with_reducible refine (ints_n _ (nums_now (St.pick (ts1 := [_, _, _]) HS23.out) ks (by rw [gs_len]; exact HKS.out)) HC22.out (nums_now HS23.out ks (by rw [gs_len]; exact HKS.out)) HC23.out (by have := HL1.out; have := HKS.out; omega) true (decide_eq_true rfl)).mono ?_
              rintro e w24 ⟨rfl, hd⟩
              refine ⟨_, rfl, ?_⟩
              have HS24 := Aside0.mk (HS23.out.drawn hd)
              clear hd HS23
              refine hK.out _ _ ?_
              clear hK
              refine norm_ (a' := ?_) ?_ ?_
              rotate_left
              · simp only [Act.put, List.setIfInBounds_toArray, List.set_cons_zero, List.set_cons_succ]; rfl
              refine pure_ (i := 11) (N := (some 113)) (v := ?_) (a' := ?_) #[true, true, true, true, true, true, true, true, true, true, true, true, false] rfl rfl (by kernel_rfl) (fun _ _ _ h => h) (Or.inl ⟨by rfl, ?_⟩) ?_ ?_
              rotate_left
              · intro w'; go_simp; with_reducible rfl
              rotate_left
              · simp only [Act.put, List.setIfInBounds_toArray, List.set_cons_zero, List.set_cons_succ]; rfl
              refine pure_ (i := 12) (N := (some 114)) (v := ?_) (a' := ?_) #[true, true, true, true, true, true, true, true, true, true, true, true, true] rfl rfl (by kernel_rfl) (fun _ _ _ h => h) (Or.inl ⟨by rfl, ?_⟩) ?_ ?_
              rotate_left
              · intro w'; go_simp; with_reducible rfl
              rotate_left
              · simp only [Act.put, List.setIfInBounds_toArray, List.set_cons_zero, List.set_cons_succ]; rfl
              refine done_ (by kernel_rfl) ?_
              go_wp2
              go_roundg k1
              case measure => have := HK.out; omega
              case rel => exact ⟨i + 1, S1, m, q, .slice A1 ks d1, by first | rfl | go_num, ⟨by have := HK.out; omega, by have := HIN.out; omega, by have := HIN.out; omega⟩, ⟨by have := HQS.out.2; have := HI.out; omega, by have := HI.out; omega, by have := HI.out; omega⟩, HM, ⟨HQS.out.1⟩, ⟨fix2 HS24.out.drop⟩⟩
        · have d2 : decide ((i : Int) < 200) = false := decide_eq_false (by omega)
          have d2n : decide (i < 200) = false := decide_eq_false hin2
          clear hin hin2
          go_wp2
          go_ret
          exact ⟨rfl, HS.out.bel⟩
      · have d1 : decide ((i : Int) < (l.length : Int)) = false := decide_eq_false (by omega)
        have d1n : decide (i < l.length) = false := decide_eq_false hin
        clear hin
        go_wp2
        go_ret
        exact ⟨rfl, HS.out.bel⟩
end Go.Proofs.Ytldkdndgnojepaa.Heap
