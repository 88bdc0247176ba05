/- The law CostSums: in whatever order moves come they cost the same: all ways together, up to the greatest cost, and as many as there were. For every input. -/
import Derived.Test.YtomjjiloelmpkaaPCostSumsx3
namespace Go.Proofs.Ytomjjiloelmpkaa.Pure
open Go.RowKit Go.Proofs.Ytomjjiloelmpkaa.PCostSums Go.Proofs.YtomjjiloelmpkaaW.PrintWords Go.Proofs.YtomjjiloelmpkaaW.PrintLast Go.Proofs.YtomjjiloelmpkaaW.PrintMore
/-- What moves cost, together, and how many there are. -/
def tot : List Int → Int
  | [] => 0
  | x :: l => (if x < 1 then 0 else x) + tot l
def cnt : List Int → Int
  | [] => 0
  | x :: l => (if x < 1 then 0 else 1) + cnt l
theorem tot_append (a b : List Int) : tot (a ++ b) = tot a + tot b := by
  induction a with
  | nil => simp [tot]
  | cons x a ih => simp only [List.cons_append, tot, ih]; omega
theorem cnt_append (a b : List Int) : cnt (a ++ b) = cnt a + cnt b := by
  induction a with
  | nil => simp [cnt]
  | cons x a ih => simp only [List.cons_append, cnt, ih]; omega
theorem cnt_tot (l : List Int) : 0 ≤ cnt l ∧ cnt l ≤ tot l ∧ cnt l ≤ l.length := by
  induction l with
  | nil => simp [tot, cnt]
  | cons x l ih => simp only [tot, cnt, List.length_cons]; split <;> omega
theorem tot_reverse (l : List Int) : tot l.reverse = tot l := by
  induction l with
  | nil => rfl
  | cons x l ih => simp only [List.reverse_cons, tot_append, ih, tot]; omega
theorem cnt_reverse (l : List Int) : cnt l.reverse = cnt l := by
  induction l with
  | nil => rfl
  | cons x l ih => simp only [List.reverse_cons, cnt_append, ih, cnt]; omega
theorem tot_le (l : List Int) (h : ∀ x ∈ l, x ≤ 65535) : tot l ≤ 65535 * l.length := by
  induction l with
  | nil => simp [tot]
  | cons x l ih =>
    have := ih (fun y hy => h y (List.mem_cons_of_mem _ hy)); have := h x (List.mem_cons_self ..)
    simp only [tot, List.length_cons]; split <;> omega
theorem some_ok (a b : Int) (ha : 0 ≤ a) (ha' : a ≤ 65535) (hb : -4611686018427387904 ≤ b) (hb' : b ≤ 9223372036854775807) : cost_some.f a b = some (min (a + b) 65535) := by
  unfold cost_some.f wrap64
  split
  · congr 1; omega
  · congr 1; omega
theorem add_ok (f m b : Int) (hf : 0 ≤ f ∧ f ≤ 65535) (hm : 0 ≤ m ∧ m ≤ 65535) (hb' : b ≤ 9223372036854775807) :
    cost_Add.f f m b = some (min (f + (if b < 1 then 0 else b)) 65535, min (m + (if b < 1 then 0 else 1)) 65535) := by
  unfold cost_Add.f
  by_cases h : b < 1
  · rw [if_pos h, if_pos h, if_pos h]; congr 2 <;> omega
  · rw [if_neg h, if_neg h, if_neg h, some_ok f b hf.1 hf.2 (by omega) hb', some_ok m 1 hm.1 hm.2 (by omega) (by omega)]; rfl
theorem sum_loop (l : List Int) (hl : (l.length : Int) ≤ 1000000000) (h : ∀ x ∈ l, x ≤ 65535) (d : Nat) : ∀ (k i : Nat) (f m : Int), i + d = l.length → d < k → 0 ≤ f ∧ f ≤ 65535 → 0 ≤ m ∧ m ≤ 65535 →
    cost_Sum.l0 k l (l.length : Int) i f m = some (min (f + tot (l.drop i)) 65535, min (m + cnt (l.drop i)) 65535) := by
  induction d with
  | zero =>
    intro k i f m hi hk hf hm
    obtain ⟨k, rfl⟩ : ∃ m, k = m + 1 := ⟨k - 1, by omega⟩
    simp only [cost_Sum.l0]
    rw [if_neg (by omega), List.drop_of_length_le (by omega)]
    simp only [tot, cnt]; congr 2 <;> omega
  | succ d ih =>
    intro k i f m hi hk hf hm
    obtain ⟨k, rfl⟩ : ∃ m, k = m + 1 := ⟨k - 1, by omega⟩
    have hlt : i < l.length := by omega
    have hx := h _ (List.getElem_mem hlt)
    have hd : l.drop i = l[i] :: l.drop (i + 1) := List.drop_eq_getElem_cons hlt
    have hr : rd l (i : Int) = l[i] := by simp [rd, hlt]
    simp only [cost_Sum.l0]
    rw [if_pos (by omega), if_pos (by omega), if_pos (by omega), hr, add_ok f m _ hf hm (by omega)]
    simp only [Option.bind_some]
    have hw : wrap64 ((i : Int) + 1) = ((i + 1 : Nat) : Int) := by unfold wrap64; omega
    have hc := cnt_tot (l.drop (i + 1))
    rw [hw, ih k (i + 1) _ _ (by omega) (by omega) (by omega) (by omega), hd]
    simp only [tot, cnt]; congr 2 <;> split <;> omega
theorem sum_ok (l : List Int) (hl : (l.length : Int) ≤ 1000000000) (h : ∀ x ∈ l, x ≤ 65535) (k : Nat) (hk : l.length < k) :
    cost_Sum.f k l = some (min (tot l) 65535, min (cnt l) 65535) := by
  unfold cost_Sum.f
  have := sum_loop l hl h l.length k 0 0 0 (by omega) hk (by omega) (by omega)
  simpa using this
theorem wf_u16 {x : Int} (h : (Lit.int .u16 x).wf = true) : 0 ≤ x ∧ x ≤ 65535 := by
  have hmin : IntKind.u16.min = 0 := rfl
  have hmax : IntKind.u16.max = 65535 := rfl
  simp only [Lit.wf, Bool.and_eq_true, decide_eq_true_eq, hmin, hmax] at h; exact h
theorem wf_u8 {x : Int} (h : (Lit.int .u8 x).wf = true) : 0 ≤ x ∧ x ≤ 255 := by
  have hmin : IntKind.u8.min = 0 := rfl
  have hmax : IntKind.u8.max = 255 := rfl
  simp only [Lit.wf, Bool.and_eq_true, decide_eq_true_eq, hmin, hmax] at h; exact h
theorem wf_i64 {x : Int} (h : (Lit.int .i64 x).wf = true) : -9223372036854775808 ≤ x ∧ x ≤ 9223372036854775807 := by
  have hmin : IntKind.i64.min = -9223372036854775808 := rfl
  have hmax : IntKind.i64.max = 9223372036854775807 := rfl
  simp only [Lit.wf, Bool.and_eq_true, decide_eq_true_eq, hmin, hmax] at h; exact h
theorem take_snoc (l : List Int) (i : Nat) (h : i < l.length) : l.take (i + 1) = l.take i ++ [l[i]] := by
  rw [List.take_succ_eq_append_getElem h]
theorem rd_at (l : List Int) (i : Nat) (h : i < l.length) : rd l (i : Int) = l[i] := by simp [rd, h]
theorem wrap_id {x : Int} (h : -9223372036854775808 ≤ x ∧ x ≤ 9223372036854775807) : wrap64 x = x := by unfold wrap64; omega
theorem wrap_succ {i : Nat} (h : i < 4000000000000) : wrap64 ((i : Int) + 1) = ((i + 1 : Nat) : Int) := by unfold wrap64; omega
theorem tot_snoc (l : List Int) (i : Nat) (h : i < l.length) : tot (l.take (i + 1)) = tot (l.take i) + (if l[i] < 1 then 0 else l[i]) := by
  rw [take_snoc l i h, tot_append]; simp [tot]
theorem cnt_snoc (l : List Int) (i : Nat) (h : i < l.length) : cnt (l.take (i + 1)) = cnt (l.take i) + (if l[i] < 1 then 0 else 1) := by
  rw [take_snoc l i h, cnt_append]; simp [cnt]
theorem shown_ok (k : Nat) (hk : 4 ≤ k) : catafalquelaw14_shown.f k = some true := by
  unfold catafalquelaw14_shown.f
  rw [sum_ok [1, 0, 3] (by decide) (by decide) k (by simp; omega)]; rfl
theorem may_ok (a b : Int) (ha : 0 ≤ a ∧ a ≤ 65535) (hb : 0 ≤ b ∧ b ≤ 65535) (h : b ≤ a ∨ a = 65535) : cost_May.f a b = some true := by
  have e1 : cost_May.inB a = true := by unfold cost_May.inB; simpa using ha
  have e2 : cost_May.inB b = true := by unfold cost_May.inB; simpa using hb
  unfold cost_May.f
  rw [e1, e2]
  rcases h with h | h <;> simp [h]
/-- The same moves in another order: from behind, and from place c on. -/
def turned (l : List Int) (c : Nat) : List Int := l.reverse.drop c ++ l.reverse.take c
theorem turned_length (l : List Int) (c : Nat) (hc : c ≤ l.length) : (turned l c).length = l.length := by
  unfold turned; rw [List.length_append, List.length_drop, List.length_take, List.length_reverse]; omega
theorem turned_at (l : List Int) (c i : Nat) (hc : c < l.length) (hi : i < l.length) (h : i < (turned l c).length) (h' : l.length - 1 - (i + c) % l.length < l.length) : (turned l c)[i] = l[l.length - 1 - (i + c) % l.length] := by
  simp only [turned]
  by_cases hs : i + c < l.length
  · have e : (i + c) % l.length = i + c := Nat.mod_eq_of_lt hs
    rw [List.getElem_append_left (by rw [List.length_drop, List.length_reverse]; omega), List.getElem_drop, List.getElem_reverse]
    congr 1; omega
  · have e : (i + c) % l.length = i + c - l.length := by rw [Nat.mod_eq_sub_mod (by omega), Nat.mod_eq_of_lt (by omega)]
    rw [List.getElem_append_right (by rw [List.length_drop, List.length_reverse]; omega), List.getElem_take, List.getElem_reverse]
    congr 1; rw [List.length_drop, List.length_reverse]; omega
theorem turned_mem (l : List Int) (c : Nat) (x : Int) (h : x ∈ turned l c) : x ∈ l := by
  unfold turned at h; rw [List.mem_append] at h
  rcases h with h | h
  · exact List.mem_reverse.mp (List.mem_of_mem_drop h)
  · exact List.mem_reverse.mp (List.mem_of_mem_take h)
theorem turned_tot (l : List Int) (c : Nat) : tot (turned l c) = tot l ∧ cnt (turned l c) = cnt l := by
  unfold turned
  constructor
  · rw [tot_append, ← tot_reverse l]; conv => rhs; rw [← List.take_append_drop c l.reverse, tot_append]
    omega
  · rw [cnt_append, ← cnt_reverse l]; conv => rhs; rw [← List.take_append_drop c l.reverse, cnt_append]
    omega
theorem sums_end (l B : List Int) (hl : l.length ≤ 500) (h : ∀ x ∈ l, 0 ≤ x ∧ x ≤ 65535) (hB : ∀ x ∈ B, x ≤ 65535) (hBl : B.length = l.length) (ht : tot B = tot l) (hc : cnt B = cnt l) (c : Int) (k i : Nat) (hi : ¬ (i : Int) < (l.length : Int)) (hk : 501 < k) :
    catafalquelaw14_CostSums.l0 (k + 1) l true c l B (tot l) (cnt l) i = some true := by
  have g := cnt_tot l
  simp only [catafalquelaw14_CostSums.l0]
  rw [if_neg hi, sum_ok l (by omega) (fun x hx => (h x hx).2) k (by omega), sum_ok B (by omega) hB k (by omega), ht, hc]
  simp only [Option.bind_some]
  rw [if_pos trivial, if_pos (by simp), if_pos (by unfold mn; omega), if_pos (by omega), may_ok _ _ (by omega) (by omega) (by omega)]
  rfl
theorem place_ok (n r : Nat) (hr : r < n) (hn : n ≤ 500) : wrap64 (wrap64 ((n : Int) - 1) - (r : Int)) = ((n - 1 - r : Nat) : Int) := by
  rw [wrap_id (x := (n : Int) - 1) (by omega), wrap_id (by omega)]; omega
theorem sums_step (l : List Int) (c k i : Nat) (hlt : i < l.length) (hl : l.length ≤ 500) (hc : c < l.length) (h : ∀ x ∈ l, 0 ≤ x ∧ x ≤ 65535) :
    catafalquelaw14_CostSums.l0 (k + 1) l true c (l.take i) ((turned l c).take i) (tot (l.take i)) (cnt (l.take i)) i
      = catafalquelaw14_CostSums.l0 k l true c (l.take (i + 1)) ((turned l c).take (i + 1)) (tot (l.take (i + 1))) (cnt (l.take (i + 1))) ((i + 1 : Nat) : Int) := by
  have hm : (i + c) % l.length < l.length := Nat.mod_lt _ (by omega)
  have em : Int.tmod (wrap64 ((i : Int) + (c : Int))) (l.length : Int) = (((i + c) % l.length : Nat) : Int) := by
    rw [wrap_id (by omega), Int.tmod_eq_emod_of_nonneg (by omega), Int.natCast_emod]; rfl
  have hj : l.length - 1 - (i + c) % l.length < l.length := Nat.lt_of_le_of_lt (Nat.sub_le _ _) (by omega)
  have tl := turned_length l c (by omega)
  have et := turned_at l c i hc hlt (by omega) hj
  have ei := place_ok l.length _ hm hl
  simp only [catafalquelaw14_CostSums.l0]
  rw [em]
  generalize (i + c) % l.length = r at hm hj et ei ⊢
  rw [ei, rd_at l i hlt, rd_at l _ hj]
  have hy := h _ (List.getElem_mem hj)
  generalize l[l.length - 1 - r] = y at et hy ⊢
  have hr0 : (0 : Int) ≤ ((l.length - 1 - r : Nat) : Int) := Int.natCast_nonneg _
  have hr1 : ((l.length - 1 - r : Nat) : Int) < (l.length : Int) := by omega
  generalize ((l.length - 1 - r : Nat) : Int) = q at hr0 hr1 ⊢
  clear hj ei em
  have hx := h _ (List.getElem_mem hlt)
  have t1 : (l.take i).length = i := List.length_take_of_le (by omega)
  have t2 : ((turned l c).take i).length = i := List.length_take_of_le (by omega)
  have b1 := tot_le (l.take i) (fun x hx => (h x (List.mem_of_mem_take hx)).2)
  have b2 := cnt_tot (l.take i)
  rw [if_pos (by omega), if_pos (by omega), if_pos (by omega), wrap_id (x := l[i]) (by omega), wrap_id (x := y) (by omega)]
  simp only [Option.bind_some]
  rw [if_neg (by omega), if_pos hr0, if_pos hr1, if_pos (by omega)]
  rw [wrap_succ (by omega), wrap_id (x := tot (l.take i) + l[i]) (by omega), wrap_id (x := cnt (l.take i) + 1) (by omega), ← et, ← take_snoc l i hlt, ← take_snoc (turned l c) i (by omega), tot_snoc l i hlt, cnt_snoc l i hlt]
  by_cases h1 : l[i] > 0
  · rw [if_pos h1, if_neg (by omega), if_neg (by omega)]
  · rw [if_neg h1, if_pos (by omega), if_pos (by omega)]
    have e0 : l[i] = 0 := by omega
    rw [e0, Int.add_zero, Int.add_zero]
theorem sums_loop (l : List Int) (c : Nat) (hl : l.length ≤ 500) (hc : c < l.length) (h : ∀ x ∈ l, 0 ≤ x ∧ x ≤ 65535) (d : Nat) : ∀ (k i : Nat), i + d = l.length → d + 502 < k →
    catafalquelaw14_CostSums.l0 k l true c (l.take i) ((turned l c).take i) (tot (l.take i)) (cnt (l.take i)) i = some true := by
  induction d with
  | zero =>
    intro k i hi hk
    obtain ⟨k, rfl⟩ : ∃ m, k = m + 1 := ⟨k - 1, by omega⟩
    have tl := turned_length l c (by omega)
    rw [List.take_of_length_le (by omega), List.take_of_length_le (by omega)]
    exact sums_end l (turned l c) hl h (fun x hx => (h x (turned_mem l c x hx)).2) tl (turned_tot l c).1 (turned_tot l c).2 c k i (by omega) (by omega)
  | succ d ih =>
    intro k i hi hk
    obtain ⟨k, rfl⟩ : ∃ m, k = m + 1 := ⟨k - 1, by omega⟩
    rw [sums_step l c k i (by omega) hl hc h]
    exact ih k (i + 1) (by omega) (by omega)
theorem sums_all (l : List Int) (a1 : Int) (h : ∀ x ∈ l, 0 ≤ x ∧ x ≤ 65535) (h1 : 0 ≤ a1 ∧ a1 ≤ 255) (k : Nat) (hk : 1100 ≤ k) : catafalquelaw14_CostSums.f k l a1 = some true := by
  obtain ⟨k, rfl⟩ : ∃ m, k = m + 1 := ⟨k - 1, by omega⟩
  unfold catafalquelaw14_CostSums.f
  rw [shown_ok _ (by omega)]
  simp only [Option.bind_some]
  by_cases h3 : (l.length : Int) > 500
  · rw [if_pos h3]; simp only [catafalquelaw14_CostSums.j0]; rfl
  · rw [if_neg h3]; simp only [catafalquelaw14_CostSums.j0]
    by_cases h4 : (l.length : Int) = 0
    · rw [if_pos (by simpa using h4)]
    · rw [if_neg (by simpa using h4), if_neg h4]
      have ht : Int.tmod (wrap64 a1) (l.length : Int) = a1 % (l.length : Int) := by rw [wrap_id (by omega)]; exact Int.tmod_eq_emod_of_nonneg h1.1
      have b1 : 0 ≤ a1 % (l.length : Int) := Int.emod_nonneg _ h4
      have b2 : a1 % (l.length : Int) < (l.length : Int) := Int.emod_lt_of_pos _ (by omega)
      rw [ht]
      generalize a1 % (l.length : Int) = c at b1 b2 ⊢
      obtain ⟨c, rfl⟩ := Int.eq_ofNat_of_zero_le b1
      have := sums_loop l c (by omega) (by omega) h l.length k 0 (by omega) (by omega)
      simpa [tot, cnt] using this
theorem CostSums : catafalquelaw14_CostSums.Pure := by
  intro l a1 _ _ hl h1
  exact ⟨1100, sums_all l a1 (fun x hx => wf_u16 (hl x hx)) (wf_u8 h1) 1100 (Nat.le_refl _)⟩
end Go.Proofs.Ytomjjiloelmpkaa.Pure
