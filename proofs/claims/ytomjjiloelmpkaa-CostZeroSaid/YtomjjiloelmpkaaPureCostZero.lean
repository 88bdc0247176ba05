/- The law CostZero: moves of nowhere cost nothing, wherever they stand. For every input. -/
import Derived.Test.YtomjjiloelmpkaaPCostZerox2
namespace Go.Proofs.Ytomjjiloelmpkaa.Pure
open Go.RowKit Go.Proofs.Ytomjjiloelmpkaa.PCostZero Go.Proofs.YtomjjiloelmpkaaW.PrintWords Go.Proofs.YtomjjiloelmpkaaW.PrintLast Go.Proofs.YtomjjiloelmpkaaW.PrintMore
/-- What moves cost, together, and how many there are. -/
def tot : List Int → Int
  | [] => 0
  | x :: l => (if x < 1 then 0 else x) + tot l
def cnt : List Int → Int
  | [] => 0
  | x :: l => (if x < 1 then 0 else 1) + cnt l
theorem tot_append (a b : List Int) : tot (a ++ b) = tot a + tot b := by
  induction a with
  | nil => simp [tot]
  | cons x a ih => simp only [List.cons_append, tot, ih]; omega
theorem cnt_append (a b : List Int) : cnt (a ++ b) = cnt a + cnt b := by
  induction a with
  | nil => simp [cnt]
  | cons x a ih => simp only [List.cons_append, cnt, ih]; omega
theorem cnt_tot (l : List Int) : 0 ≤ cnt l ∧ cnt l ≤ tot l ∧ cnt l ≤ l.length := by
  induction l with
  | nil => simp [tot, cnt]
  | cons x l ih => simp only [tot, cnt, List.length_cons]; split <;> omega
theorem tot_reverse (l : List Int) : tot l.reverse = tot l := by
  induction l with
  | nil => rfl
  | cons x l ih => simp only [List.reverse_cons, tot_append, ih, tot]; omega
theorem cnt_reverse (l : List Int) : cnt l.reverse = cnt l := by
  induction l with
  | nil => rfl
  | cons x l ih => simp only [List.reverse_cons, cnt_append, ih, cnt]; omega
theorem tot_le (l : List Int) (h : ∀ x ∈ l, x ≤ 65535) : tot l ≤ 65535 * l.length := by
  induction l with
  | nil => simp [tot]
  | cons x l ih =>
    have := ih (fun y hy => h y (List.mem_cons_of_mem _ hy)); have := h x (List.mem_cons_self ..)
    simp only [tot, List.length_cons]; split <;> omega
theorem some_ok (a b : Int) (ha : 0 ≤ a) (ha' : a ≤ 65535) (hb : -4611686018427387904 ≤ b) (hb' : b ≤ 9223372036854775807) : cost_some.f a b = some (min (a + b) 65535) := by
  unfold cost_some.f wrap64
  split
  · congr 1; omega
  · congr 1; omega
theorem add_ok (f m b : Int) (hf : 0 ≤ f ∧ f ≤ 65535) (hm : 0 ≤ m ∧ m ≤ 65535) (hb' : b ≤ 9223372036854775807) :
    cost_Add.f f m b = some (min (f + (if b < 1 then 0 else b)) 65535, min (m + (if b < 1 then 0 else 1)) 65535) := by
  unfold cost_Add.f
  by_cases h : b < 1
  · rw [if_pos h, if_pos h, if_pos h]; congr 2 <;> omega
  · rw [if_neg h, if_neg h, if_neg h, some_ok f b hf.1 hf.2 (by omega) hb', some_ok m 1 hm.1 hm.2 (by omega) (by omega)]; rfl
theorem sum_loop (l : List Int) (hl : (l.length : Int) ≤ 1000000000) (h : ∀ x ∈ l, x ≤ 65535) (d : Nat) : ∀ (k i : Nat) (f m : Int), i + d = l.length → d < k → 0 ≤ f ∧ f ≤ 65535 → 0 ≤ m ∧ m ≤ 65535 →
    cost_Sum.l0 k l (l.length : Int) i f m = some (min (f + tot (l.drop i)) 65535, min (m + cnt (l.drop i)) 65535) := by
  induction d with
  | zero =>
    intro k i f m hi hk hf hm
    obtain ⟨k, rfl⟩ : ∃ m, k = m + 1 := ⟨k - 1, by omega⟩
    simp only [cost_Sum.l0]
    rw [if_neg (by omega), List.drop_of_length_le (by omega)]
    simp only [tot, cnt]; congr 2 <;> omega
  | succ d ih =>
    intro k i f m hi hk hf hm
    obtain ⟨k, rfl⟩ : ∃ m, k = m + 1 := ⟨k - 1, by omega⟩
    have hlt : i < l.length := by omega
    have hx := h _ (List.getElem_mem hlt)
    have hd : l.drop i = l[i] :: l.drop (i + 1) := List.drop_eq_getElem_cons hlt
    have hr : rd l (i : Int) = l[i] := by simp [rd, hlt]
    simp only [cost_Sum.l0]
    rw [if_pos (by omega), if_pos (by omega), if_pos (by omega), hr, add_ok f m _ hf hm (by omega)]
    simp only [Option.bind_some]
    have hw : wrap64 ((i : Int) + 1) = ((i + 1 : Nat) : Int) := by unfold wrap64; omega
    have hc := cnt_tot (l.drop (i + 1))
    rw [hw, ih k (i + 1) _ _ (by omega) (by omega) (by omega) (by omega), hd]
    simp only [tot, cnt]; congr 2 <;> split <;> omega
theorem sum_ok (l : List Int) (hl : (l.length : Int) ≤ 1000000000) (h : ∀ x ∈ l, x ≤ 65535) (k : Nat) (hk : l.length < k) :
    cost_Sum.f k l = some (min (tot l) 65535, min (cnt l) 65535) := by
  unfold cost_Sum.f
  have := sum_loop l hl h l.length k 0 0 0 (by omega) hk (by omega) (by omega)
  simpa using this
theorem wf_u16 {x : Int} (h : (Lit.int .u16 x).wf = true) : 0 ≤ x ∧ x ≤ 65535 := by
  have hmin : IntKind.u16.min = 0 := rfl
  have hmax : IntKind.u16.max = 65535 := rfl
  simp only [Lit.wf, Bool.and_eq_true, decide_eq_true_eq, hmin, hmax] at h; exact h
theorem wf_u8 {x : Int} (h : (Lit.int .u8 x).wf = true) : 0 ≤ x ∧ x ≤ 255 := by
  have hmin : IntKind.u8.min = 0 := rfl
  have hmax : IntKind.u8.max = 255 := rfl
  simp only [Lit.wf, Bool.and_eq_true, decide_eq_true_eq, hmin, hmax] at h; exact h
theorem wf_i64 {x : Int} (h : (Lit.int .i64 x).wf = true) : -9223372036854775808 ≤ x ∧ x ≤ 9223372036854775807 := by
  have hmin : IntKind.i64.min = -9223372036854775808 := rfl
  have hmax : IntKind.i64.max = 9223372036854775807 := rfl
  simp only [Lit.wf, Bool.and_eq_true, decide_eq_true_eq, hmin, hmax] at h; exact h
theorem take_snoc (l : List Int) (i : Nat) (h : i < l.length) : l.take (i + 1) = l.take i ++ [l[i]] := by
  rw [List.take_succ_eq_append_getElem h]
theorem rd_at (l : List Int) (i : Nat) (h : i < l.length) : rd l (i : Int) = l[i] := by simp [rd, h]
theorem wrap_id {x : Int} (h : -9223372036854775808 ≤ x ∧ x ≤ 9223372036854775807) : wrap64 x = x := by unfold wrap64; omega
theorem wrap_succ {i : Nat} (h : i < 4000000000000) : wrap64 ((i : Int) + 1) = ((i + 1 : Nat) : Int) := by unfold wrap64; omega
theorem tot_snoc (l : List Int) (i : Nat) (h : i < l.length) : tot (l.take (i + 1)) = tot (l.take i) + (if l[i] < 1 then 0 else l[i]) := by
  rw [take_snoc l i h, tot_append]; simp [tot]
theorem cnt_snoc (l : List Int) (i : Nat) (h : i < l.length) : cnt (l.take (i + 1)) = cnt (l.take i) + (if l[i] < 1 then 0 else 1) := by
  rw [take_snoc l i h, cnt_append]; simp [cnt]
theorem shown_ok (k : Nat) (hk : 4 ≤ k) : catafalquelaw14_shown.f k = some true := by
  unfold catafalquelaw14_shown.f
  rw [sum_ok [1, 0, 3] (by decide) (by decide) k (by simp; omega)]; rfl
theorem zero_at (l : List Int) (nn kk : Int) (k i : Nat) (A B : List Int) (hlt : i < l.length) (hi : i < 1000) (hx : 0 ≤ l[i] ∧ l[i] ≤ 65535) (hA : A.length < 1000) (hB : B.length < 1000) (hk : (i : Int) = kk) :
    catafalquelaw14_CostZero.l0 (k + 1) l nn true A B kk i = catafalquelaw14_CostZero.l0 k l nn true (A ++ [l[i]]) (B ++ [mn nn 0] ++ [l[i]]) kk ((i + 1 : Nat) : Int) := by
  have hz : B.length + 1 < 17592186044416 := by omega
  simp only [catafalquelaw14_CostZero.l0]
  rw [if_pos (by omega), if_pos hk, if_pos (by omega), rd_at l i hlt, wrap_id (by omega), wrap_succ (by omega)]
  simp only [Option.bind_some]
  rw [if_pos (by omega), if_pos (by omega), if_pos (by rw [List.length_append]; exact hz)]
theorem zero_off (l : List Int) (nn kk : Int) (k i : Nat) (A B : List Int) (hlt : i < l.length) (hi : i < 1000) (hx : 0 ≤ l[i] ∧ l[i] ≤ 65535) (hA : A.length < 1000) (hB : B.length < 1000) (hk : ¬ (i : Int) = kk) :
    catafalquelaw14_CostZero.l0 (k + 1) l nn true A B kk i = catafalquelaw14_CostZero.l0 k l nn true (A ++ [l[i]]) (B ++ [l[i]]) kk ((i + 1 : Nat) : Int) := by
  simp only [catafalquelaw14_CostZero.l0]
  rw [if_pos (by omega), if_neg hk, if_pos (by omega), rd_at l i hlt, wrap_id (by omega), wrap_succ (by omega)]
  rw [if_pos (by omega), if_pos (by omega)]
theorem zero_loop (l : List Int) (hl : l.length ≤ 300) (h : ∀ x ∈ l, 0 ≤ x ∧ x ≤ 65535) (nn kk : Int) (d : Nat) : ∀ (k i : Nat) (B : List Int), i + d = l.length → d + 303 < k →
    tot B = tot (l.take i) → cnt B = cnt (l.take i) → B.length ≤ i + 1 → ((i : Int) ≤ kk → B.length ≤ i) → (∀ x ∈ B, x ≤ 65535) →
    catafalquelaw14_CostZero.l0 k l nn true (l.take i) B kk i = some true := by
  induction d with
  | zero =>
    intro k i B hi hk ht hc hb _ hB
    obtain ⟨k, rfl⟩ : ∃ m, k = m + 1 := ⟨k - 1, by omega⟩
    simp only [catafalquelaw14_CostZero.l0]
    rw [if_neg (by omega)]
    have e : l.take i = l := List.take_of_length_le (by omega)
    rw [if_pos trivial, sum_ok (l.take i) (by rw [e]; omega) (by rw [e]; exact fun x hx => (h x hx).2) k (by rw [e]; omega)]
    simp only [Option.bind_some]
    rw [sum_ok B (by omega) hB k (by omega), ht, hc]
    simp only [Option.bind_some]
    rw [if_pos (by simp), sum_ok [] (by decide) (by simp) k (by simp; omega)]
    rfl
  | succ d ih =>
    intro k i B hi hk ht hc hb hb' hB
    obtain ⟨k, rfl⟩ : ∃ m, k = m + 1 := ⟨k - 1, by omega⟩
    have hlt : i < l.length := by omega
    have hx := h _ (List.getElem_mem hlt)
    have ht' : (l.take i).length = i := List.length_take_of_le (by omega)
    by_cases hk' : (i : Int) = kk
    · have hm : mn nn 0 ≤ 0 := by unfold mn; omega
      rw [zero_at l nn kk k i _ B hlt (by omega) hx (by omega) (by omega) hk', ← take_snoc l i hlt]
      refine ih k (i + 1) _ (by omega) (by omega) ?_ ?_ ?_ ?_ ?_
      · rw [tot_snoc l i hlt, tot_append, tot_append, ht]; simp only [tot]; rw [if_pos (by omega)]; omega
      · rw [cnt_snoc l i hlt, cnt_append, cnt_append, hc]; simp only [cnt]; rw [if_pos (by omega)]; omega
      · rw [List.length_append, List.length_append]; simp only [List.length_singleton]; omega
      · intro hh; omega
      · intro x hx'; simp only [List.mem_append, List.mem_singleton] at hx'
        rcases hx' with (hx' | rfl) | rfl
        · exact hB x hx'
        · omega
        · omega
    · rw [zero_off l nn kk k i _ B hlt (by omega) hx (by omega) (by omega) hk', ← take_snoc l i hlt]
      refine ih k (i + 1) _ (by omega) (by omega) ?_ ?_ ?_ ?_ ?_
      · rw [tot_snoc l i hlt, tot_append, ht]; simp only [tot]; omega
      · rw [cnt_snoc l i hlt, cnt_append, hc]; simp only [cnt]; omega
      · rw [List.length_append, List.length_singleton]; omega
      · intro hh; rw [List.length_append, List.length_singleton]; omega
      · intro x hx'; simp only [List.mem_append, List.mem_singleton] at hx'
        rcases hx' with hx' | rfl
        · exact hB x hx'
        · omega
theorem CostZero : catafalquelaw14_CostZero.Pure := by
  intro l a1 a2 _ _ hl h1 _
  refine ⟨1000, ?_⟩
  unfold catafalquelaw14_CostZero.f
  rw [shown_ok _ (by decide)]
  simp only [Option.bind_some]
  by_cases h3 : (l.length : Int) > 300
  · rw [if_pos h3]
  · rw [if_neg h3, if_neg (by unfold wrap64; omega)]
    have := zero_loop l (by omega) (fun x hx => wf_u16 (hl x hx)) a2 (Int.tmod (wrap64 a1) (wrap64 ((l.length : Int) + 1))) l.length 1000 0 [] (by omega) (by omega) (by simp) (by simp) (by simp) (by simp) (by simp)
    simpa using this
end Go.Proofs.Ytomjjiloelmpkaa.Pure
