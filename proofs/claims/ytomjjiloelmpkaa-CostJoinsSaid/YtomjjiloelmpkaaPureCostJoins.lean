/- The law CostJoins: moves parted anywhere cost together what they cost at once; costs never fall, and stay such as may be. For every input. -/
import Derived.Test.YtomjjiloelmpkaaPCostJoinsx3
namespace Go.Proofs.Ytomjjiloelmpkaa.Pure
open Go.RowKit Go.Proofs.Ytomjjiloelmpkaa.PCostJoins Go.Proofs.YtomjjiloelmpkaaW.PrintWords Go.Proofs.YtomjjiloelmpkaaW.PrintLast Go.Proofs.YtomjjiloelmpkaaW.PrintMore
/-- What moves cost, together, and how many there are. -/
def tot : List Int → Int
  | [] => 0
  | x :: l => (if x < 1 then 0 else x) + tot l
def cnt : List Int → Int
  | [] => 0
  | x :: l => (if x < 1 then 0 else 1) + cnt l
theorem tot_append (a b : List Int) : tot (a ++ b) = tot a + tot b := by
  induction a with
  | nil => simp [tot]
  | cons x a ih => simp only [List.cons_append, tot, ih]; omega
theorem cnt_append (a b : List Int) : cnt (a ++ b) = cnt a + cnt b := by
  induction a with
  | nil => simp [cnt]
  | cons x a ih => simp only [List.cons_append, cnt, ih]; omega
theorem cnt_tot (l : List Int) : 0 ≤ cnt l ∧ cnt l ≤ tot l ∧ cnt l ≤ l.length := by
  induction l with
  | nil => simp [tot, cnt]
  | cons x l ih => simp only [tot, cnt, List.length_cons]; split <;> omega
theorem tot_reverse (l : List Int) : tot l.reverse = tot l := by
  induction l with
  | nil => rfl
  | cons x l ih => simp only [List.reverse_cons, tot_append, ih, tot]; omega
theorem cnt_reverse (l : List Int) : cnt l.reverse = cnt l := by
  induction l with
  | nil => rfl
  | cons x l ih => simp only [List.reverse_cons, cnt_append, ih, cnt]; omega
theorem tot_le (l : List Int) (h : ∀ x ∈ l, x ≤ 65535) : tot l ≤ 65535 * l.length := by
  induction l with
  | nil => simp [tot]
  | cons x l ih =>
    have := ih (fun y hy => h y (List.mem_cons_of_mem _ hy)); have := h x (List.mem_cons_self ..)
    simp only [tot, List.length_cons]; split <;> omega
theorem some_ok (a b : Int) (ha : 0 ≤ a) (ha' : a ≤ 65535) (hb : -4611686018427387904 ≤ b) (hb' : b ≤ 9223372036854775807) : cost_some.f a b = some (min (a + b) 65535) := by
  unfold cost_some.f wrap64
  split
  · congr 1; omega
  · congr 1; omega
theorem add_ok (f m b : Int) (hf : 0 ≤ f ∧ f ≤ 65535) (hm : 0 ≤ m ∧ m ≤ 65535) (hb' : b ≤ 9223372036854775807) :
    cost_Add.f f m b = some (min (f + (if b < 1 then 0 else b)) 65535, min (m + (if b < 1 then 0 else 1)) 65535) := by
  unfold cost_Add.f
  by_cases h : b < 1
  · rw [if_pos h, if_pos h, if_pos h]; congr 2 <;> omega
  · rw [if_neg h, if_neg h, if_neg h, some_ok f b hf.1 hf.2 (by omega) hb', some_ok m 1 hm.1 hm.2 (by omega) (by omega)]; rfl
theorem sum_loop (l : List Int) (hl : (l.length : Int) ≤ 1000000000) (h : ∀ x ∈ l, x ≤ 65535) (d : Nat) : ∀ (k i : Nat) (f m : Int), i + d = l.length → d < k → 0 ≤ f ∧ f ≤ 65535 → 0 ≤ m ∧ m ≤ 65535 →
    cost_Sum.l0 k l (l.length : Int) i f m = some (min (f + tot (l.drop i)) 65535, min (m + cnt (l.drop i)) 65535) := by
  induction d with
  | zero =>
    intro k i f m hi hk hf hm
    obtain ⟨k, rfl⟩ : ∃ m, k = m + 1 := ⟨k - 1, by omega⟩
    simp only [cost_Sum.l0]
    rw [if_neg (by omega), List.drop_of_length_le (by omega)]
    simp only [tot, cnt]; congr 2 <;> omega
  | succ d ih =>
    intro k i f m hi hk hf hm
    obtain ⟨k, rfl⟩ : ∃ m, k = m + 1 := ⟨k - 1, by omega⟩
    have hlt : i < l.length := by omega
    have hx := h _ (List.getElem_mem hlt)
    have hd : l.drop i = l[i] :: l.drop (i + 1) := List.drop_eq_getElem_cons hlt
    have hr : rd l (i : Int) = l[i] := by simp [rd, hlt]
    simp only [cost_Sum.l0]
    rw [if_pos (by omega), if_pos (by omega), if_pos (by omega), hr, add_ok f m _ hf hm (by omega)]
    simp only [Option.bind_some]
    have hw : wrap64 ((i : Int) + 1) = ((i + 1 : Nat) : Int) := by unfold wrap64; omega
    have hc := cnt_tot (l.drop (i + 1))
    rw [hw, ih k (i + 1) _ _ (by omega) (by omega) (by omega) (by omega), hd]
    simp only [tot, cnt]; congr 2 <;> split <;> omega
theorem sum_ok (l : List Int) (hl : (l.length : Int) ≤ 1000000000) (h : ∀ x ∈ l, x ≤ 65535) (k : Nat) (hk : l.length < k) :
    cost_Sum.f k l = some (min (tot l) 65535, min (cnt l) 65535) := by
  unfold cost_Sum.f
  have := sum_loop l hl h l.length k 0 0 0 (by omega) hk (by omega) (by omega)
  simpa using this
theorem wf_u16 {x : Int} (h : (Lit.int .u16 x).wf = true) : 0 ≤ x ∧ x ≤ 65535 := by
  have hmin : IntKind.u16.min = 0 := rfl
  have hmax : IntKind.u16.max = 65535 := rfl
  simp only [Lit.wf, Bool.and_eq_true, decide_eq_true_eq, hmin, hmax] at h; exact h
theorem wf_u8 {x : Int} (h : (Lit.int .u8 x).wf = true) : 0 ≤ x ∧ x ≤ 255 := by
  have hmin : IntKind.u8.min = 0 := rfl
  have hmax : IntKind.u8.max = 255 := rfl
  simp only [Lit.wf, Bool.and_eq_true, decide_eq_true_eq, hmin, hmax] at h; exact h
theorem wf_i64 {x : Int} (h : (Lit.int .i64 x).wf = true) : -9223372036854775808 ≤ x ∧ x ≤ 9223372036854775807 := by
  have hmin : IntKind.i64.min = -9223372036854775808 := rfl
  have hmax : IntKind.i64.max = 9223372036854775807 := rfl
  simp only [Lit.wf, Bool.and_eq_true, decide_eq_true_eq, hmin, hmax] at h; exact h
theorem take_snoc (l : List Int) (i : Nat) (h : i < l.length) : l.take (i + 1) = l.take i ++ [l[i]] := by
  rw [List.take_succ_eq_append_getElem h]
theorem rd_at (l : List Int) (i : Nat) (h : i < l.length) : rd l (i : Int) = l[i] := by simp [rd, h]
theorem wrap_id {x : Int} (h : -9223372036854775808 ≤ x ∧ x ≤ 9223372036854775807) : wrap64 x = x := by unfold wrap64; omega
theorem wrap_succ {i : Nat} (h : i < 4000000000000) : wrap64 ((i : Int) + 1) = ((i + 1 : Nat) : Int) := by unfold wrap64; omega
theorem tot_snoc (l : List Int) (i : Nat) (h : i < l.length) : tot (l.take (i + 1)) = tot (l.take i) + (if l[i] < 1 then 0 else l[i]) := by
  rw [take_snoc l i h, tot_append]; simp [tot]
theorem cnt_snoc (l : List Int) (i : Nat) (h : i < l.length) : cnt (l.take (i + 1)) = cnt (l.take i) + (if l[i] < 1 then 0 else 1) := by
  rw [take_snoc l i h, cnt_append]; simp [cnt]
theorem shown_ok (k : Nat) (hk : 4 ≤ k) : catafalquelaw14_shown.f k = some true := by
  unfold catafalquelaw14_shown.f
  rw [sum_ok [1, 0, 3] (by decide) (by decide) k (by simp; omega)]; rfl
theorem may_ok (a b : Int) (ha : 0 ≤ a ∧ a ≤ 65535) (hb : 0 ≤ b ∧ b ≤ 65535) (h : b ≤ a ∨ a = 65535) : cost_May.f a b = some true := by
  have e1 : cost_May.inB a = true := by unfold cost_May.inB; simpa using ha
  have e2 : cost_May.inB b = true := by unfold cost_May.inB; simpa using hb
  unfold cost_May.f
  rw [e1, e2]
  rcases h with h | h <;> simp [h]
theorem join_ok (a b c d : Int) (ha : 0 ≤ a ∧ a ≤ 65535) (hb : 0 ≤ b ∧ b ≤ 65535) (hc : 0 ≤ c ∧ c ≤ 65535) (hd : 0 ≤ d ∧ d ≤ 65535) :
    cost_Join.f a b c d = some (min (a + c) 65535, min (b + d) 65535) := by
  unfold cost_Join.f
  rw [some_ok a c ha.1 ha.2 (by omega) (by omega), some_ok b d hb.1 hb.2 (by omega) (by omega)]; rfl
theorem joins_end (l : List Int) (hl : l.length ≤ 500) (h : ∀ x ∈ l, 0 ≤ x ∧ x ≤ 65535) (a1 far : Int) (h1 : 0 ≤ a1 ∧ a1 ≤ 255) (hf : far ≤ 9223372036854775807) (l0 : List Int) (k i : Nat) (hi : ¬ (i : Int) < (l0.length : Int)) (hk : 501 < k) :
    catafalquelaw14_CostJoins.l0 (k + 1) l0 a1 far true l i = some true := by
  simp only [catafalquelaw14_CostJoins.l0]
  have hw : wrap64 ((l.length : Int) + 1) = (l.length : Int) + 1 := wrap_id (by omega)
  have ht : Int.tmod a1 ((l.length : Int) + 1) = a1 % ((l.length : Int) + 1) := Int.tmod_eq_emod_of_nonneg h1.1
  rw [if_neg hi, hw, if_neg (by omega), wrap_id (x := a1) (by omega), ht]
  have b1 : 0 ≤ a1 % ((l.length : Int) + 1) := Int.emod_nonneg _ (by omega)
  have b2 : a1 % ((l.length : Int) + 1) < (l.length : Int) + 1 := Int.emod_lt_of_pos _ (by omega)
  generalize a1 % ((l.length : Int) + 1) = c at b1 b2 ⊢
  obtain ⟨c, rfl⟩ := Int.eq_ofNat_of_zero_le b1
  have e1 : tot l = tot (l.take c) + tot (l.drop c) := by rw [← tot_append, List.take_append_drop]
  have e2 : cnt l = cnt (l.take c) + cnt (l.drop c) := by rw [← cnt_append, List.take_append_drop]
  have g1 := cnt_tot (l.take c)
  have g2 := cnt_tot (l.drop c)
  have hle : ∀ x ∈ l, x ≤ 65535 := fun x hx => (h x hx).2
  rw [sum_ok l (by omega) hle k (by omega), e1, e2]
  simp only [Option.bind_some]
  rw [Int.toNat_natCast, sum_ok (l.take c) (by rw [List.length_take]; omega) (fun x hx => hle x (List.mem_of_mem_take hx)) k (by rw [List.length_take]; omega),
    sum_ok (l.drop c) (by rw [List.length_drop]; omega) (fun x hx => hle x (List.mem_of_mem_drop hx)) k (by rw [List.length_drop]; omega)]
  generalize tot (l.take c) = T1 at g1 ⊢
  generalize tot (l.drop c) = T2 at g2 ⊢
  generalize cnt (l.take c) = C1 at g1 ⊢
  generalize cnt (l.drop c) = C2 at g2 ⊢
  rw [add_ok _ _ far (by omega) (by omega) hf]
  simp only [Option.bind_some]
  rw [if_pos trivial, if_pos b1, if_pos (by omega), join_ok _ _ _ _ (by omega) (by omega) (by omega) (by omega)]
  simp only [Option.bind_some]
  have j1 : (min (min T1 65535 + min T2 65535) 65535 == min (T1 + T2) 65535) = true := by rw [beq_iff_eq]; omega
  have j2 : (min (min C1 65535 + min C2 65535) 65535 == min (C1 + C2) 65535) = true := by rw [beq_iff_eq]; omega
  rw [if_pos (by rw [j1, j2]; rfl)]
  by_cases hf0 : far < 1
  · rw [if_pos hf0, if_pos hf0, if_pos (by omega), if_pos (by omega), may_ok _ _ (by omega) (by omega) (by omega)]
    simp only [Option.bind_some]
    rw [if_pos trivial, if_neg (by omega)]
    simp only [Option.some.injEq, Bool.and_eq_true, beq_iff_eq]; omega
  · rw [if_neg hf0, if_neg hf0, if_pos (by omega), if_pos (by omega), may_ok _ _ (by omega) (by omega) (by omega)]
    simp only [Option.bind_some]
    rw [if_pos trivial, if_pos (by omega)]
theorem joins_step (l : List Int) (a1 far : Int) (k i : Nat) (hlt : i < l.length) (hi : i < 1000) (hx : 0 ≤ l[i] ∧ l[i] ≤ 65535) :
    catafalquelaw14_CostJoins.l0 (k + 1) l a1 far true (l.take i) i = catafalquelaw14_CostJoins.l0 k l a1 far true (l.take (i + 1)) ((i + 1 : Nat) : Int) := by
  have ht : (l.take i).length = i := List.length_take_of_le (by omega)
  simp only [catafalquelaw14_CostJoins.l0]
  rw [if_pos (by omega), if_pos (by omega), if_pos (by omega), rd_at l i hlt, wrap_id (by omega), wrap_succ (by omega), ← take_snoc l i hlt]
theorem joins_loop (l : List Int) (hl : l.length ≤ 500) (h : ∀ x ∈ l, 0 ≤ x ∧ x ≤ 65535) (a1 far : Int) (h1 : 0 ≤ a1 ∧ a1 ≤ 255) (hf : far ≤ 9223372036854775807) (d : Nat) : ∀ (k i : Nat), i + d = l.length → d + 502 < k →
    catafalquelaw14_CostJoins.l0 k l a1 far true (l.take i) i = some true := by
  induction d with
  | zero =>
    intro k i hi hk
    obtain ⟨k, rfl⟩ : ∃ m, k = m + 1 := ⟨k - 1, by omega⟩
    rw [List.take_of_length_le (by omega)]
    exact joins_end l hl h a1 far h1 hf l k i (by omega) (by omega)
  | succ d ih =>
    intro k i hi hk
    obtain ⟨k, rfl⟩ : ∃ m, k = m + 1 := ⟨k - 1, by omega⟩
    rw [joins_step l a1 far k i (by omega) (by omega) (h _ (List.getElem_mem (by omega)))]
    exact ih k (i + 1) (by omega) (by omega)
theorem joins_all (l : List Int) (a1 far : Int) (h : ∀ x ∈ l, 0 ≤ x ∧ x ≤ 65535) (h1 : 0 ≤ a1 ∧ a1 ≤ 255) (hf : far ≤ 9223372036854775807) (k : Nat) (hk : 1100 ≤ k) : catafalquelaw14_CostJoins.f k l a1 far = some true := by
  unfold catafalquelaw14_CostJoins.f
  rw [shown_ok _ (by omega)]
  simp only [Option.bind_some]
  by_cases h3 : (l.length : Int) > 500
  · rw [if_pos h3]
  · rw [if_neg h3]
    have := joins_loop l (by omega) h a1 far h1 hf l.length k 0 (by omega) (by omega)
    simpa using this
theorem CostJoins : catafalquelaw14_CostJoins.Pure := by
  intro l a1 far _ _ hl h1 h2
  exact ⟨1100, joins_all l a1 far (fun x hx => wf_u16 (hl x hx)) (wf_u8 h1) (wf_i64 h2).2 1100 (Nat.le_refl _)⟩
end Go.Proofs.Ytomjjiloelmpkaa.Pure
