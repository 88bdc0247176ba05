/- The law CostMost: behind as many moves as there may be the cost is the greatest, and stays; ahead of that each move is counted. For every input. -/
import Derived.Test.YtomjjiloelmpkaaPCostMostx2
namespace Go.Proofs.Ytomjjiloelmpkaa.Pure
open Go.RowKit Go.Proofs.Ytomjjiloelmpkaa.PCostMost Go.Proofs.YtomjjiloelmpkaaW.PrintWords Go.Proofs.YtomjjiloelmpkaaW.PrintLast Go.Proofs.YtomjjiloelmpkaaW.PrintMore
/-- What moves cost, together, and how many there are. -/
def tot : List Int → Int
  | [] => 0
  | x :: l => (if x < 1 then 0 else x) + tot l
def cnt : List Int → Int
  | [] => 0
  | x :: l => (if x < 1 then 0 else 1) + cnt l
theorem tot_append (a b : List Int) : tot (a ++ b) = tot a + tot b := by
  induction a with
  | nil => simp [tot]
  | cons x a ih => simp only [List.cons_append, tot, ih]; omega
theorem cnt_append (a b : List Int) : cnt (a ++ b) = cnt a + cnt b := by
  induction a with
  | nil => simp [cnt]
  | cons x a ih => simp only [List.cons_append, cnt, ih]; omega
theorem cnt_tot (l : List Int) : 0 ≤ cnt l ∧ cnt l ≤ tot l ∧ cnt l ≤ l.length := by
  induction l with
  | nil => simp [tot, cnt]
  | cons x l ih => simp only [tot, cnt, List.length_cons]; split <;> omega
theorem tot_reverse (l : List Int) : tot l.reverse = tot l := by
  induction l with
  | nil => rfl
  | cons x l ih => simp only [List.reverse_cons, tot_append, ih, tot]; omega
theorem cnt_reverse (l : List Int) : cnt l.reverse = cnt l := by
  induction l with
  | nil => rfl
  | cons x l ih => simp only [List.reverse_cons, cnt_append, ih, cnt]; omega
theorem tot_le (l : List Int) (h : ∀ x ∈ l, x ≤ 65535) : tot l ≤ 65535 * l.length := by
  induction l with
  | nil => simp [tot]
  | cons x l ih =>
    have := ih (fun y hy => h y (List.mem_cons_of_mem _ hy)); have := h x (List.mem_cons_self ..)
    simp only [tot, List.length_cons]; split <;> omega
theorem some_ok (a b : Int) (ha : 0 ≤ a) (ha' : a ≤ 65535) (hb : -4611686018427387904 ≤ b) (hb' : b ≤ 9223372036854775807) : cost_some.f a b = some (min (a + b) 65535) := by
  unfold cost_some.f wrap64
  split
  · congr 1; omega
  · congr 1; omega
theorem add_ok (f m b : Int) (hf : 0 ≤ f ∧ f ≤ 65535) (hm : 0 ≤ m ∧ m ≤ 65535) (hb' : b ≤ 9223372036854775807) :
    cost_Add.f f m b = some (min (f + (if b < 1 then 0 else b)) 65535, min (m + (if b < 1 then 0 else 1)) 65535) := by
  unfold cost_Add.f
  by_cases h : b < 1
  · rw [if_pos h, if_pos h, if_pos h]; congr 2 <;> omega
  · rw [if_neg h, if_neg h, if_neg h, some_ok f b hf.1 hf.2 (by omega) hb', some_ok m 1 hm.1 hm.2 (by omega) (by omega)]; rfl
theorem sum_loop (l : List Int) (hl : (l.length : Int) ≤ 1000000000) (h : ∀ x ∈ l, x ≤ 65535) (d : Nat) : ∀ (k i : Nat) (f m : Int), i + d = l.length → d < k → 0 ≤ f ∧ f ≤ 65535 → 0 ≤ m ∧ m ≤ 65535 →
    cost_Sum.l0 k l (l.length : Int) i f m = some (min (f + tot (l.drop i)) 65535, min (m + cnt (l.drop i)) 65535) := by
  induction d with
  | zero =>
    intro k i f m hi hk hf hm
    obtain ⟨k, rfl⟩ : ∃ m, k = m + 1 := ⟨k - 1, by omega⟩
    simp only [cost_Sum.l0]
    rw [if_neg (by omega), List.drop_of_length_le (by omega)]
    simp only [tot, cnt]; congr 2 <;> omega
  | succ d ih =>
    intro k i f m hi hk hf hm
    obtain ⟨k, rfl⟩ : ∃ m, k = m + 1 := ⟨k - 1, by omega⟩
    have hlt : i < l.length := by omega
    have hx := h _ (List.getElem_mem hlt)
    have hd : l.drop i = l[i] :: l.drop (i + 1) := List.drop_eq_getElem_cons hlt
    have hr : rd l (i : Int) = l[i] := by simp [rd, hlt]
    simp only [cost_Sum.l0]
    rw [if_pos (by omega), if_pos (by omega), if_pos (by omega), hr, add_ok f m _ hf hm (by omega)]
    simp only [Option.bind_some]
    have hw : wrap64 ((i : Int) + 1) = ((i + 1 : Nat) : Int) := by unfold wrap64; omega
    have hc := cnt_tot (l.drop (i + 1))
    rw [hw, ih k (i + 1) _ _ (by omega) (by omega) (by omega) (by omega), hd]
    simp only [tot, cnt]; congr 2 <;> split <;> omega
theorem sum_ok (l : List Int) (hl : (l.length : Int) ≤ 1000000000) (h : ∀ x ∈ l, x ≤ 65535) (k : Nat) (hk : l.length < k) :
    cost_Sum.f k l = some (min (tot l) 65535, min (cnt l) 65535) := by
  unfold cost_Sum.f
  have := sum_loop l hl h l.length k 0 0 0 (by omega) hk (by omega) (by omega)
  simpa using this
theorem wf_u16 {x : Int} (h : (Lit.int .u16 x).wf = true) : 0 ≤ x ∧ x ≤ 65535 := by
  have hmin : IntKind.u16.min = 0 := rfl
  have hmax : IntKind.u16.max = 65535 := rfl
  simp only [Lit.wf, Bool.and_eq_true, decide_eq_true_eq, hmin, hmax] at h; exact h
theorem wf_u8 {x : Int} (h : (Lit.int .u8 x).wf = true) : 0 ≤ x ∧ x ≤ 255 := by
  have hmin : IntKind.u8.min = 0 := rfl
  have hmax : IntKind.u8.max = 255 := rfl
  simp only [Lit.wf, Bool.and_eq_true, decide_eq_true_eq, hmin, hmax] at h; exact h
theorem wf_i64 {x : Int} (h : (Lit.int .i64 x).wf = true) : -9223372036854775808 ≤ x ∧ x ≤ 9223372036854775807 := by
  have hmin : IntKind.i64.min = -9223372036854775808 := rfl
  have hmax : IntKind.i64.max = 9223372036854775807 := rfl
  simp only [Lit.wf, Bool.and_eq_true, decide_eq_true_eq, hmin, hmax] at h; exact h
theorem take_snoc (l : List Int) (i : Nat) (h : i < l.length) : l.take (i + 1) = l.take i ++ [l[i]] := by
  rw [List.take_succ_eq_append_getElem h]
theorem rd_at (l : List Int) (i : Nat) (h : i < l.length) : rd l (i : Int) = l[i] := by simp [rd, h]
theorem wrap_id {x : Int} (h : -9223372036854775808 ≤ x ∧ x ≤ 9223372036854775807) : wrap64 x = x := by unfold wrap64; omega
theorem wrap_succ {i : Nat} (h : i < 4000000000000) : wrap64 ((i : Int) + 1) = ((i + 1 : Nat) : Int) := by unfold wrap64; omega
theorem tot_snoc (l : List Int) (i : Nat) (h : i < l.length) : tot (l.take (i + 1)) = tot (l.take i) + (if l[i] < 1 then 0 else l[i]) := by
  rw [take_snoc l i h, tot_append]; simp [tot]
theorem cnt_snoc (l : List Int) (i : Nat) (h : i < l.length) : cnt (l.take (i + 1)) = cnt (l.take i) + (if l[i] < 1 then 0 else 1) := by
  rw [take_snoc l i h, cnt_append]; simp [cnt]
theorem shown_ok (k : Nat) (hk : 4 ≤ k) : catafalquelaw14_shown.f k = some true := by
  unfold catafalquelaw14_shown.f
  rw [sum_ok [1, 0, 3] (by decide) (by decide) k (by simp; omega)]; rfl
theorem may_ok (a b : Int) (ha : 0 ≤ a ∧ a ≤ 65535) (hb : 0 ≤ b ∧ b ≤ 65535) (h : b ≤ a ∨ a = 65535) : cost_May.f a b = some true := by
  have e1 : cost_May.inB a = true := by unfold cost_May.inB; simpa using ha
  have e2 : cost_May.inB b = true := by unfold cost_May.inB; simpa using hb
  unfold cost_May.f
  rw [e1, e2]
  rcases h with h | h <;> simp [h]
theorem join_ok (a b c d : Int) (ha : 0 ≤ a ∧ a ≤ 65535) (hb : 0 ≤ b ∧ b ≤ 65535) (hc : 0 ≤ c ∧ c ≤ 65535) (hd : 0 ≤ d ∧ d ≤ 65535) :
    cost_Join.f a b c d = some (min (a + c) 65535, min (b + d) 65535) := by
  unfold cost_Join.f
  rw [some_ok a c ha.1 ha.2 (by omega) (by omega), some_ok b d hb.1 hb.2 (by omega) (by omega)]; rfl
theorem tot_rep (n : Nat) (d : Int) (h : 1 ≤ d) : tot (List.replicate n d) = n * d ∧ cnt (List.replicate n d) = n := by
  induction n with
  | zero => simp [tot, cnt]
  | succ n ih =>
    simp only [List.replicate_succ, tot, cnt, ih.1, ih.2]
    rw [if_neg (by omega), if_neg (by omega)]
    constructor
    · have : ((n + 1 : Nat) : Int) * d = (n : Int) * d + d := by rw [Int.natCast_add, Int.add_mul]; simp
      omega
    · omega
theorem most_end (n : Nat) (d : Int) (hn : n ≤ 65535) (hn0 : 65000 ≤ n) (hd : d = 1 ∨ d = 2 ∨ d = 3) (k i : Nat) (hi : i = n) (hk : n < k) :
    catafalquelaw14_CostMost.l0 (k + 1) true d n (List.replicate i d) i = some true := by
  subst hi
  obtain ⟨t, c⟩ := tot_rep i d (by omega)
  simp only [catafalquelaw14_CostMost.l0]
  have hle : ∀ x ∈ List.replicate i d, x ≤ 65535 := by intro x hx; rw [List.mem_replicate] at hx; omega
  rw [if_neg (by omega), sum_ok _ (by rw [List.length_replicate]; omega) hle k (by rw [List.length_replicate]; omega), t, c]
  have hT : (i : Int) * d = i ∨ (i : Int) * d = 2 * i ∨ (i : Int) * d = 3 * i := by rcases hd with rfl | rfl | rfl <;> omega
  generalize (i : Int) * d = T at hT ⊢
  simp only [Option.bind_some]
  rw [add_ok _ _ d (by omega) (by omega) (by omega), if_neg (by omega)]
  simp only [Option.bind_some]
  have w1 : wrap64 T = T := wrap_id (by omega)
  have w2 : wrap64 ((i : Int) + 1) = (i : Int) + 1 := wrap_id (by omega)
  rw [if_pos trivial, if_pos (by omega), w1, w2, if_pos (by unfold mn; omega), if_pos (by unfold mn; omega)]
  rw [may_ok _ _ (by omega) (by omega) (by omega)]
  simp only [Option.bind_some]
  rw [if_pos trivial, may_ok _ _ (by omega) (by omega) (by omega)]
  simp only [Option.bind_some]
  rw [if_pos trivial, join_ok _ _ _ _ (by omega) (by omega) (by omega) (by omega)]
  simp only [Option.bind_some, Option.some.injEq, beq_iff_eq]
  omega
theorem most_step (n : Nat) (d : Int) (k i : Nat) (hi : i < n) (hn : n ≤ 65535) :
    catafalquelaw14_CostMost.l0 (k + 1) true d n (List.replicate i d) i = catafalquelaw14_CostMost.l0 k true d n (List.replicate (i + 1) d) ((i + 1 : Nat) : Int) := by
  simp only [catafalquelaw14_CostMost.l0]
  rw [if_pos (by omega), if_pos (by rw [List.length_replicate]; omega), wrap_succ (by omega), List.replicate_succ']
theorem most_loop (n : Nat) (d : Int) (hn : n ≤ 65535) (hn0 : 65000 ≤ n) (hd : d = 1 ∨ d = 2 ∨ d = 3) (m : Nat) : ∀ (k i : Nat), i + m = n → m + n + 1 < k →
    catafalquelaw14_CostMost.l0 k true d n (List.replicate i d) i = some true := by
  induction m with
  | zero =>
    intro k i hi hk
    obtain ⟨k, rfl⟩ : ∃ m, k = m + 1 := ⟨k - 1, by omega⟩
    exact most_end n d hn hn0 hd k i (by omega) (by omega)
  | succ m ih =>
    intro k i hi hk
    obtain ⟨k, rfl⟩ : ∃ m, k = m + 1 := ⟨k - 1, by omega⟩
    rw [most_step n d k i (by omega) hn]
    exact ih k (i + 1) (by omega) (by omega)
theorem most_all (a0 a1 : Int) (h0 : 0 ≤ a0 ∧ a0 ≤ 255) (h1 : 0 ≤ a1 ∧ a1 ≤ 255) (k : Nat) (hk : 131072 ≤ k) : catafalquelaw14_CostMost.f k a0 a1 = some true := by
  unfold catafalquelaw14_CostMost.f
  rw [shown_ok _ (by omega)]
  simp only [Option.bind_some]
  obtain ⟨n, hn⟩ : ∃ n : Nat, (n : Int) = 65535 - a1 := ⟨(65535 - a1).toNat, by omega⟩
  have e1 : wrap64 (65535 - wrap64 a1) = (n : Int) := by rw [wrap_id (x := a1) (by omega), wrap_id (by omega)]; omega
  have e2 : Int.tmod a0 3 = a0 % 3 := Int.tmod_eq_emod_of_nonneg h0.1
  have e3 : wrap64 (1 + wrap64 (Int.tmod a0 3)) = 1 + a0 % 3 := by rw [e2, wrap_id (x := a0 % 3) (by omega), wrap_id (by omega)]
  rw [e1, e3]
  have := most_loop n (1 + a0 % 3) (by omega) (by omega) (by omega) n k 0 (by omega) (by omega)
  simpa using this
theorem CostMost : catafalquelaw14_CostMost.Pure := by
  intro a0 a1 h0 h1
  exact ⟨_, most_all a0 a1 (wf_u8 h0) (wf_u8 h1) 131072 (Nat.le_refl _)⟩
end Go.Proofs.Ytomjjiloelmpkaa.Pure
