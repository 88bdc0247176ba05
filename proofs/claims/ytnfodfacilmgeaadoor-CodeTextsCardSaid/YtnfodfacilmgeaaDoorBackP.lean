/- What is printed is parsed as it was; what is parsed has the very text: in plain words. No condition. -/
import Derived.Test.YtnfodfacilmgeaaDoorCod7
import Derived.Test.YtnfodfacilmgeaaDoorLinP
namespace Go.Proofs.YtnfodfacilmgeaaDoor.Code
open Go Go.RowKit Go.Proofs
open PCodeTexts
theorem index_no (c : UInt8) : ∀ l : List UInt8, (∀ x ∈ l, x ≠ c) → Lib.index l [c] = -1
  | [], _ => rfl
  | b :: l, h => by
    have h1 := index_no c l (fun x hx => h x (List.mem_cons_of_mem _ hx))
    have h2 : ([c] : List UInt8).isPrefixOf (b :: l) = false := by
      simp [List.isPrefixOf]; exact fun e => h b List.mem_cons_self e.symm
    rw [Lib.index, h2, h1]; rfl
theorem index_at (c : UInt8) : ∀ (l r : List UInt8), (∀ x ∈ l, x ≠ c) → Lib.index (l ++ c :: r) [c] = (l.length : Int)
  | [], r, _ => by
    show Lib.index (c :: r) [c] = 0
    rw [Lib.index]; simp [List.isPrefixOf]
  | b :: l, r, h => by
    have h1 := index_at c l r (fun x hx => h x (List.mem_cons_of_mem _ hx))
    have h2 : ([c] : List UInt8).isPrefixOf (b :: (l ++ c :: r)) = false := by
      simp [List.isPrefixOf]; exact fun e => h b List.mem_cons_self e.symm
    rw [List.cons_append, Lib.index, h2, h1]
    have h3 : ((l.length : Int) == -1) = false := beq_eq_false_iff_ne.mpr (by omega)
    simp only [h3]
    simp
theorem cut_at (c : UInt8) (l r : List UInt8) (h : ∀ x ∈ l, x ≠ c) : cutB (l ++ c :: r) c = (l, r, true) := by
  unfold cutB Lib.cut
  rw [index_at c l r h, if_pos (Int.natCast_nonneg _), Int.toNat_natCast]
  congr 1
  · simp
  · congr 1
    rw [List.length_singleton, List.drop_append]
    simp
theorem cut_no (c : UInt8) (l : List UInt8) (h : ∀ x ∈ l, x ≠ c) : cutB l c = (l, [], false) := by
  unfold cutB Lib.cut
  rw [index_no c l h, if_neg (by decide)]
theorem cut_split (c : UInt8) : ∀ s : List UInt8, (cutB s c).2.2 = true → s = (cutB s c).1 ++ c :: (cutB s c).2.1 := by
  intro s h
  by_cases hc : ∃ l r, s = l ++ c :: r ∧ ∀ x ∈ l, x ≠ c
  · obtain ⟨l, r, e, hl⟩ := hc
    rw [e, cut_at c l r hl]
  · have hn : ∀ x ∈ s, x ≠ c := by
      intro x hx e
      subst e
      exact hc (by
        obtain ⟨l, r, h1, h2⟩ := List.eq_append_cons_of_mem hx
        exact ⟨l, r, h1, fun y hy e => h2 (e ▸ hy)⟩)
    rw [cut_no c s hn] at h
    cases h
theorem parse_dec (n : Nat) : ∀ (acc : Nat) (r : List UInt8), (acc = 0 ∨ True) → acc * 10 ^ (Lib.decDigits n).length + n < 18446744073709551616 → Lib.parseUint10 acc (Lib.decDigits n ++ r) = Lib.parseUint10 (acc * 10 ^ (Lib.decDigits n).length + n) r := by
  induction n using Nat.strongRecOn with
  | ind n ih =>
    intro acc r _ hlt
    have hd : ∀ u : Nat, u < 10 → ∀ acc r, acc * 10 + u < 18446744073709551616 → Lib.parseUint10 acc (UInt8.ofNat (48 + u) :: r) = Lib.parseUint10 (acc * 10 + u) r := by
      intro u hu acc r hl
      have e : (UInt8.ofNat (48 + u)).toNat = 48 + u := by
        rw [UInt8.toNat_ofNat']; omega
      rw [Lib.parseUint10, e, if_pos (by omega), if_neg (by omega), show 48 + u - 48 = u by omega, if_neg (by omega)]
    by_cases h : n < 10
    · have e : Lib.decDigits n = [UInt8.ofNat (48 + n)] := by rw [Lib.decDigits, dif_pos h]
      rw [e] at hlt ⊢
      simp only [List.length_singleton, Nat.pow_one] at hlt ⊢
      exact hd n h acc r hlt
    · have e : Lib.decDigits n = Lib.decDigits (n / 10) ++ [UInt8.ofNat (48 + n % 10)] := by rw [Lib.decDigits, dif_neg h]
      rw [e] at hlt ⊢
      rw [List.length_append, List.length_singleton, Nat.pow_succ, ← Nat.mul_assoc] at hlt ⊢
      rw [List.append_assoc]
      have h1 : acc * 10 ^ (Lib.decDigits (n / 10)).length * 10 + n = (acc * 10 ^ (Lib.decDigits (n / 10)).length + n / 10) * 10 + n % 10 := by omega
      rw [h1] at hlt ⊢
      rw [ih (n / 10) (by omega) acc _ (.inr trivial) (by omega)]
      exact hd (n % 10) (by omega) _ r hlt
theorem dec_ne (n : Nat) : ∃ c r, Lib.decDigits n = c :: r ∧ 48 ≤ c.toNat ∧ c.toNat ≤ 57 := by
  induction n using Nat.strongRecOn with
  | ind n ih =>
    have hd : ∀ u : Nat, u < 10 → 48 ≤ (UInt8.ofNat (48 + u)).toNat ∧ (UInt8.ofNat (48 + u)).toNat ≤ 57 := by decide
    by_cases h : n < 10
    · exact ⟨_, [], by rw [Lib.decDigits, dif_pos h], hd n h⟩
    · obtain ⟨c, r, e, h1⟩ := ih (n / 10) (by omega)
      exact ⟨c, r ++ [UInt8.ofNat (48 + n % 10)], by rw [Lib.decDigits, dif_neg h, e]; rfl, h1⟩
theorem parseMag_dec (n : Nat) (h : n < 18446744073709551616) : Lib.parseMag (Lib.decDigits n) = .ok n := by
  obtain ⟨c, r, e, -⟩ := dec_ne n
  unfold Lib.parseMag
  rw [if_neg (by rw [e]; simp)]
  have := parse_dec n 0 [] (.inl rfl) (by omega)
  rw [List.append_nil] at this
  rw [this, Nat.zero_mul, Nat.zero_add]; rfl
theorem atoiV_itoa (a : Int) (h0 : -9223372036854775808 ≤ a) (h1 : a ≤ 9223372036854775807) : atoiV (Lib.itoa a) = a := by
  unfold atoiV
  have : Lib.atoiAll (Lib.itoa a) = .ok a := by
    unfold Lib.itoa
    by_cases hn : a < 0
    · rw [if_pos hn]
      unfold Lib.atoiAll
      have e : (if (45 : UInt8).toNat = 43 ∨ (45 : UInt8).toNat = 45 then Lib.decDigits a.natAbs else (45 : UInt8) :: Lib.decDigits a.natAbs) = Lib.decDigits a.natAbs := if_pos (.inr rfl)
      simp only [e, parseMag_dec a.natAbs (by omega)]
      rw [if_neg (fun h => h.1 rfl), if_neg (by omega), if_pos (show UInt8.toNat 45 = 45 from rfl)]
      congr 1
      omega
    · rw [if_neg hn]
      obtain ⟨c, r, e, h2, h3⟩ := dec_ne a.toNat
      have hp := parseMag_dec a.toNat (by omega)
      rw [e] at hp ⊢
      unfold Lib.atoiAll
      have e2 : (if c.toNat = 43 ∨ c.toNat = 45 then r else c :: r) = c :: r := if_neg (by omega)
      simp only [e2, hp]
      rw [if_neg (by omega), if_neg (by omega), if_neg (by omega)]
      congr 1
      omega
  rw [this]
def named (op : Int) : Prop := nmB op ≠ []
theorem nmB_no32 (op : Int) : ∀ x ∈ nmB op, x ≠ 32 := by
  have h1 : ∀ k, k < 11 → ∀ x ∈ nmL.getD k [], x ≠ 32 := by decide +kernel
  unfold nmB
  split
  · exact h1 _ (by omega)
  · intro x hx; cases hx
theorem op_nm (op : Int) (h : nmB op ≠ []) : opOf (nmB op) = op ∧ 0 < op := by
  have h1 : ∀ k, k < 11 → nmL.getD k [] ≠ [] → opOf (nmL.getD k []) = (k : Int) ∧ 0 < k := by decide +kernel
  unfold nmB at h ⊢
  split at h
  next h0 =>
    rw [if_pos h0]
    have := h1 op.toNat (by omega) h
    omega
  next => exact absurd rfl h
theorem read_one (op a : Int) (h : nmB op ≠ []) (h0 : -9223372036854775808 ≤ a) (h1 : a ≤ 9223372036854775807) : readF (oneB op a) = ((op, a), true) := by
  have e : nmQ op = nmB op := by unfold nmQ; rw [if_neg h]
  have key : cutB (oneB op a) 32 = (nmB op, if bare op a then [] else Lib.itoa a, if bare op a then false else true) := by
    unfold oneB
    rw [e]
    by_cases hb : bare op a
    · rw [if_pos hb, if_pos hb, if_pos hb, List.append_nil]
      exact cut_no 32 _ (nmB_no32 op)
    · rw [if_neg hb, if_neg hb, if_neg hb]
      exact cut_at 32 _ _ (nmB_no32 op)
  have hv : atoiV (if bare op a then [] else Lib.itoa a) = a := by
    by_cases hb : bare op a
    · rw [if_pos hb, hb.1]; rfl
    · rw [if_neg hb]; exact atoiV_itoa a h0 h1
  have ho := op_nm op h
  unfold readF
  rw [key]
  simp only [hv, ho.1]
  exact congrArg (Prod.mk (op, a)) (decide_eq_true ⟨h, ho.2, trivial⟩)
theorem read_none (op a : Int) (h : nmB op = []) : (readF (oneB op a)).2 = false := by
  have e : nmQ op = [63] := by unfold nmQ; rw [if_pos h]
  have hb : ¬ bare op a := by
    rintro ⟨-, h2 | h2⟩ <;> rw [h2] at h <;> exact absurd h (by decide)
  have key : cutB (oneB op a) 32 = ([63], Lib.itoa a, true) := by
    unfold oneB
    rw [e, if_neg hb]
    exact cut_at 32 _ _ (by decide)
  have ho : opOf [63] = -1 := by decide +kernel
  unfold readF
  rw [key]
  simp only [ho]
  exact decide_eq_false (fun k => absurd k.2.1 (by decide))
theorem text_ne (x : Int × Int) (l : List (Int × Int)) : textB (x :: l) = oneB x.1 x.2 ++ 10 :: textB l := by
  unfold textB lineB
  rw [List.flatMap_cons, List.append_assoc]; rfl
theorem parse_text : ∀ (l : List S43) (pre : List S43) (k : Nat), l.length < k → (∀ x ∈ l, nmB x.f0 ≠ []) → Wf (l.map unI) → parseF k (textB (l.map unI)) pre = (pre ++ l, 0, 0)
  | [], pre, k + 1, _, _, _ => by rw [parseF, if_pos (show textB (List.map unI []) = [] from rfl), List.append_nil]
  | x :: l, pre, k + 1, hk, hn, hw => by
    rw [List.map_cons, text_ne, parseF, if_neg (by simp), cut_at 10 _ _ (oneB_no _ _)]
    have hx := hw (unI x) (by simp)
    have hr : readF (oneB (unI x).1 (unI x).2) = (unI x, true) := read_one x.f0 x.f1 (hn x List.mem_cons_self) hx.1 hx.2
    simp only [hr]
    rw [if_pos ⟨trivial, trivial⟩, parse_text l _ k (by simp only [List.length_cons] at hk; omega) (fun y hy => hn y (List.mem_cons_of_mem _ hy)) (fun y hy => hw y (by rw [List.map_cons]; exact List.mem_cons_of_mem _ hy))]
    rw [List.append_assoc]; rfl
theorem parse_text_no : ∀ (l : List S43) (pre : List S43) (k m : Nat), l.length < k → (hm : m < l.length) → (∀ j, (h : j < l.length) → j < m → nmB (l[j]).f0 ≠ []) → nmB (l[m]).f0 = [] → Wf (l.map unI) → parseF k (textB (l.map unI)) pre = ([], ((pre.length + m : Nat) : Int), 2)
  | [], _, _, _, _, hm, _, _, _ => absurd hm (Nat.not_lt_zero _)
  | x :: l, pre, k + 1, 0, hk, hm, hn, h0, hw => by
    rw [List.map_cons, text_ne, parseF, if_neg (by simp), cut_at 10 _ _ (oneB_no _ _)]
    have hr : (readF (oneB (unI x).1 (unI x).2)).2 = false := read_none x.f0 x.f1 h0
    rw [if_neg (by rw [hr]; simp)]; rfl
  | x :: l, pre, k + 1, m + 1, hk, hm, hn, h0, hw => by
    rw [List.map_cons, text_ne, parseF, if_neg (by simp), cut_at 10 _ _ (oneB_no _ _)]
    have hx := hw (unI x) (by simp)
    have hr : readF (oneB (unI x).1 (unI x).2) = (unI x, true) := read_one x.f0 x.f1 (hn 0 (by simp) (by omega)) hx.1 hx.2
    simp only [hr]
    rw [if_pos ⟨trivial, trivial⟩, parse_text_no l _ k m (by simp only [List.length_cons] at hk; omega) (by simp only [List.length_cons] at hm; omega) (fun j hj hjm => hn (j + 1) (by simp; omega) (by omega)) h0 (fun y hy => hw y (by rw [List.map_cons]; exact List.mem_cons_of_mem _ hy))]
    rw [List.length_append, List.length_singleton, show pre.length + 1 + m = pre.length + (m + 1) by omega]
theorem parse_back : ∀ (k : Nat) (s : List UInt8) (pre b : List S43) (n : Int), s.length < k → Wf (pre.map unI) → parseF k s pre = (b, n, 0) → textB (b.map unI) = textB (pre.map unI) ++ s ∧ Wf (b.map unI) ∧ b.length ≤ pre.length + s.length
  | 0, s, _, _, _, h, _, _ => absurd h (Nat.not_lt_zero _)
  | k + 1, s, pre, b, n, h, hw, hp => by
    rw [parseF] at hp
    by_cases h0 : s = []
    · rw [if_pos h0] at hp
      injection hp with h1 h2
      subst h1
      rw [h0, List.append_nil]
      exact ⟨rfl, hw, Nat.le_add_right _ _⟩
    · rw [if_neg h0] at hp
      by_cases hc : (cutB s 10).2.2 = true ∧ (readF (cutB s 10).1).2 = true
      · rw [if_pos hc] at hp
        have hs := cut_split 10 s hc.1
        have hl := cut_rest s hc.1
        have hr : oneB (readF (cutB s 10).1).1.1 (readF (cutB s 10).1).1.2 = (cutB s 10).1 := (of_decide_eq_true hc.2).2.2
        have hb := atoiV_bound (cutB (cutB s 10).1 32).2.1
        have hm : (pre ++ [mkI (readF (cutB s 10).1).1]).map unI = pre.map unI ++ [(readF (cutB s 10).1).1] := by rw [List.map_append]; rfl
        have := parse_back k _ _ b n (by omega) (by
          rw [hm]
          intro x hx
          rcases List.mem_append.mp hx with hx | hx
          · exact hw x hx
          · rw [List.mem_singleton] at hx
            rw [hx]; exact hb) hp
        obtain ⟨t1, t2, t3⟩ := this
        refine ⟨?_, t2, ?_⟩
        · rw [t1, hm]
          unfold textB
          rw [List.flatMap_append, List.append_assoc]
          congr 1
          have e : List.flatMap lineB [(readF (cutB s 10).1).1] = (cutB s 10).1 ++ [10] := by
            rw [List.flatMap_singleton]
            unfold lineB
            rw [hr]
          rw [e, List.append_assoc]
          exact hs.symm
        · rw [List.length_append, List.length_singleton] at t3
          omega
      · rw [if_neg hc] at hp
        injection hp with h1 h2
        injection h2 with h2 h3
        cases h3
end Go.Proofs.YtnfodfacilmgeaaDoor.Code
