/- The document's distances. No condition. -/
import Derived.Test.YtplpmelpoajpdaaTlLib4
import Derived.Laws.BitsLemmas
import Derived.Shelf.SlSortCmp.Kit1
import Derived.Below
namespace Go.Proofs.Ytplpmelpoajpdaa.Ev
open Go Go.Proofs
set_option linter.unusedVariables false
set_option linter.unusedSimpArgs false
open Go.RowKit (wrap64)
set_option maxRecDepth 100000
attribute [go_sem] wrc splice
section
variable {X : Prims} (hX : Low X)
include hX
theorem procs_g (t : List SVtx) (ht : t.length ≤ 1000) : Gv P X 71 [encT t] (L (vsOf t 3)) := by
  refine gv_of (hX _ (by decide)) fun71 rfl ?_
  simp +decide only [Try.f71, encT, go_sem]
  refine WO_call rfl rfl rfl rfl rfl (level_g hX t 3 ht) ?_
  simp +decide only [go_sem]
  exact ⟨_, rfl, rfl, rfl⟩
theorem nodes_g (t : List SVtx) (ht : t.length ≤ 1000) : Gv P X 70 [encT t] (L (vsOf t 1)) := by
  refine gv_of (hX _ (by decide)) fun70 rfl ?_
  simp +decide only [Try.f70, encT, go_sem]
  refine WO_call rfl rfl rfl rfl rfl (level_g hX t 1 ht) ?_
  simp +decide only [go_sem]
  exact ⟨_, rfl, rfl, rfl⟩
theorem below_g (t : List SVtx) (i : Nat) (hi : i < t.length) (ht : t.length ≤ 1000) : Gv P X 97 [encT t, I i] (B (belowB t i)) := by
  refine gv_of (hX _ (by decide)) fun97 rfl ?_
  have hx := vtx_at hi
  simp +decide only [Try.f97, encT, go_sem, hx, encV, Nat.reduceAdd]
  refine Wif_of (fun h => ?_) (fun h => ?_)
  · have h0 : i = 0 := by simpa using h
    subst h0
    by_cases h1 : par t 0 = -1
    · simp +decide only [go_sem, h1, Nat.reduceAdd]
      exact ⟨_, rfl, rfl, by by_cases h2 : lev t 0 = 0 <;> simp [belowB, h1, h2]⟩
    · have h2 : (par t 0 == -1) = false := by simpa using h1
      simp +decide only [go_sem, h2, Nat.reduceAdd]
      exact ⟨_, rfl, rfl, by simp [belowB, h1]⟩
  · have h0 : i ≠ 0 := by simpa using h
    simp +decide only [go_sem]
    refine W_draw hmx (by kernel_rfl) ?_
    by_cases h1 : 0 ≤ par t i
    · by_cases h2 : par t i < i
      · have hp := vtx_at (show (par t i).toNat < t.length by omega)
        by_cases h3 : lev t i = wrap64 (lev t (par t i).toNat + 1)
        · have h4 : (lev t i == wrap64 (lev t (par t i).toNat + 1)) = true := by simpa using h3
          simp +decide only [go_sem, h1, h2, h4, hp, encV, wrap_eq, Nat.reduceAdd]
          exact ⟨_, rfl, rfl, by simp [belowB, h0, h1, h2, ← h3]⟩
        · have h4 : (lev t i == wrap64 (lev t (par t i).toNat + 1)) = false := by simpa using h3
          simp +decide only [go_sem, h1, h2, h4, hp, encV, wrap_eq, Nat.reduceAdd]
          exact ⟨_, rfl, rfl, by simp [belowB, h0, h3]⟩
      · simp +decide only [go_sem, h1, h2, Nat.reduceAdd]
        exact ⟨_, rfl, rfl, by simp [belowB, h0, h2]⟩
    · simp +decide only [go_sem, h1, Nat.reduceAdd]
      exact ⟨_, rfl, rfl, by simp [belowB, h0, h1]⟩
set_option maxHeartbeats 1000000 in
theorem check_g (t : List SVtx) (ht : t.length ≤ 1000) : Gv P X 68 [encT t] (I (if Valid t then 0 else 2)) := by
  refine gv_of (hX _ (by decide)) fun68 rfl ?_
  by_cases h1 : (t.length : Int) < 1
  · have hv : ¬ Valid t := fun h => by have := h.1; omega
    simp +decide only [Try.f68, encT, go_sem, h1]
    refine WO_not rfl ?_
    simp +decide only [go_sem]
    exact ⟨_, rfl, rfl, by simp [hv]⟩
  by_cases h2 : 64 < (t.length : Int)
  · have hv : ¬ Valid t := fun h => by have := h.2.1; omega
    simp +decide only [Try.f68, encT, go_sem, h1, h2]
    refine WO_not rfl ?_
    simp +decide only [go_sem]
    exact ⟨_, rfl, rfl, by simp [hv]⟩
  simp +decide only [Try.f68, encT, go_sem, h1, h2]
  refine WO_call rfl rfl rfl rfl rfl (procs_g hX t ht) ?_
  by_cases h3 : 32 < ((vsOf t 3).length : Int)
  · have hv : ¬ Valid t := fun h => by have := h.2.2.1; omega
    simp +decide only [go_sem, h3]
    exact ⟨_, rfl, rfl, by simp [hv]⟩
  simp +decide only [go_sem, h3]
  refine W_ind (fun n s => ∃ i, i + n = t.length ∧ FrIs 50 [(0, .sl .no (t.map encV)), (21, I t.length), (22, I i)] s.fr ∧ s.S = [] ∧ s.T = [] ∧ ∀ j, j < i → okAt t j = true) ?_ (n := t.length) ⟨0, by omega, ⟨rfl, rfl, rfl, by simp, trivial⟩, rfl, rfl, fun j h => absurd h (Nat.not_lt_zero j)⟩
  rintro n ⟨L, S, T⟩ ih ⟨i, hi, hF, rfl, rfl, hall⟩
  obtain ⟨j, rfl⟩ := hF.ex
  simp +decide only [fr, jl, Nat.reduceAdd, go_sem]
  refine Wif_of (fun h => ?_) (fun h => ?_)
  · have hlt : i < t.length := by simpa using h
    have hx := vtx_at hlt
    have hw := wrap_nat i (by omega)
    simp +decide only [go_sem]
    refine WO_call rfl rfl rfl rfl rfl (kids_g hX t i ht) ?_
    simp +decide only [go_sem, hx, encV]
    refine WO_call rfl rfl rfl rfl rfl (below_g hX t i hlt ht) ?_
    have hok : okAt t i = (belowB t i && ((lev t i == 3) == ((kidsOf t (i : Int)).length == 0)) && decide ((kidsOf t (i : Int)).length ≤ 8)) := rfl
    have hK : pick (fun j => decide (par t j = (i : Int))) t.length 0 = kidsOf t (i : Int) := rfl
    have he : ((((kidsOf t (i : Int)).length : Int) == 0) : Bool) = ((kidsOf t (i : Int)).length == 0) := by
      by_cases h : (kidsOf t (i : Int)).length = 0
      · simp [h]
      · have h2 : ¬ ((kidsOf t (i : Int)).length : Int) = 0 := by omega
        rw [beq_eq_false_iff_ne.mpr h2, beq_eq_false_iff_ne.mpr h]
    have hno : okAt t i = false → ¬ Valid t := fun h hv => by have := hv.2.2.2 i hlt; rw [h] at this; cases this
    rw [hK]
    generalize hq : okAt t i = q at hok hno
    generalize hb : belowB t i = b at hok
    generalize hl : (lev t i == 3) = c at hok
    generalize hk : (kidsOf t (i : Int)).length = m at hok he
    generalize hm : (m == 0) = d at hok he
    cases b with
    | false =>
      simp +decide only [go_sem, hb, hl]
      exact ⟨_, rfl, rfl, by simp [hno (by simpa using hok)]⟩
    | true =>
      by_cases hcd : (c == d) = true
      · by_cases h8 : 8 < (m : Int)
        · simp +decide only [go_sem, hb, hl, hk, he, hcd, h8]
          exact ⟨_, rfl, rfl, by simp [hno (by simp [hok]; omega)]⟩
        · simp +decide only [go_sem, hb, hl, hk, he, hcd, h8, hw]
          refine ih (n - 1) _ (by omega) ⟨i + 1, by omega, ⟨rfl, rfl, rfl, rfl, trivial⟩, rfl, rfl, fun j hj => ?_⟩
          by_cases hji : j = i
          · subst hji; rw [hq, hok]; simp [hcd]; omega
          · exact hall j (by omega)
      · rw [Bool.not_eq_true] at hcd
        simp +decide only [go_sem, hb, hl, hk, he, hcd]
        exact ⟨_, rfl, rfl, by simp [hno (by simp [hok, hcd])]⟩
  · have hi' : i = t.length := by simp at h; omega
    subst hi'
    have hv : Valid t := ⟨by omega, by omega, by omega, hall⟩
    simp +decide only [go_sem]
    exact ⟨_, rfl, rfl, by simp [hv]⟩
end
end Go.Proofs.Ytplpmelpoajpdaa.Ev
namespace Go.Proofs.Ytplpmelpoajpdaa.Ev
open Go Go.Proofs
open Go.RowKit (wrap64)
set_option linter.unusedVariables false
set_option linter.unusedSimpArgs false
set_option maxRecDepth 100000
abbrev U (n : Int) : AV := .v (.int .u64 n)
/-! ### Sets of numbers below 64 -/
def U64 (s : Int) : Prop := 0 ≤ s ∧ s < 18446744073709551616
def tb (s n : Int) : Bool := if 0 ≤ n ∧ n < 64 then s.toNat.testBit n.toNat else false
theorem u64_wrap (n : Int) (h0 : 0 ≤ n) (h1 : n < 2 ^ 64) : IntKind.u64.wrap n = n := by
  have h2 : (2 : Int) ^ 64 = 18446744073709551616 := by decide
  simp [IntKind.wrap, IntKind.bits, IntKind.signed]
  omega
theorem u64_nat (n : Nat) (h : n < 2 ^ 64) : IntKind.u64.wrap (n : Int) = n := u64_wrap _ (Int.natCast_nonneg _) (by
  have e : ((2 : Int) ^ 64) = ((2 ^ 64 : Nat) : Int) := by simp
  rw [e]; exact_mod_cast h)
theorem U64.nat {s : Int} (h : U64 s) : ∃ S : Nat, s = (S : Int) ∧ S < 2 ^ 64 := ⟨s.toNat, by have := h.1; omega, by have := h.1; have := h.2; omega⟩
theorem and_nat {A B : Nat} (ha : A < 2 ^ 64) (hb : B < 2 ^ 64) : Go.bits .and .u64 (A : Int) (B : Int) = ((A &&& B : Nat) : Int) := (Go.bits_nat .u64 64 (by decide) u64_wrap A B ha hb).1
theorem or_nat {A B : Nat} (ha : A < 2 ^ 64) (hb : B < 2 ^ 64) : Go.bits .or .u64 (A : Int) (B : Int) = ((A ||| B : Nat) : Int) := (Go.bits_nat .u64 64 (by decide) u64_wrap A B ha hb).2
theorem bit_lt (n : Int) : ∃ B : Nat, (if 0 ≤ n ∧ n < 64 then ((2 ^ n.toNat : Nat) : Int) else 0) = (B : Int) ∧ B < 2 ^ 64 ∧ ∀ m : Nat, B.testBit m = decide (0 ≤ n ∧ n < 64 ∧ n.toNat = m) := by
  by_cases h : 0 ≤ n ∧ n < 64
  · rw [if_pos h]
    refine ⟨_, rfl, Nat.pow_lt_pow_right (by decide) (by omega), fun m => ?_⟩
    rw [Nat.testBit_two_pow]
    exact decide_eq_decide.mpr ⟨fun e => ⟨h.1, h.2, e⟩, fun e => e.2.2⟩
  · rw [if_neg h]
    refine ⟨0, rfl, by decide, fun m => ?_⟩
    rw [Nat.zero_testBit, decide_eq_false (fun e => h ⟨e.1, e.2.1⟩)]
theorem and_pow (S n : Nat) : S &&& 2 ^ n = if S.testBit n = true then 2 ^ n else 0 := by
  refine Nat.eq_of_testBit_eq fun m => ?_
  rw [Nat.testBit_and, Nat.testBit_two_pow]
  by_cases h : n = m
  · subst h
    cases hb : S.testBit n <;> simp
  · rw [decide_eq_false h, Bool.and_false]
    split
    · rw [Nat.testBit_two_pow, decide_eq_false h]
    · simp
theorem tb_nat {S : Nat} (hS : S < 2 ^ 64) (m : Nat) : S.testBit m = tb (S : Int) (m : Int) := by
  unfold tb
  rw [Int.toNat_natCast, Int.toNat_natCast]
  by_cases h : m < 64
  · rw [if_pos ⟨by omega, by omega⟩]
  · rw [if_neg (by omega)]
    exact Nat.testBit_lt_two_pow (Nat.lt_of_lt_of_le hS (Nat.pow_le_pow_right (by decide) (by omega)))
theorem tb_range {s n : Int} (h : tb s n = true) : 0 ≤ n ∧ n < 64 := by
  unfold tb at h
  by_cases hn : 0 ≤ n ∧ n < 64
  · exact hn
  · rw [if_neg hn] at h; cases h
theorem tb_ext {s t : Int} (hs : U64 s) (ht : U64 t) (h : ∀ n, tb s n = tb t n) : s = t := by
  obtain ⟨S, rfl, hS⟩ := hs.nat
  obtain ⟨T, rfl, hT⟩ := ht.nat
  congr 1
  refine Nat.eq_of_testBit_eq fun m => ?_
  rw [tb_nat hS, tb_nat hT]
  exact h m
theorem and_tb {s t : Int} (hs : U64 s) (ht : U64 t) : U64 (Go.bits .and .u64 s t) ∧ ∀ n, tb (Go.bits .and .u64 s t) n = (tb s n && tb t n) := by
  obtain ⟨S, rfl, hS⟩ := hs.nat
  obtain ⟨T, rfl, hT⟩ := ht.nat
  rw [and_nat hS hT]
  have hlt : S &&& T < 2 ^ 64 := Nat.and_lt_two_pow _ hT
  refine ⟨⟨by omega, by have : (2 : Nat) ^ 64 = 18446744073709551616 := by decide
                        omega⟩, fun n => ?_⟩
  unfold tb
  by_cases h : 0 ≤ n ∧ n < 64
  · rw [if_pos h, if_pos h, if_pos h, Int.toNat_natCast, Int.toNat_natCast, Int.toNat_natCast, Nat.testBit_and]
  · rw [if_neg h, if_neg h]; rfl
def allB (s : Int) : List Int := pick (fun j => tb s (j : Int)) 64 0
theorem allB_mem {s x : Int} : x ∈ allB s ↔ tb s x = true := by
  unfold allB
  rw [pick_mem]
  constructor
  · rintro ⟨j, rfl, -, -, h⟩
    exact h
  · intro h
    have hr := tb_range h
    exact ⟨x.toNat, by omega, by omega, by omega, by rw [show ((x.toNat : Nat) : Int) = x by omega]; exact h⟩

theorem andNot_nat {A B : Nat} (ha : A < 2 ^ 64) (hb : B < 2 ^ 64) : Go.bits .andNot .u64 (A : Int) (B : Int) = ((A &&& (2 ^ 64 - (B + 1)) : Nat) : Int) := by
  have h64 : IntKind.u64.bits = 64 := rfl
  have ha' : A % 2 ^ 64 = A := Nat.mod_eq_of_lt ha
  have hb' : B % 2 ^ 64 = B := Nat.mod_eq_of_lt hb
  simp only [bits, BitVec.ofInt_natCast, BitVec.toNat_and, BitVec.toNat_not, BitVec.toNat_ofNat, h64, ha', hb']
  have e : 2 ^ 64 - 1 - B = 2 ^ 64 - (B + 1) := by omega
  rw [e]
  have hlt : A &&& (2 ^ 64 - (B + 1)) < 2 ^ 64 := Nat.and_lt_two_pow _ (by omega)
  exact u64_nat _ hlt
theorem allB_len (s : Int) : (allB s).length ≤ 64 := pick_len
theorem allB_nil {s : Int} (hs : U64 s) : (allB s).length = 0 ↔ s = 0 := by
  constructor
  · intro h
    refine tb_ext hs ⟨by omega, by omega⟩ fun n => ?_
    have h0 : tb 0 n = false := by unfold tb; split <;> simp
    rw [h0]
    cases hb : tb s n with
    | false => rfl
    | true =>
      have := allB_mem.mpr hb
      rw [List.eq_nil_of_length_eq_zero h] at this
      cases this
  · rintro rfl
    decide +kernel

theorem and_eq (a b : Int) : IntKind.u64.wrap ((BitVec.ofInt IntKind.u64.bits a &&& BitVec.ofInt IntKind.u64.bits b).toNat : Int) = Go.bits .and .u64 a b := rfl
theorem or_eq (a b : Int) : IntKind.u64.wrap ((BitVec.ofInt IntKind.u64.bits a ||| BitVec.ofInt IntKind.u64.bits b).toNat : Int) = Go.bits .or .u64 a b := rfl
theorem andNot_eq (a b : Int) : IntKind.u64.wrap ((BitVec.ofInt IntKind.u64.bits a &&& ~~~BitVec.ofInt IntKind.u64.bits b).toNat : Int) = Go.bits .andNot .u64 a b := rfl
section
variable {X : Prims} (hX : Low X)
include hX
theorem bit_g (n : Int) : Gv P X 46 [I n] (U (if 0 ≤ n ∧ n < 64 then ((2 ^ n.toNat : Nat) : Int) else 0)) := by
  refine gv_of (hX _ (by decide)) fun46 rfl ?_
  by_cases h0 : n < 0
  · simp +decide only [Try.f46, go_sem, h0]
    exact ⟨_, rfl, rfl, by rw [if_neg (by omega)]⟩
  by_cases h1 : 64 ≤ n
  · simp +decide only [Try.f46, go_sem, h0, h1]
    exact ⟨_, rfl, rfl, by rw [if_neg (by omega)]⟩
  have hm : min n.toNat 64 = n.toNat := Nat.min_eq_left (by omega)
  have hp : (2 : Nat) ^ n.toNat < 2 ^ 64 := Nat.pow_lt_pow_right (by decide) (by omega)
  have e : ((2 : Int) ^ n.toNat) = ((2 ^ n.toNat : Nat) : Int) := by simp
  have e2 := u64_nat _ hp
  simp +decide only [Try.f46, go_sem, h0, h1, shA, hm, Int.one_mul, e, e2]
  exact ⟨_, rfl, rfl, by rw [if_pos (by omega)]⟩
theorem has_g {s : Int} (hs : U64 s) (n : Int) : Gv P X 16 [U s, I n] (B (tb s n)) := by
  refine gv_of (hX _ (by decide)) fun16 rfl ?_
  simp +decide only [Try.f16, go_sem]
  refine WO_call rfl rfl rfl rfl rfl (bit_g hX n) ?_
  simp +decide only [go_sem, and_eq]
  refine ⟨_, rfl, rfl, ?_⟩
  have h : (Go.bits .and .u64 s (if 0 ≤ n ∧ n < 64 then ((2 ^ n.toNat : Nat) : Int) else 0) != 0) = tb s n := by
    unfold tb
    obtain ⟨S, rfl, hS⟩ := hs.nat
    by_cases h : 0 ≤ n ∧ n < 64
    · rw [if_pos h, if_pos h, and_nat hS (Nat.pow_lt_pow_right (by decide) (by omega)), and_pow, Int.toNat_natCast]
      have hp : 0 < (2 : Nat) ^ n.toNat := Nat.two_pow_pos _
      cases hb : S.testBit n.toNat with
      | false => simp
      | true =>
        rw [if_pos rfl]
        exact bne_iff_ne.mpr (by omega)
    · rw [if_neg h, if_neg h]
      have := and_nat hS (show 0 < 2 ^ 64 by decide)
      rw [show ((0 : Nat) : Int) = 0 from rfl] at this
      rw [this]
      simp
  rw [← h]
  rfl
theorem with_g {s : Int} (hs : U64 s) (n : Int) : ∃ t, Gv P X 18 [U s, I n] (U t) ∧ U64 t ∧ ∀ m, tb t m = (tb s m || decide (0 ≤ n ∧ n < 64 ∧ m = n)) := by
  refine ⟨Go.bits .or .u64 s (if 0 ≤ n ∧ n < 64 then ((2 ^ n.toNat : Nat) : Int) else 0), ?_, ?_⟩
  · refine gv_of (hX _ (by decide)) fun18 rfl ?_
    simp +decide only [Try.f18, go_sem]
    refine WO_call rfl rfl rfl rfl rfl (bit_g hX n) ?_
    simp +decide only [go_sem, or_eq]
    exact ⟨_, rfl, rfl, rfl⟩
  obtain ⟨S, rfl, hS⟩ := hs.nat
  obtain ⟨B, e, hB, hb⟩ := bit_lt n
  rw [e, or_nat hS hB]
  have hlt : S ||| B < 2 ^ 64 := Nat.or_lt_two_pow hS hB
  refine ⟨⟨by omega, by have : (2 : Nat) ^ 64 = 18446744073709551616 := by decide
                        omega⟩, fun m => ?_⟩
  unfold tb
  by_cases h : 0 ≤ m ∧ m < 64
  · rw [if_pos h, if_pos h, Int.toNat_natCast, Int.toNat_natCast, Nat.testBit_or, hb]
    congr 1
    exact decide_eq_decide.mpr (by omega)
  · rw [if_neg h, if_neg h, decide_eq_false (by omega)]; rfl
theorem without_g {s : Int} (hs : U64 s) (n : Int) : ∃ t, Gv P X 19 [U s, I n] (U t) ∧ U64 t ∧ ∀ m, tb t m = (tb s m && !decide (0 ≤ n ∧ n < 64 ∧ m = n)) := by
  refine ⟨Go.bits .andNot .u64 s (if 0 ≤ n ∧ n < 64 then ((2 ^ n.toNat : Nat) : Int) else 0), ?_, ?_⟩
  · refine gv_of (hX _ (by decide)) fun19 rfl ?_
    simp +decide only [Try.f19, go_sem]
    refine WO_call rfl rfl rfl rfl rfl (bit_g hX n) ?_
    simp +decide only [go_sem, andNot_eq]
    exact ⟨_, rfl, rfl, rfl⟩
  obtain ⟨S, rfl, hS⟩ := hs.nat
  obtain ⟨B, e, hB, hb⟩ := bit_lt n
  rw [e, andNot_nat hS hB]
  have hlt : S &&& (2 ^ 64 - (B + 1)) < 2 ^ 64 := Nat.and_lt_two_pow _ (by omega)
  refine ⟨⟨by omega, by have : (2 : Nat) ^ 64 = 18446744073709551616 := by decide
                        omega⟩, fun m => ?_⟩
  unfold tb
  by_cases h : 0 ≤ m ∧ m < 64
  · rw [if_pos h, if_pos h, Int.toNat_natCast, Int.toNat_natCast, Nat.testBit_and, Nat.testBit_two_pow_sub_succ hB, hb, decide_eq_true (show m.toNat < 64 by omega), Bool.true_and]
    congr 2
    exact decide_eq_decide.mpr (by omega)
  · rw [if_neg h, if_neg h]; rfl
end
end Go.Proofs.Ytplpmelpoajpdaa.Ev
namespace Go.Proofs.Ytplpmelpoajpdaa.Ev
open Go Go.Proofs
open Go.RowKit (wrap64)
set_option linter.unusedVariables false
set_option linter.unusedSimpArgs false
set_option maxRecDepth 100000
section
variable {X : Prims} (hX : Low X)
include hX
theorem all_g {s : Int} (hs : U64 s) : Gv P X 93 [U s] (L (allB s)) := by
  refine gv_of (hX _ (by decide)) fun93 rfl ?_
  simp +decide only [Try.f93, go_sem]
  refine W_ind (fun n s' => ∃ (i : Nat) (v : AV), i + n = 64 ∧ FrIs 17 [(0, U s), (3, v), (5, I i)] s'.fr ∧ s'.S = [] ∧ App P 3 s'.T v ((pick (fun j => tb s (j : Int)) i 0).map I)) ?_ (n := 64) ⟨0, .sl .nil [], by omega, ⟨rfl, rfl, rfl, rfl, trivial⟩, rfl, .nil⟩
  rintro n ⟨L, S, T⟩ ih ⟨i, v, hi, hF, rfl, hA⟩
  obtain ⟨j, rfl⟩ := hF.ex
  simp +decide only [fr, jl, Nat.reduceAdd, go_sem]
  refine Wif_of (fun h => ?_) (fun h => ?_)
  · have hlt : i < 64 := by have : (i : Int) < 64 := by simpa using h
                            omega
    have hw := wrap_nat i (by omega)
    obtain ⟨v', T', happ, hA'⟩ := app_int hA i (by have := @pick_len (fun j => tb s (j : Int)) i 0; omega)
    simp +decide only [go_sem]
    refine WO_call rfl rfl rfl rfl rfl (has_g hX hs i) ?_
    have hp := @pick_snoc (fun j => tb s (j : Int)) i 0
    rw [Nat.zero_add] at hp
    simp +decide only [go_sem]
    refine Wif_of (fun h => ?_) (fun h => ?_)
    · simp +decide only [go_sem, happ, hw]
      refine ih (n - 1) _ (by omega) ⟨i + 1, v', by omega, ⟨rfl, rfl, rfl, rfl, trivial⟩, rfl, ?_⟩
      rw [hp, if_pos h]; exact hA'
    · simp +decide only [go_sem, hw]
      refine ih (n - 1) _ (by omega) ⟨i + 1, v, by omega, ⟨rfl, rfl, rfl, rfl, trivial⟩, rfl, ?_⟩
      rw [hp, if_neg (by rw [h]; simp), List.append_nil]; exact hA
  · have hi' : i = 64 := by
      have : ¬ (i : Int) < 64 := by simpa using h
      omega
    subst hi'
    obtain ⟨o, rfl⟩ := hA.is
    simp +decide only [go_sem]
    exact ⟨_, rfl, rfl, rfl⟩
theorem rall_g {s : Int} (hs : U64 s) : Gv P X 40 [U s] (L (allB s)) := by
  obtain ⟨S, rfl, hS⟩ := hs.nat
  refine gv_of (hX _ (by decide)) fun40 rfl ?_
  simp +decide only [Try.f40, go_sem]
  refine W_ind (fun n s' => ∃ (i : Nat) (v : AV), i + n = 64 ∧ FrIs 19 [(0, U ((S / 2 ^ i : Nat) : Int)), (3, v), (4, I i)] s'.fr ∧ s'.S = [] ∧ App P 3 s'.T v ((pick (fun j => tb (S : Int) (j : Int)) i 0).map I)) ?_ (n := 64) ⟨0, .sl .nil [], by omega, ⟨rfl, by simp, rfl, rfl, trivial⟩, rfl, .nil⟩
  rintro n ⟨L, S', T⟩ ih ⟨i, v, hi, hF, rfl, hA⟩
  obtain ⟨j, rfl⟩ := hF.ex
  simp +decide only [fr, jl, Nat.reduceAdd, go_sem]
  refine Wif_of (fun h => ?_) (fun h => ?_)
  · have hlt : i < 64 := by have : (i : Int) < 64 := by simpa using h
                            omega
    have hw := wrap_nat i (by omega)
    obtain ⟨v', T', happ, hA'⟩ := app_int hA i (by have := @pick_len (fun j => tb (S : Int) (j : Int)) i 0; omega)
    have hdiv : IntKind.u64.wrap (Int.tdiv ((S / 2 ^ i : Nat) : Int) 2) = ((S / 2 ^ (i + 1) : Nat) : Int) := by
      have h1 : Int.tdiv ((S / 2 ^ i : Nat) : Int) 2 = ((S / 2 ^ i / 2 : Nat) : Int) := by
        rw [Int.tdiv_eq_ediv_of_nonneg (Int.natCast_nonneg _)]; rfl
      rw [h1, Nat.div_div_eq_div_mul, ← Nat.pow_succ]
      have h2 : S / 2 ^ (i + 1) < 2 ^ 64 := Nat.lt_of_le_of_lt (Nat.div_le_self _ _) hS
      exact u64_nat _ h2
    have hmod : (Int.tmod ((S / 2 ^ i : Nat) : Int) 2 = 1) ↔ tb (S : Int) (i : Int) = true := by
      rw [Int.tmod_eq_emod_of_nonneg (Int.natCast_nonneg _), ← tb_nat hS, Nat.testBit_eq_decide_div_mod_eq, decide_eq_true_eq]
      generalize S / 2 ^ i = q
      omega
    have hp := @pick_snoc (fun j => tb (S : Int) (j : Int)) i 0
    rw [Nat.zero_add] at hp
    simp +decide only [go_sem]
    refine Wif_of (fun h => ?_) (fun h => ?_)
    · have h' : tb (S : Int) (i : Int) = true := hmod.mp (by simpa using h)
      simp +decide only [go_sem, happ, hw, hdiv]
      refine ih (n - 1) _ (by omega) ⟨i + 1, v', by omega, ⟨rfl, rfl, rfl, rfl, trivial⟩, rfl, ?_⟩
      rw [hp, if_pos h']; exact hA'
    · have h' : ¬ tb (S : Int) (i : Int) = true := fun e => by
        have := hmod.mpr e
        rw [this] at h; cases h
      simp +decide only [go_sem, hw, hdiv]
      refine ih (n - 1) _ (by omega) ⟨i + 1, v, by omega, ⟨rfl, rfl, rfl, rfl, trivial⟩, rfl, ?_⟩
      rw [hp, if_neg h', List.append_nil]; exact hA
  · have hi' : i = 64 := by
      have : ¬ (i : Int) < 64 := by simpa using h
      omega
    subst hi'
    obtain ⟨o, rfl⟩ := hA.is
    simp +decide only [go_sem]
    exact ⟨_, rfl, rfl, rfl⟩
end
end Go.Proofs.Ytplpmelpoajpdaa.Ev
namespace Go.Proofs.Ytplpmelpoajpdaa.Ev
open Go Go.Proofs
set_option linter.unusedVariables false
set_option linter.unusedSimpArgs false
open Go.RowKit (wrap64)
set_option maxRecDepth 100000
section
variable {X : Prims} (hX : Low X)
include hX
theorem up_g (t : List SVtx) (v x : Int) (ht : t.length ≤ 1000) : Gv P X 48 [encT t, I v, I x] (I (up t v x)) := by
  refine gv_of (hX _ (by decide)) fun48 rfl ?_
  simp +decide only [Try.f48, encT, go_sem]
  refine W_ind (fun n s => ∃ u : Int, u < n ∧ up t v x = upN t x (n + 1) u ∧ FrIs 35 [(0, .sl .no (t.map encV)), (1, I u), (2, I x)] s.fr ∧ s.S = [] ∧ s.T = []) ?_ (n := max t.length (v.toNat + 1)) ⟨v, by omega, ?_, ⟨rfl, rfl, rfl, rfl, trivial⟩, rfl, rfl⟩
  · rintro n ⟨L, S, T⟩ ih ⟨u, hu, he, hF, rfl, rfl⟩
    obtain ⟨j, rfl⟩ := hF.ex
    by_cases h1 : 0 ≤ u
    · by_cases h2 : u < (t.length : Int)
      · have hx := vtx_at (show u.toNat < t.length by omega)
        rw [upN, if_pos ⟨h1, h2⟩] at he
        simp +decide only [fr, jl, Nat.reduceAdd, go_sem, h1, h2, hx, encV]
        refine Wif_of (fun h => ?_) (fun h => ?_)
        · rw [if_pos (by simpa using h)] at he
          simp +decide only [go_sem]
          exact ⟨_, rfl, rfl, by rw [he]⟩
        · rw [if_neg (by simpa using h)] at he
          simp +decide only [go_sem, h1, hx, encV]
          refine Wif_of (fun h => ?_) (fun h => ?_)
          · rw [if_pos (by simpa using h)] at he
            simp +decide only [go_sem]
            exact ⟨_, rfl, rfl, by rw [he]⟩
          · have hlt : par t u.toNat < u := by simpa using h
            rw [if_neg (by omega)] at he
            simp +decide only [go_sem, h1, hx, encV]
            refine ih (n - 1) _ (by omega) ⟨par t u.toNat, by omega, ?_, ⟨rfl, rfl, rfl, rfl, trivial⟩, rfl, rfl⟩
            rw [he]; congr 1; omega
      · rw [upN, if_neg (fun h => h2 h.2)] at he
        simp +decide only [fr, jl, Nat.reduceAdd, go_sem, h1, h2]
        exact ⟨_, rfl, rfl, by rw [he]⟩
    · rw [upN, if_neg (fun h => h1 h.1)] at he
      simp +decide only [fr, jl, Nat.reduceAdd, go_sem, h1]
      exact ⟨_, rfl, rfl, by rw [he]⟩
  · by_cases h : v < (t.length : Int)
    · exact upN_more t x _ _ v (by omega) (by omega) (by omega) (by omega)
    · rw [up, upN, upN, if_neg (by omega), if_neg (by omega)]
end
end Go.Proofs.Ytplpmelpoajpdaa.Ev
namespace Go.Proofs.Ytplpmelpoajpdaa.Ev
open Go Go.Proofs
set_option linter.unusedVariables false
set_option linter.unusedSimpArgs false
open Go.RowKit (wrap64)
set_option maxRecDepth 100000
/-! Layer 2. -/
def procN (t : List SVtx) : Nat := if Valid t then (vsOf t 3).length else 0
def inP (t : List SVtx) (a : Int) : Prop := 0 ≤ a ∧ a < (procN t : Int)
instance (t : List SVtx) (a : Int) : Decidable (inP t a) := inferInstanceAs (Decidable (_ ∧ _))
def vx (t : List SVtx) (a : Int) : Nat := (rd (vsOf t 3) a).toNat
theorem inP.valid {t : List SVtx} {a : Int} (h : inP t a) : Valid t := by
  unfold inP procN at h
  by_cases hv : Valid t
  · exact hv
  · rw [if_neg hv] at h; omega
theorem procN_of {t : List SVtx} (h : Valid t) : procN t = (vsOf t 3).length := by rw [procN, if_pos h]
theorem vx_at {t : List SVtx} {a : Int} (h : inP t a) : vx t a < t.length ∧ lev t (vx t a) = 3 ∧ rd (vsOf t 3) a = (vx t a : Int) := by
  have hv := h.valid
  have h2 := h.2
  rw [procN_of hv] at h2
  obtain ⟨j, h1, _, h3, h4⟩ := get_pick h.1 h2
  have h5 : vx t a = j := by unfold vx; unfold vsOf; rw [h1]; rfl
  rw [h5]
  exact ⟨by omega, of_decide_eq_true h4, h1⟩
theorem getD_lt_of_sorted {l : List Int} (h : l.Pairwise (· < ·)) {i j : Nat} (hij : i < j) (hj : j < l.length) : l.getD i 0 < l.getD j 0 := by
  rw [List.getD_eq_getElem?_getD, List.getD_eq_getElem?_getD, List.getElem?_eq_getElem hj, List.getElem?_eq_getElem (show i < l.length by omega)]
  exact List.pairwise_iff_getElem.mp h i j (by omega) hj hij
theorem vx_inj {t : List SVtx} {a b : Int} (ha : inP t a) (hb : inP t b) (h : vx t a = vx t b) : a = b := by
  have hv := ha.valid
  have e1 := (vx_at ha).2.2
  have e2 := (vx_at hb).2.2
  have a2 := ha.2
  have b2 := hb.2
  rw [procN_of hv] at a2 b2
  rw [← h] at e2
  have hs : (vsOf t 3).Pairwise (· < ·) := pick_sorted
  have a0 := ha.1
  have b0 := hb.1
  rcases Int.lt_trichotomy a b with hlt | rfl | hlt
  · have := getD_lt_of_sorted hs (show a.toNat < b.toNat by omega) (by omega)
    have e3 : (vsOf t 3).getD a.toNat 0 = rd (vsOf t 3) a := rfl
    have e4 : (vsOf t 3).getD b.toNat 0 = rd (vsOf t 3) b := rfl
    rw [e3, e4] at this
    omega
  · rfl
  · have := getD_lt_of_sorted hs (show b.toNat < a.toNat by omega) (by omega)
    have e3 : (vsOf t 3).getD a.toNat 0 = rd (vsOf t 3) a := rfl
    have e4 : (vsOf t 3).getD b.toNat 0 = rd (vsOf t 3) b := rfl
    rw [e3, e4] at this
    omega
def farV (t : List SVtx) (v w : Nat) : Nat := if v = w then 0 else if anc t 1 v = anc t 1 w then 1 else if anc t 2 v = anc t 2 w then 2 else 3
def farOf (t : List SVtx) (a b : Int) : Int := if inP t a ∧ inP t b then (farV t (vx t a) (vx t b) : Int) else -1
theorem anc3 {t : List SVtx} (h : Valid t) {v : Nat} (hv : v < t.length) (hl : lev t v = 3) : anc t 3 v = 0 := by
  have h1 := anc_at h 3 v hv (by omega)
  by_cases h0 : anc t 3 v = 0
  · exact h0
  · have h2 := (h.at_ h1.1).2.2 h0
    have h3 := (h.at_ (show (par t (anc t 3 v)).toNat < t.length by omega)).1
    omega
theorem up_at {t : List SVtx} (h : Valid t) {v : Nat} (hv : v < t.length) (hl : lev t v = 3) (d : Nat) (hd : d ≤ 3) : up t (v : Int) (3 - d) = (anc t d v : Nat) := by
  have := up_anc h d v hv (by omega)
  rw [hl] at this
  exact this
/-- Where a number first stands in a list; -1: nowhere. -/
def idxN (l : List Int) (x : Int) : Nat → Nat → Int
  | 0, _ => -1
  | m + 1, i => if rd l (i : Int) = x then (i : Int) else idxN l x m (i + 1)
def idxOf (l : List Int) (x : Int) : Int := idxN l x l.length 0
theorem idxN_at {l : List Int} {x : Int} : ∀ {m i : Nat}, i + m = l.length → (idxN l x m i = -1 ∧ (∀ j : Nat, i ≤ j → j < l.length → rd l (j : Int) ≠ x)) ∨ ∃ j : Nat, idxN l x m i = (j : Int) ∧ i ≤ j ∧ j < l.length ∧ rd l (j : Int) = x
  | 0, i, h => .inl ⟨rfl, fun j h1 h2 => by omega⟩
  | m + 1, i, h => by
    unfold idxN
    by_cases hx : rd l (i : Int) = x
    · rw [if_pos hx]
      exact .inr ⟨i, rfl, Nat.le_refl _, by omega, hx⟩
    · rw [if_neg hx]
      rcases @idxN_at l x m (i + 1) (by omega) with ⟨h1, h2⟩ | ⟨j, h1, h2, h3, h4⟩
      · refine .inl ⟨h1, fun j hj1 hj2 => ?_⟩
        by_cases hj : j = i
        · subst hj; exact hx
        · exact h2 j (by omega) hj2
      · exact .inr ⟨j, h1, by omega, h3, h4⟩
theorem idxOf_mem {l : List Int} {x : Int} (h : x ∈ l) : 0 ≤ idxOf l x ∧ idxOf l x < l.length ∧ rd l (idxOf l x) = x := by
  rcases @idxN_at l x l.length 0 (by omega) with ⟨h1, h2⟩ | ⟨j, h1, h2, h3, h4⟩
  · exfalso
    obtain ⟨i, hi, he⟩ := List.getElem_of_mem h
    refine h2 i (Nat.zero_le _) hi ?_
    show l.getD i 0 = x
    rw [List.getD_eq_getElem?_getD, List.getElem?_eq_getElem hi]
    exact he
  · have : idxOf l x = (j : Int) := h1
    rw [this]
    exact ⟨by omega, by omega, h4⟩
def nodeOf (t : List SVtx) (p : Int) : Int := if inP t p then idxOf (vsOf t 1) (anc t 2 (vx t p) : Nat) else -1
theorem vsOf_len (t : List SVtx) (x : Int) : (vsOf t x).length ≤ t.length := pick_len
theorem anc2_node {t : List SVtx} {p : Int} (hp : inP t p) : ((anc t 2 (vx t p) : Nat) : Int) ∈ vsOf t 1 := by
  obtain ⟨h1, h2, -⟩ := vx_at hp
  have := anc_at hp.valid 2 _ h1 (by omega)
  exact pick_mem.mpr ⟨_, rfl, by omega, by omega, decide_eq_true (by omega)⟩
theorem nodeOf_eq {t : List SVtx} {a b : Int} (ha : inP t a) (hb : inP t b) : nodeOf t a = nodeOf t b ↔ anc t 2 (vx t a) = anc t 2 (vx t b) := by
  unfold nodeOf
  rw [if_pos ha, if_pos hb]
  have h1 := idxOf_mem (anc2_node ha)
  have h2 := idxOf_mem (anc2_node hb)
  constructor
  · intro h
    rw [h] at h1
    have := h1.2.2.symm.trans h2.2.2
    omega
  · intro h
    rw [h]
theorem farV_le (t : List SVtx) (v w : Nat) : farV t v w ≤ 3 := by
  unfold farV; split
  · omega
  · split
    · omega
    · split <;> omega
theorem farOf_of {t : List SVtx} {a b : Int} (ha : inP t a) (hb : inP t b) : farOf t a b = (farV t (vx t a) (vx t b) : Int) := by rw [farOf, if_pos ⟨ha, hb⟩]
theorem farOf_no {t : List SVtx} {a b : Int} (h : ¬ (inP t a ∧ inP t b)) : farOf t a b = -1 := by rw [farOf, if_neg h]
theorem anc_eq_up {t : List SVtx} {v w : Nat} : ∀ {d : Nat}, anc t d v = anc t d w → ∀ e, d ≤ e → anc t e v = anc t e w := by
  intro d h e he
  induction e with
  | zero => have : d = 0 := by omega
            subst this; exact h
  | succ e ih =>
    by_cases hd : d = e + 1
    · subst hd; exact h
    · rw [anc_succ, anc_succ, ih (by omega)]
/-- How far: the first step at which the vertices above are one. -/
theorem farV_iff {t : List SVtx} (h : Valid t) {v w : Nat} (hv : v < t.length) (hl : lev t v = 3) (hw : w < t.length) (hm : lev t w = 3) (d : Nat) : farV t v w ≤ d ↔ (d ≥ 3 ∨ anc t d v = anc t d w) := by
  have a0 : ∀ x, anc t 0 x = x := fun _ => rfl
  unfold farV
  by_cases h0 : v = w
  · rw [if_pos h0]; subst h0; exact ⟨fun _ => .inr rfl, fun _ => Nat.zero_le _⟩
  · rw [if_neg h0]
    by_cases h1 : anc t 1 v = anc t 1 w
    · rw [if_pos h1]
      constructor
      · intro hd; exact .inr (anc_eq_up h1 d hd)
      · rintro (hd | hd)
        · omega
        · rcases Nat.eq_zero_or_pos d with rfl | hp
          · exact absurd hd h0
          · exact hp
    · rw [if_neg h1]
      by_cases h2 : anc t 2 v = anc t 2 w
      · rw [if_pos h2]
        constructor
        · intro hd; exact .inr (anc_eq_up h2 d hd)
        · rintro (hd | hd)
          · omega
          · rcases Nat.lt_or_ge d 2 with hlt | hge
            · exact absurd (anc_eq_up hd 1 (by omega)) h1
            · exact hge
      · rw [if_neg h2]
        constructor
        · intro hd; exact .inl hd
        · rintro (hd | hd)
          · exact hd
          · rcases Nat.lt_or_ge d 3 with hlt | hge
            · exact absurd (anc_eq_up hd 2 (by omega)) h2
            · exact hge

theorem rd_at {l : List Int} {i : Nat} (h : i < l.length) : l[i]? = some (rd l (i : Int)) := by
  simp [rd, List.getD_eq_getElem?_getD, h]
theorem farV_first {t : List SVtx} {v w d : Nat} (hd : d ≤ 3) (h3 : anc t 3 v = anc t 3 w) (he : anc t d v = anc t d w) (hn : ∀ e, e < d → anc t e v ≠ anc t e w) : farV t v w = d := by
  have a0 : ∀ x, anc t 0 x = x := fun _ => rfl
  unfold farV
  match d, hd, he, hn with
  | 0, _, he, _ => rw [a0, a0] at he; rw [if_pos he]
  | 1, _, he, hn => rw [if_neg (by have := hn 0 (by omega); rwa [a0, a0] at this), if_pos he]
  | 2, _, he, hn => rw [if_neg (by have := hn 0 (by omega); rwa [a0, a0] at this), if_neg (hn 1 (by omega)), if_pos he]
  | 3, _, he, hn => rw [if_neg (by have := hn 0 (by omega); rwa [a0, a0] at this), if_neg (hn 1 (by omega)), if_neg (hn 2 (by omega))]
section
variable {X : Prims} (hX : Low X)
include hX
theorem proc_g (t : List SVtx) (p : Int) (ht : t.length ≤ 1000) : Gv P X 47 [encT t, I p] (I (if inP t p then (vx t p : Int) else -1)) := by
  refine gv_of (hX _ (by decide)) fun47 rfl ?_
  simp +decide only [Try.f47, encT, go_sem]
  refine WO_call rfl rfl rfl rfl rfl (check_g hX t ht) ?_
  by_cases hv : Valid t
  · rw [if_pos hv]
    simp +decide only [go_sem, Int.reduceBNe]
    refine WO_call rfl rfl rfl rfl rfl (procs_g hX t ht) ?_
    by_cases h0 : 0 ≤ p
    · by_cases h1 : p < ((vsOf t 3).length : Int)
      · have hin : inP t p := ⟨h0, by rw [procN_of hv]; exact h1⟩
        have hx := rd_at (l := vsOf t 3) (i := p.toNat) (by omega)
        have hp : ((p.toNat : Nat) : Int) = p := by omega
        rw [hp, (vx_at hin).2.2] at hx
        simp +decide only [go_sem, h0, h1, hx]
        exact ⟨_, rfl, rfl, by rw [if_pos hin]⟩
      · simp +decide only [go_sem, h0, h1]
        exact ⟨_, rfl, rfl, by rw [if_neg (fun h : inP t p => h1 (by have := h.2; rwa [procN_of hv] at this))]⟩
    · simp +decide only [go_sem, h0]
      exact ⟨_, rfl, rfl, by rw [if_neg (fun h : inP t p => h0 h.1)]⟩
  · rw [if_neg hv]
    simp +decide only [go_sem, Int.reduceBNe]
    exact ⟨_, rfl, rfl, by rw [if_neg (fun h : inP t p => hv h.valid)]⟩
theorem far_g (t : List SVtx) (a b : Int) (ht : t.length ≤ 1000) : Gv P X 17 [encT t, I a, I b] (I (farOf t a b)) := by
  refine gv_of (hX _ (by decide)) fun17 rfl ?_
  simp +decide only [Try.f17, encT, go_sem]
  refine WO_call rfl rfl rfl rfl rfl (proc_g hX t a ht) ?_
  simp +decide only [go_sem]
  refine WO_call rfl rfl rfl rfl rfl (proc_g hX t b ht) ?_
  unfold farOf
  by_cases ha : inP t a
  · have ha0 : ¬ (vx t a : Int) < 0 := by omega
    by_cases hb : inP t b
    · have hb0 : ¬ (vx t b : Int) < 0 := by omega
      obtain ⟨h1, h2, -⟩ := vx_at ha
      obtain ⟨h3, h4, -⟩ := vx_at hb
      have hv := ha.valid
      rw [if_pos ha, if_pos hb, if_pos ⟨ha, hb⟩]
      simp +decide only [go_sem, ha0, hb0]
      refine W_ind (fun n s => ∃ d : Nat, d + n = 3 ∧ (∀ e, e < d → anc t e (vx t a) ≠ anc t e (vx t b)) ∧ FrIs 37 [(0, .sl .no (t.map encV)), (7, I (vx t a)), (8, I (vx t b)), (9, I d)] s.fr ∧ s.S = [] ∧ s.T = []) ?_ (n := 3) ⟨0, rfl, fun e h => absurd h (Nat.not_lt_zero e), ⟨rfl, rfl, rfl, rfl, rfl, trivial⟩, rfl, rfl⟩
      rintro n ⟨L, S, T⟩ ih ⟨d, hd, hn, hF, rfl, rfl⟩
      obtain ⟨j, rfl⟩ := hF.ex
      have e1 : IntKind.i64.wrap (3 - (d : Int)) = 3 - d := wrap64_of (by omega)
      have hw := wrap_nat d (by omega)
      simp +decide only [fr, jl, Nat.reduceAdd, go_sem, e1]
      refine WO_call rfl rfl rfl rfl rfl (up_g hX t (vx t a) (3 - d) ht) ?_
      simp +decide only [go_sem]
      refine WO_call rfl rfl rfl rfl rfl (up_g hX t (vx t b) (3 - d) ht) ?_
      rw [up_at hv h1 h2 d (by omega), up_at hv h3 h4 d (by omega)]
      simp +decide only [go_sem]
      refine Wif_of (fun h => ?_) (fun h => ?_)
      · have he : anc t d (vx t a) = anc t d (vx t b) := by
          have : ((anc t d (vx t a) : Nat) : Int) = (anc t d (vx t b) : Nat) := by simpa using h
          omega
        simp +decide only [go_sem]
        exact ⟨_, rfl, rfl, by rw [farV_first (by omega) (by rw [anc3 hv h1 h2, anc3 hv h3 h4]) he hn]⟩
      · have he : anc t d (vx t a) ≠ anc t d (vx t b) := by
          have : ¬ ((anc t d (vx t a) : Nat) : Int) = (anc t d (vx t b) : Nat) := by simpa using h
          omega
        have h3d : d ≠ 3 := fun h => by subst h; exact he (by rw [anc3 hv h1 h2, anc3 hv h3 h4])
        simp +decide only [go_sem, hw]
        refine ih (n - 1) _ (by omega) ⟨d + 1, by omega, fun e h => ?_, ⟨rfl, rfl, rfl, rfl, rfl, trivial⟩, rfl, rfl⟩
        by_cases hed : e = d
        · subst hed; exact he
        · exact hn e (by omega)
    · rw [if_pos ha, if_neg hb, if_neg (fun h : inP t a ∧ inP t b => hb h.2)]
      simp +decide only [go_sem, ha0]
      exact ⟨_, rfl, rfl, rfl⟩
  · rw [if_neg ha, if_neg (fun h : inP t a ∧ inP t b => ha h.1)]
    simp +decide only [go_sem]
    exact ⟨_, rfl, rfl, rfl⟩
theorem index_g (l : List Int) (x : Int) (hl : l.length ≤ 100000) : Gv P X 95 [L l, I x] (I (idxOf l x)) := by
  refine gv_of (hX _ (by decide)) fun95 rfl ?_
  simp +decide only [Try.f95, go_sem]
  refine W_ind (fun n s => ∃ i : Nat, i + n = l.length ∧ idxOf l x = idxN l x n i ∧ FrIs 19 [(0, L l), (1, I x), (7, I l.length), (8, I i)] s.fr ∧ s.S = [] ∧ s.T = []) ?_ (n := l.length) ⟨0, by omega, rfl, ⟨rfl, rfl, rfl, rfl, rfl, trivial⟩, rfl, rfl⟩
  rintro n ⟨L, S, T⟩ ih ⟨i, hi, he, hF, rfl, rfl⟩
  obtain ⟨j, rfl⟩ := hF.ex
  have hw := wrap_nat i (by omega)
  simp +decide only [fr, jl, Nat.reduceAdd, go_sem]
  refine Wif_of (fun h => ?_) (fun h => ?_)
  · have hlt : i < l.length := by simpa using h
    have hx := rd_at hlt
    obtain ⟨m, rfl⟩ : ∃ m, n = m + 1 := ⟨n - 1, by omega⟩
    rw [idxN] at he
    simp +decide only [go_sem, hx]
    refine Wif_of (fun h => ?_) (fun h => ?_)
    · have h' : x = rd l i := by simpa using h
      rw [if_pos h'.symm] at he
      simp +decide only [go_sem]
      exact ⟨_, rfl, rfl, by rw [he]⟩
    · have h' : x ≠ rd l i := by simpa using h
      rw [if_neg (fun h2 => h' h2.symm)] at he
      simp +decide only [go_sem, hw]
      exact ih m _ (by omega) ⟨i + 1, by omega, he, ⟨rfl, rfl, rfl, rfl, rfl, trivial⟩, rfl, rfl⟩
  · have hi' : n = 0 := by simp at h; omega
    subst hi'
    simp +decide only [go_sem]
    exact ⟨_, rfl, rfl, by rw [he]; rfl⟩
end
end Go.Proofs.Ytplpmelpoajpdaa.Ev
namespace Go.Proofs.Ytplpmelpoajpdaa.Ev
open Go Go.Proofs
open Go.RowKit (wrap64)
set_option linter.unusedVariables false
set_option linter.unusedSimpArgs false
set_option maxRecDepth 100000
theorem mem_take_succ {l : List Int} {x : Int} {i : Nat} (h : i < l.length) : x ∈ l.take (i + 1) ↔ x ∈ l.take i ∨ x = rd l i := by
  rw [List.take_add_one, rd_at h]
  simp
section
variable {X : Prims} (hX : Low X)
include hX
theorem in_g (l : List Int) (x : Int) (hl : l.length ≤ 1000000) : Gv P X 44 [L l, I x] (B (decide (x ∈ l))) := by
  refine gv_of (hX _ (by decide)) fun44 rfl ?_
  simp +decide only [Try.f44, go_sem]
  refine W_ind (fun n s => ∃ i : Nat, i + n = l.length ∧ ¬ x ∈ l.take i ∧ FrIs 18 [(0, L l), (1, I x), (5, I i)] s.fr ∧ s.S = [] ∧ s.T = []) ?_ (n := l.length) ⟨0, by omega, by simp, ⟨rfl, rfl, rfl, rfl, trivial⟩, rfl, rfl⟩
  rintro n ⟨L, S, T⟩ ih ⟨i, hi, hn, hF, rfl, rfl⟩
  obtain ⟨j, rfl⟩ := hF.ex
  have hw := wrap_nat i (by omega)
  simp +decide only [fr, jl, Nat.reduceAdd, go_sem]
  refine Wif_of (fun h => ?_) (fun h => ?_)
  · have hlt : i < l.length := by simpa using h
    have hx := rd_at hlt
    simp +decide only [go_sem, hx]
    refine Wif_of (fun h => ?_) (fun h => ?_)
    · have h' : x = rd l i := by simpa using (Eq.symm (by simpa using h : rd l i = x))
      simp +decide only [go_sem]
      exact ⟨_, rfl, rfl, by rw [decide_eq_true (List.mem_of_mem_take ((mem_take_succ hlt).mpr (.inr h')))]⟩
    · have h' : ¬ rd l i = x := by simpa using h
      simp +decide only [go_sem, hw]
      exact ih (n - 1) _ (by omega) ⟨i + 1, by omega, fun e => ((mem_take_succ hlt).mp e).elim hn (fun e => h' e.symm), ⟨rfl, rfl, rfl, rfl, trivial⟩, rfl, rfl⟩
  · have hi' : i = l.length := by simp at h; omega
    subst hi'
    rw [List.take_length] at hn
    simp +decide only [go_sem]
    exact ⟨_, rfl, rfl, by rw [decide_eq_false hn]⟩
end
end Go.Proofs.Ytplpmelpoajpdaa.Ev
namespace Go.Proofs.Ytplpmelpoajpdaa.Ev
open Go Go.Proofs
open Go.RowKit (wrap64)
set_option linter.unusedVariables false
set_option linter.unusedSimpArgs false
set_option maxRecDepth 100000
/-- A ring. -/
structure SRr where
  f0 : Int
  f1 : List Int
  deriving Inhabited, DecidableEq
def encG (x : SRr) : AV := .agg [I x.f0, L x.f1]
/-- Runs: the tree, the size, rings, shared rows, who is on. -/
def encRR (t : List SVtx) (a : Int) (R : List SRr) (H : List (List Int)) (s : Int) : AV := .agg [.sl .no (t.map encV), I a, .sl .no (R.map encG), .sl .no (H.map L), U s]
section
variable {X : Prims} (hX : Low X)
include hX
theorem on_g {s : Int} (hs : U64 s) (t : List SVtx) (a : Int) (R : List SRr) (H : List (List Int)) (p : Int) : Gv P X 20 [encRR t a R H s, I p] (B (tb s p)) := by
  refine gv_of (hX _ (by decide)) fun20 rfl ?_
  simp +decide only [Try.f20, encRR, go_sem, Nat.reduceAdd]
  refine WO_call rfl rfl rfl rfl rfl (rall_g hX hs) ?_
  simp +decide only [go_sem]
  refine WO_call rfl rfl rfl rfl rfl (in_g hX (allB s) p (by have := allB_len s; omega)) ?_
  have h : decide (p ∈ allB s) = tb s p := by
    by_cases h : tb s p = true
    · rw [decide_eq_true (allB_mem.mpr h), h]
    · rw [decide_eq_false (fun e => h (allB_mem.mp e))]; simpa using h
  rw [h]
  simp +decide only [go_sem]
  exact ⟨_, rfl, rfl, rfl⟩
end
end Go.Proofs.Ytplpmelpoajpdaa.Ev
namespace Go.Proofs.Ytplpmelpoajpdaa.Ev
open Go Go.Proofs
open Go.RowKit (wrap64)
set_option linter.unusedVariables false
set_option linter.unusedSimpArgs false
set_option maxRecDepth 100000
def ringAll (n : Int) (L : List Int) : List Int := if n = 0 then L else n :: L
theorem ringAll_len (n : Int) (L : List Int) : (ringAll n L).length ≤ L.length + 1 := by unfold ringAll; split <;> simp
theorem app_ints {T : Toks} {v : AV} {l : List Int} (hA : App P 3 T v (l.map I)) (m : List Int) (o : Tok) (hl : l.length + m.length ≤ 100000) :
    ∃ v' T', (∀ S, appX P false 48 v (.sl o (m.map I)) S T = some (v', S, T')) ∧ App P 3 T' v' ((l ++ m).map I) := by
  obtain ⟨v', T', h1, h2⟩ := hA.go (t := 48) (m := m.map I) (o := o) ty48.2.2.2.2 ty3.1 ty3.2.2.1 ty3.2.2.2 (by simp only [uniI, allI]; rfl) (by simp; omega) (by simp [maxLen]; omega)
  exact ⟨v', T', h1, by simpa using h2⟩
section
variable {X : Prims} (hX : Low X)
include hX
theorem ring_all_g (n : Int) (l : List Int) (h : l.length ≤ 1000) : Gv P X 34 [encG ⟨n, l⟩] (L (ringAll n l)) := by
  refine gv_of (hX _ (by decide)) fun34 rfl ?_
  unfold ringAll
  by_cases h0 : n = 0
  · subst h0
    obtain ⟨v', T', happ, hA'⟩ := app_ints (T := []) App.nil (l := []) l .no (by simp; omega)
    simp +decide only [Try.f34, encG, go_sem, Nat.reduceAdd, bne_self_eq_false, happ]
    obtain ⟨o, rfl⟩ := hA'.is
    exact ⟨_, rfl, rfl, rfl⟩
  · have h0' : (n != 0) = true := by simpa using h0
    obtain ⟨v1, T1, happ1, hA1⟩ := app_ints (T := []) App.nil (l := []) [n] .full (by simp)
    obtain ⟨v2, T2, happ2, hA2⟩ := app_ints hA1 l .no (by simp; omega)
    simp only [List.map_cons, List.map_nil] at happ1
    simp +decide only [Try.f34, encG, go_sem, Nat.reduceAdd, h0', happ1, happ2]
    obtain ⟨o, rfl⟩ := hA2.is
    exact ⟨_, rfl, rfl, by rw [if_neg h0]; rfl⟩
theorem rring_all_g (n : Int) (l : List Int) (h : l.length ≤ 1000) : Gv P X 42 [encG ⟨n, l⟩] (L (ringAll n l)) := by
  refine gv_of (hX _ (by decide)) fun42 rfl ?_
  unfold ringAll
  by_cases h0 : n = 0
  · have h0' : (n == 0) = true := by simpa using h0
    simp +decide only [Try.f42, encG, go_sem, Nat.reduceAdd, h0']
    exact ⟨_, rfl, rfl, by rw [if_pos h0]⟩
  · have h0' : (n == 0) = false := by simpa using h0
    have hF : App P 3 [] (.sl .full ([n].map I)) ([n].map I) := .inr (.inl ⟨rfl, uniI _⟩)
    obtain ⟨v2, T2, happ2, hA2⟩ := app_ints hF l .no (by simp; omega)
    simp only [List.map_cons, List.map_nil] at happ2
    simp +decide only [Try.f42, encG, go_sem, Nat.reduceAdd, h0', happ2]
    obtain ⟨o, rfl⟩ := hA2.is
    exact ⟨_, rfl, rfl, by rw [if_neg h0]; rfl⟩
end
end Go.Proofs.Ytplpmelpoajpdaa.Ev
namespace Go.Proofs.Ytplpmelpoajpdaa.Ev
open Go Go.Proofs
open Go.RowKit (wrap64)
set_option linter.unusedVariables false
set_option linter.unusedSimpArgs false
set_option maxRecDepth 100000
theorem idx_iff (l : List Int) (x : Int) : decide (0 ≤ idxOf l x) = decide (x ∈ l) := by
  by_cases h : x ∈ l
  · rw [decide_eq_true h, decide_eq_true (idxOf_mem h).1]
  · rw [decide_eq_false h]
    rcases idxN_at (l := l) (x := x) (m := l.length) (i := 0) (by omega) with ⟨h1, _⟩ | ⟨j, _, _, h3, h4⟩
    · exact decide_eq_false (by unfold idxOf; omega)
    · exact absurd (by rw [← h4]; simp only [rd, Int.toNat_natCast, List.getD_eq_getElem?_getD, List.getElem?_eq_getElem h3, Option.getD_some]; exact List.getElem_mem h3) h
section
variable {X : Prims} (hX : Low X)
include hX
theorem contains_g (l : List Int) (x : Int) (hl : l.length ≤ 100000) : Gv P X 63 [L l, I x] (B (decide (x ∈ l))) := by
  refine gv_of (hX _ (by decide)) fun63 rfl ?_
  simp +decide only [Try.f63, go_sem]
  refine WO_call rfl rfl rfl rfl rfl (index_g hX l x hl) ?_
  simp +decide only [go_sem, idx_iff]
  exact ⟨_, rfl, rfl, rfl⟩
end
end Go.Proofs.Ytplpmelpoajpdaa.Ev
namespace Go.Proofs.Ytplpmelpoajpdaa.Ev
open Go Go.Proofs
open Go.RowKit (wrap64)
set_option linter.unusedVariables false
set_option linter.unusedSimpArgs false
set_option maxRecDepth 100000
def mx (a b : Int) : Int := if a < b then b else a
def okL (l : List Int) (i : Nat) : Bool := decide (∀ j : Nat, j < l.length → i ≤ j → 1 ≤ rd l (j : Int) ∧ rd l (j : Int) ∉ l.take j)
theorem okL_no {l : List Int} {i : Nat} (h : i < l.length) (hn : rd l (i : Int) < 1 ∨ rd l (i : Int) ∈ l.take i) : okL l 0 = false := decide_eq_false fun H => by
  have := H i h (Nat.zero_le _)
  rcases hn with h | h
  · omega
  · exact this.2 h
section
variable {X : Prims} (hX : Low X)
include hX
theorem ring_may_g (n : Int) (l : List Int) (size : Int) (h : l.length ≤ 1000) : Gv P X 62 [encG ⟨n, l⟩, I size] (B (okL (ringAll n l) 0 && decide ((l.length : Int) ≤ mx size 2))) := by
  refine gv_of (hX _ (by decide)) fun62 rfl ?_
  simp +decide only [Try.f62, encG, go_sem, Nat.reduceAdd]
  refine WO_call rfl rfl rfl rfl rfl (ring_all_g hX n l h) ?_
  have hA := ringAll_len n l
  generalize ringAll n l = A at hA
  simp +decide only [go_sem]
  refine W_ind (fun k s => ∃ i : Nat, i + k = A.length ∧ FrIs 33 [(1, I size), (2, .ptr 0 0), (5, L A), (10, L A), (11, I A.length), (12, I i)] s.fr ∧ s.S = [.var false [I n, L l]] ∧ s.T = [] ∧ ∀ j : Nat, j < i → 1 ≤ rd A (j : Int) ∧ rd A (j : Int) ∉ A.take j) ?_ (n := A.length) ⟨0, by omega, ⟨rfl, rfl, rfl, rfl, rfl, rfl, rfl, trivial⟩, rfl, rfl, fun j h => by omega⟩
  rintro k ⟨L', S, T⟩ ih ⟨i, hi, hF, rfl, rfl, hall⟩
  obtain ⟨j, rfl⟩ := hF.ex
  have hw := wrap_nat i (by omega)
  simp +decide only [fr, jl, Nat.reduceAdd, go_sem]
  refine Wif_of (fun h => ?_) (fun h => ?_)
  · have hlt : i < A.length := by simpa using h
    have hx := rd_at hlt
    by_cases h1 : rd A (i : Int) ≤ 0
    · simp +decide only [go_sem, hx, h1]
      refine WO_not rfl ?_
      simp +decide only [go_sem]
      exact ⟨_, rfl, rfl, by rw [okL_no hlt (.inl (by omega))]; rfl⟩
    · have hb : (i : Int) ≤ (A.length : Int) := by omega
      simp +decide only [go_sem, hx, h1, slA, hb, ← List.map_take]
      refine WO_call rfl rfl rfl rfl rfl (contains_g hX (A.take i) (rd A (i : Int)) (by simp; omega)) ?_
      by_cases h2 : rd A (i : Int) ∈ A.take i
      · simp +decide only [go_sem, h2]
        exact ⟨_, rfl, rfl, by rw [okL_no hlt (.inr h2)]; rfl⟩
      · simp +decide only [go_sem, h2, hw]
        refine ih (k - 1) _ (by omega) ⟨i + 1, by omega, ⟨rfl, rfl, rfl, rfl, rfl, rfl, rfl, trivial⟩, rfl, rfl, fun j hj => ?_⟩
        by_cases hji : j = i
        · subst hji; exact ⟨by omega, h2⟩
        · exact hall j (by omega)
  · have hi' : i = A.length := by simp at h; omega
    subst hi'
    have hok : okL A 0 = true := decide_eq_true fun j h _ => hall j h
    simp +decide only [go_sem, Nat.reduceAdd]
    exact ⟨_, rfl, rfl, by rw [hok, Bool.true_and]; rfl⟩
end
end Go.Proofs.Ytplpmelpoajpdaa.Ev
namespace Go.Proofs.Ytplpmelpoajpdaa.Ev
open Go Go.Proofs
open Go.RowKit (wrap64)
set_option linter.unusedVariables false
set_option linter.unusedSimpArgs false
set_option maxRecDepth 100000
section
variable {X : Prims} (hX : Low X)
include hX
theorem rring_may_g (n : Int) (l : List Int) (size : Int) (h : l.length ≤ 1000) : Gv P X 41 [encG ⟨n, l⟩, I size] (B (okL (ringAll n l) 0 && decide ((l.length : Int) ≤ mx size 2))) := by
  refine gv_of (hX _ (by decide)) fun41 rfl ?_
  simp +decide only [Try.f41, encG, go_sem, Nat.reduceAdd]
  refine WO_call rfl rfl rfl rfl rfl (rring_all_g hX n l h) ?_
  have hA := ringAll_len n l
  generalize ringAll n l = A at hA
  simp +decide only [go_sem]
  refine W_ind (fun k s => ∃ i : Nat, i + k = A.length ∧ FrIs 41 [(1, I size), (2, .ptr 0 0), (5, L A), (6, I i)] s.fr ∧ s.S = [.var false [I n, L l]] ∧ s.T = [] ∧ ∀ j : Nat, j < i → 1 ≤ rd A (j : Int) ∧ rd A (j : Int) ∉ A.take j) ?_ (n := A.length) ⟨0, by omega, ⟨rfl, rfl, rfl, rfl, rfl, trivial⟩, rfl, rfl, fun j h => by omega⟩
  rintro k ⟨L', S, T⟩ ih ⟨i, hi, hF, rfl, rfl, hall⟩
  obtain ⟨j, rfl⟩ := hF.ex
  have hw := wrap_nat i (by omega)
  simp +decide only [fr, jl, Nat.reduceAdd, go_sem]
  refine Wif_of (fun h => ?_) (fun h => ?_)
  · have hlt : i < A.length := by simpa using h
    have hx := rd_at hlt
    simp +decide only [go_sem]
    refine W_draw hmx (by kernel_rfl) ?_
    by_cases h1 : rd A (i : Int) < 1
    · simp +decide only [go_sem, hx, h1]
      refine WO_not rfl ?_
      simp +decide only [go_sem]
      exact ⟨_, rfl, rfl, by rw [okL_no hlt (.inl h1)]; rfl⟩
    · have hb : (i : Int) ≤ (A.length : Int) := by omega
      simp +decide only [go_sem, hx, h1, slA, hb, ← List.map_take]
      refine WO_call rfl rfl rfl rfl rfl (in_g hX (A.take i) (rd A (i : Int)) (by simp; omega)) ?_
      by_cases h2 : rd A (i : Int) ∈ A.take i
      · simp +decide only [go_sem, h2]
        exact ⟨_, rfl, rfl, by rw [okL_no hlt (.inr h2)]; rfl⟩
      · simp +decide only [go_sem, h2, hw]
        refine ih (k - 1) _ (by omega) ⟨i + 1, by omega, ⟨rfl, rfl, rfl, rfl, rfl, trivial⟩, rfl, rfl, fun j hj => ?_⟩
        by_cases hji : j = i
        · subst hji; exact ⟨by omega, h2⟩
        · exact hall j (by omega)
  · have hi' : i = A.length := by simp at h; omega
    subst hi'
    have hok : okL A 0 = true := decide_eq_true fun j h _ => hall j h
    have hmxs : decide ((l.length : Int) ≤ mx size 2) = (decide ((l.length : Int) ≤ size) || decide ((l.length : Int) ≤ 2)) := by
      rw [← Bool.decide_or]
      refine decide_eq_decide.mpr ?_
      unfold mx; split <;> omega
    by_cases h3 : (l.length : Int) ≤ size
    · simp +decide only [go_sem, Nat.reduceAdd, h3]
      exact ⟨_, rfl, rfl, by rw [hok, hmxs, decide_eq_true h3]; rfl⟩
    · simp +decide only [go_sem, Nat.reduceAdd, h3]
      exact ⟨_, rfl, rfl, by rw [hok, hmxs, decide_eq_false h3, Bool.false_or, Bool.true_and]⟩
end
end Go.Proofs.Ytplpmelpoajpdaa.Ev
namespace Go.Proofs.Ytplpmelpoajpdaa.Ev
open Go Go.Proofs
open Go.RowKit (wrap64)
set_option linter.unusedVariables false
set_option linter.unusedSimpArgs false
set_option maxRecDepth 100000
def rAll (x : SRr) : List Int := ringAll x.f0 x.f1
def allR (R : List SRr) (H : List (List Int)) : List Int := R.flatMap rAll ++ H.flatten
structure Fw (R : List SRr) (H : List (List Int)) : Prop where
  r : R.length ≤ 64
  h : H.length ≤ 64
  rl : ∀ x ∈ R, x.f1.length ≤ 500
  hl : ∀ l ∈ H, l.length ≤ 500
theorem rAll_len (x : SRr) : (rAll x).length ≤ x.f1.length + 1 := ringAll_len _ _
theorem flatMap_le {α β : Type} {f : α → List β} {m : Nat} : ∀ {l : List α}, (∀ x ∈ l, (f x).length ≤ m) → (l.flatMap f).length ≤ l.length * m
  | [], _ => by simp
  | a :: l, h => by
    rw [List.flatMap_cons, List.length_append, List.length_cons, Nat.succ_mul]
    have h1 := h a (by simp)
    have h2 := flatMap_le (l := l) (fun x hx => h x (by simp [hx]))
    omega
theorem flat_le {α : Type} {m : Nat} {l : List (List α)} (h : ∀ x ∈ l, x.length ≤ m) : l.flatten.length ≤ l.length * m := by
  have := flatMap_le (f := fun x : List α => x) (l := l) h
  rwa [List.flatMap_def, List.map_id'] at this
theorem take_snoc {α : Type} {l : List α} {i : Nat} {x : α} (h : l[i]? = some x) : l.take (i + 1) = l.take i ++ [x] := by
  rw [List.take_add_one, h]; rfl
theorem Fw.pre {R : List SRr} {H : List (List Int)} (f : Fw R H) (i : Nat) : ((R.take i).flatMap rAll).length ≤ 32064 := by
  have h1 := flatMap_le (f := rAll) (m := 501) (l := R.take i) (fun x hx => by
    have := f.rl x (List.mem_of_mem_take hx); have := rAll_len x; omega)
  have h2 : (R.take i).length ≤ 64 := by have := f.r; simp; omega
  have := Nat.mul_le_mul_right 501 h2
  omega
theorem Fw.pre2 {R : List SRr} {H : List (List Int)} (f : Fw R H) (i : Nat) : ((H.take i).flatten).length ≤ 32000 := by
  have h1 := flat_le (m := 500) (l := H.take i) (fun x hx => f.hl x (List.mem_of_mem_take hx))
  have h2 : (H.take i).length ≤ 64 := by have := f.h; simp; omega
  have := Nat.mul_le_mul_right 500 h2
  omega
theorem Fw.all {R : List SRr} {H : List (List Int)} (f : Fw R H) : (allR R H).length ≤ 64064 := by
  have h1 := f.pre R.length
  have h2 := f.pre2 H.length
  rw [List.take_length] at h1 h2
  unfold allR
  rw [List.length_append]; omega
theorem getE {α : Type} {l : List α} {i : Nat} (h : i < l.length) : ∃ x, l[i]? = some x ∧ x ∈ l := ⟨l[i], List.getElem?_eq_getElem h, List.getElem_mem h⟩
section
variable {X : Prims} (hX : Low X)
include hX
theorem runs_all_g (t : List SVtx) (a : Int) (R : List SRr) (H : List (List Int)) (s : Int) (f : Fw R H) : Gv P X 31 [encRR t a R H s] (L (allR R H)) := by
  refine gv_of (hX _ (by decide)) fun31 rfl ?_
  have hr := f.r
  have hh := f.h
  simp +decide only [Try.f31, encRR, go_sem, Nat.reduceAdd]
  refine W_ind (fun k st => ∃ (i : Nat) (v : AV), i + k = R.length ∧ FrIs 32 [(1, .ptr 0 0), (3, v), (9, .sl .no (R.map encG)), (10, I R.length), (11, I i)] st.fr ∧ st.S[0]? = some (.var false [encT t, I a, .sl .no (R.map encG), .sl .no (H.map L), U s]) ∧ App P 3 st.T v (((R.take i).flatMap rAll).map I)) ?_ (n := R.length) ⟨0, .sl .nil [], by omega, ⟨rfl, rfl, rfl, rfl, by simp, rfl, trivial⟩, rfl, .nil⟩
  rintro k ⟨L', S, T⟩ ih ⟨i, v, hi, hF, hS, hA⟩
  obtain ⟨j, rfl⟩ := hF.ex
  have hw := wrap_nat i (by omega)
  simp +decide only [fr, jl, Nat.reduceAdd, go_sem]
  refine Wif_of (fun h => ?_) (fun h => ?_)
  · have hlt : i < R.length := by simpa using h
    obtain ⟨x, hx, hm⟩ := getE hlt
    have hl := f.rl x hm
    obtain ⟨v', T', happ, hA'⟩ := app_ints hA (rAll x) .no (by have := f.pre i; have := rAll_len x; omega)
    simp +decide only [go_sem, hx, encG, List.append_assoc, wrc, splice]
    refine WO_call rfl rfl rfl rfl rfl (ring_all_g hX x.f0 x.f1 (by omega)) ?_
    change ∀ S, appX P false _ _ (L (ringAll x.f0 x.f1)) S T = _ at happ
    simp +decide only [go_sem, happ, hw]
    refine ih (k - 1) _ (by omega) ⟨i + 1, v', by omega, ⟨rfl, rfl, rfl, rfl, rfl, rfl, trivial⟩, gOld hS, ?_⟩
    rw [take_snoc hx, List.flatMap_append, List.flatMap_cons, List.flatMap_nil, List.append_nil]; exact hA'
  · have hi' : i = R.length := by simp at h; omega
    subst hi'
    rw [List.take_length] at hA
    clear ih
    simp +decide only [go_sem, hS]
    refine W_ind (fun k st => ∃ (i : Nat) (v : AV), i + k = H.length ∧ FrIs 32 [(3, v), (21, .sl .no (H.map L)), (22, I H.length), (23, I i)] st.fr ∧ App P 3 st.T v ((R.flatMap rAll ++ (H.take i).flatten).map I)) ?_ (n := H.length) ⟨0, v, by omega, ⟨rfl, rfl, rfl, by simp, rfl, trivial⟩, by simpa using hA⟩
    rintro k ⟨L', S, T⟩ ih ⟨i, v, hi, hF, hA⟩
    obtain ⟨j, rfl⟩ := hF.ex
    have hw := wrap_nat i (by omega)
    simp +decide only [fr, jl, Nat.reduceAdd, go_sem]
    refine Wif_of (fun h => ?_) (fun h => ?_)
    · have hlt : i < H.length := by simpa using h
      obtain ⟨x, hx, hm⟩ := getE hlt
      have hl := f.hl x hm
      obtain ⟨v', T', happ, hA'⟩ := app_ints hA x .no (by have h1 := f.pre R.length; rw [List.take_length] at h1; have h2 := f.pre2 i; have h3 := f.hl x hm; rw [List.length_append]; omega)
      simp +decide only [go_sem, hx, happ, hw]
      refine ih (k - 1) _ (by omega) ⟨i + 1, v', by omega, ⟨rfl, rfl, rfl, rfl, rfl, trivial⟩, ?_⟩
      rw [take_snoc hx, List.flatten_append, List.flatten_cons, List.flatten_nil, List.append_nil, ← List.append_assoc]; exact hA'
    · have hi' : i = H.length := by simp at h; omega
      subst hi'
      rw [List.take_length] at hA
      obtain ⟨o, rfl⟩ := hA.is
      simp +decide only [go_sem]
      exact ⟨_, rfl, rfl, rfl⟩
end
end Go.Proofs.Ytplpmelpoajpdaa.Ev
namespace Go.Proofs.Ytplpmelpoajpdaa.Ev
open Go Go.Proofs
open Go.RowKit (wrap64)
set_option linter.unusedVariables false
set_option linter.unusedSimpArgs false
set_option maxRecDepth 100000
section
variable {X : Prims} (hX : Low X)
include hX
theorem rruns_all_g (t : List SVtx) (a : Int) (R : List SRr) (H : List (List Int)) (s : Int) (f : Fw R H) : Gv P X 43 [encRR t a R H s] (L (allR R H)) := by
  refine gv_of (hX _ (by decide)) fun43 rfl ?_
  have hr := f.r
  have hh := f.h
  simp +decide only [Try.f43, encRR, go_sem, Nat.reduceAdd]
  refine W_ind (fun k st => ∃ (i : Nat) (v : AV), i + k = R.length ∧ FrIs 36 [(1, .ptr 0 0), (3, v), (4, I i)] st.fr ∧ st.S[0]? = some (.var false [encT t, I a, .sl .no (R.map encG), .sl .no (H.map L), U s]) ∧ App P 3 st.T v (((R.take i).flatMap rAll).map I)) ?_ (n := R.length) ⟨0, .sl .nil [], by omega, ⟨rfl, rfl, rfl, rfl, trivial⟩, rfl, .nil⟩
  rintro k ⟨L', S, T⟩ ih ⟨i, v, hi, hF, hS, hA⟩
  obtain ⟨j, rfl⟩ := hF.ex
  have hw := wrap_nat i (by omega)
  simp +decide only [fr, jl, Nat.reduceAdd, go_sem, hS]
  refine Wif_of (fun h => ?_) (fun h => ?_)
  · have hlt : i < R.length := by simpa using h
    obtain ⟨x, hx, hm⟩ := getE hlt
    have hl := f.rl x hm
    obtain ⟨v', T', happ, hA'⟩ := app_ints hA (rAll x) .no (by have := f.pre i; have := rAll_len x; omega)
    simp +decide only [go_sem, hS, hx, encG, List.append_assoc, wrc, splice]
    refine WO_call rfl rfl rfl rfl rfl (rring_all_g hX x.f0 x.f1 (by omega)) ?_
    change ∀ S, appX P false _ _ (L (ringAll x.f0 x.f1)) S T = _ at happ
    simp +decide only [go_sem, happ, hw]
    refine ih (k - 1) _ (by omega) ⟨i + 1, v', by omega, ⟨rfl, rfl, rfl, rfl, trivial⟩, hS, ?_⟩
    rw [take_snoc hx, List.flatMap_append, List.flatMap_cons, List.flatMap_nil, List.append_nil]; exact hA'
  · have hi' : i = R.length := by simp at h; omega
    subst hi'
    rw [List.take_length] at hA
    clear ih
    simp +decide only [go_sem, hS]
    refine W_ind (fun k st => ∃ (i : Nat) (v : AV), i + k = H.length ∧ FrIs 36 [(1, .ptr 0 0), (3, v), (5, I i)] st.fr ∧ st.S[0]? = some (.var false [encT t, I a, .sl .no (R.map encG), .sl .no (H.map L), U s]) ∧ App P 3 st.T v ((R.flatMap rAll ++ (H.take i).flatten).map I)) ?_ (n := H.length) ⟨0, v, by omega, ⟨rfl, rfl, rfl, rfl, trivial⟩, hS, by simpa using hA⟩
    rintro k ⟨L', S, T⟩ ih ⟨i, v, hi, hF, hS, hA⟩
    obtain ⟨j, rfl⟩ := hF.ex
    have hw := wrap_nat i (by omega)
    simp +decide only [fr, jl, Nat.reduceAdd, go_sem, hS]
    refine Wif_of (fun h => ?_) (fun h => ?_)
    · have hlt : i < H.length := by simpa using h
      obtain ⟨x, hx, hm⟩ := getE hlt
      have hl := f.hl x hm
      obtain ⟨v', T', happ, hA'⟩ := app_ints hA x .no (by have h1 := f.pre R.length; rw [List.take_length] at h1; have h2 := f.pre2 i; have h3 := f.hl x hm; rw [List.length_append]; omega)
      simp +decide only [go_sem, hS, hx, happ, hw]
      refine ih (k - 1) _ (by omega) ⟨i + 1, v', by omega, ⟨rfl, rfl, rfl, rfl, trivial⟩, hS, ?_⟩
      rw [take_snoc hx, List.flatten_append, List.flatten_cons, List.flatten_nil, List.append_nil, ← List.append_assoc]; exact hA'
    · have hi' : i = H.length := by simp at h; omega
      subst hi'
      rw [List.take_length] at hA
      obtain ⟨o, rfl⟩ := hA.is
      simp +decide only [go_sem]
      exact ⟨_, rfl, rfl, rfl⟩
end
end Go.Proofs.Ytplpmelpoajpdaa.Ev
namespace Go.Proofs.Ytplpmelpoajpdaa.Ev
open Go Go.Proofs
open Go.RowKit (wrap64)
set_option linter.unusedVariables false
set_option linter.unusedSimpArgs false
set_option maxRecDepth 100000
/-- The place of the first that is taken. -/
def idxf {α : Type} (p : α → Bool) (l : List α) : Int := if l.any p = true then (l.findIdx p : Int) else -1
theorem idxf_none {α : Type} {p : α → Bool} {l : List α} (h : ∀ x ∈ l, p x = false) : idxf p l = -1 := by
  unfold idxf
  rw [if_neg]
  intro e
  obtain ⟨x, hx, hp⟩ := List.any_eq_true.mp e
  rw [h x hx] at hp; cases hp
theorem idxf_at {α : Type} {p : α → Bool} {l : List α} {i : Nat} {x : α} (hx : l[i]? = some x) (hp : p x = true) (h : ∀ y ∈ l.take i, p y = false) : idxf p l = i := by
  obtain ⟨hi, e⟩ := List.getElem?_eq_some_iff.mp hx
  unfold idxf
  rw [if_pos (List.any_eq_true.mpr ⟨x, List.mem_of_getElem? hx, hp⟩)]
  have := (List.findIdx_eq hi).mpr ⟨by rw [e]; exact hp, fun j hj => h _ (by rw [List.mem_take_iff_getElem]; exact ⟨j, by omega, rfl⟩)⟩
  rw [this]
theorem idxf_ge {α : Type} {p : α → Bool} {l : List α} : decide (0 ≤ idxf p l) = l.any p := by
  unfold idxf
  by_cases h : l.any p = true
  · rw [if_pos h, h]; exact decide_eq_true (by omega)
  · rw [if_neg h]; simpa using h
/-- What a closure has caught: places. -/
structure Cp (cap : List AV) : Prop where
  ok : cap.all capOk = true
  d : cap.all d2 = false
  d0 : cap.all d0 = false
  n : cap.all nt = true
  t : cap.map t2 = cap
  t0 : cap.map t0 = cap
theorem Cp.ptr {i o : Nat} : Cp [.ptr i o] := ⟨rfl, rfl, rfl, rfl, rfl, rfl⟩
theorem Cp.ptrs {i o i' o' : Nat} : Cp [.ptr i o, .ptr i' o'] := ⟨rfl, rfl, rfl, rfl, rfl, rfl⟩
/-- What is asked of the closure. -/
def Takes (P : Program) (X : Prims) (g : FuncId) (cap : List AV) (S : Obs) {α : Type} (e : α → AV) (p : α → Bool) (l : List α) : Prop :=
  ∀ x ∈ l, ∀ J, Gs P X g (e x :: cap) (S ++ J) fun r S' => r = B (p x) ∧ ∃ J', S' = S ++ J'
section
variable {X : Prims} (hX : Low X)
include hX
theorem idx_ints_g (l : List Int) (hl : l.length ≤ 1000000) (g : FuncId) (cap : List AV) (S : Obs) (p : Int → Bool) (hc : Cp cap) (hg : Takes P X g cap S I p l) :
    Gs P X 91 [L l, .fn g cap] S fun r S' => r = I (idxf p l) ∧ ∃ J, S' = S ++ J := by
  refine gs_of (hX _ (by decide)) fun91 rfl ?_
  simp +decide only [Try.f91, go_sem, Nat.reduceAdd]
  refine W_ind (fun k st => ∃ i : Nat, i + k = l.length ∧ FrIs 19 [(0, L l), (1, .fn g cap), (7, I l.length), (8, I i)] st.fr ∧ (∃ J, st.S = S ++ J) ∧ st.T = [] ∧ ∀ y ∈ l.take i, p y = false) ?_ (n := l.length) ⟨0, by omega, ⟨rfl, rfl, rfl, rfl, rfl, trivial⟩, ⟨[], by simp⟩, rfl, by simp⟩
  rintro k ⟨L', S', T⟩ ih ⟨i, hi, hF, ⟨J, rfl⟩, rfl, hall⟩
  obtain ⟨j, rfl⟩ := hF.ex
  have hw := wrap_nat i (by omega)
  simp +decide only [fr, jl, Nat.reduceAdd, go_sem]
  refine Wif_of (fun h => ?_) (fun h => ?_)
  · have hlt : i < l.length := by simpa using h
    obtain ⟨x, hx, hm⟩ := getE hlt
    simp +decide only [go_sem, hx]
    refine WO_calls (g := g) (cap := cap) rfl rfl rfl hc.ok ?_ ?_ ?_
    · show (([I x] ++ cap).all d2 && !X.keep g) = false
      rw [List.all_append, hc.d, Bool.and_false, Bool.false_and]
    · show ([I x] ++ cap).all nt = true
      rw [List.all_append, hc.n]; rfl
    · show Gs P X g (List.map t2 ([I x] ++ cap)) (S ++ J) _
      rw [List.map_append, hc.t]
      refine (hg x hm J).mono fun r S' h => ?_
      obtain ⟨rfl, J', rfl⟩ := h
      simp +decide only [go_sem]
      refine Wif_of (fun h => ?_) (fun h => ?_)
      · simp +decide only [go_sem]
        exact ⟨_, rfl, by rw [idxf_at hx h hall], J', rfl⟩
      · simp +decide only [go_sem, hw]
        refine ih (k - 1) _ (by omega) ⟨i + 1, by omega, ⟨rfl, rfl, rfl, rfl, rfl, trivial⟩, ⟨J', rfl⟩, rfl, fun y hy => ?_⟩
        rw [take_snoc hx, List.mem_append] at hy
        rcases hy with hy | hy
        · exact hall y hy
        · rw [List.mem_singleton] at hy; subst hy; exact h
  · have hi' : i = l.length := by simp at h; omega
    subst hi'
    rw [List.take_length] at hall
    simp +decide only [go_sem]
    exact ⟨_, rfl, by rw [idxf_none hall], J, rfl⟩
theorem any_ints_g (l : List Int) (hl : l.length ≤ 1000000) (g : FuncId) (cap : List AV) (S : Obs) (p : Int → Bool) (hc : Cp cap) (hg : Takes P X g cap S I p l) :
    Gs P X 92 [L l, .fn g cap] S fun r S' => r = B (l.any p) ∧ ∃ J, S' = S ++ J := by
  refine gs_of (hX _ (by decide)) fun92 rfl ?_
  simp +decide only [Try.f92, go_sem, Nat.reduceAdd]
  refine WO_calls (g := 91) (cap := []) rfl rfl rfl rfl ?_ ?_ ?_
  · show (([L l, .fn g cap] ++ []).all d2 && !X.keep _) = false
    rw [List.append_nil]
    show (true && (cap.all d0 && true) && _) = false
    rw [hc.d0]; rfl
  · rfl
  · show Gs P X _ (List.map t2 [L l, .fn g cap]) S _
    have e : List.map t2 [L l, .fn g cap] = [L l, .fn g cap] := by
      show [L l, .fn g (cap.map t0)] = _
      rw [hc.t0]
    rw [e]
    refine (idx_ints_g hX l hl g cap S p hc hg).mono fun r S' h => ?_
    obtain ⟨rfl, J, rfl⟩ := h
    simp +decide only [go_sem]
    have e := idxf_ge (p := p) (l := l)
    exact ⟨_, rfl, by rw [← e], J, rfl⟩
end
end Go.Proofs.Ytplpmelpoajpdaa.Ev
namespace Go.Proofs.Ytplpmelpoajpdaa.Ev
open Go Go.Proofs
open Go.RowKit (wrap64)
set_option linter.unusedVariables false
set_option linter.unusedSimpArgs false
set_option maxRecDepth 100000
def wholeB (t : List SVtx) (a : Int) (R : List SRr) (H : List (List Int)) (s : Int) : Bool :=
  decide (Valid t) && !decide (a < 2) && !decide (16 < a) && ((R.length : Int) == ((vsOf t 3).length : Int)) && ((H.length : Int) == ((vsOf t 1).length : Int)) && (s != 0) && !(allB s).any fun p => decide (((vsOf t 3).length : Int) ≤ p)
section
variable {X : Prims} (hX : Low X)
include hX
theorem whole1_g (n x : Int) (j : Nat) (S : Obs) (h : S[j]? = some (.var false [I n])) : Gs P X 94 [I x, .ptr j 0] S fun r S' => r = B (decide (n ≤ x)) ∧ S' = S := by
  refine gs_of (hX _ (by decide)) fun94 rfl ?_
  simp +decide only [Try.f94, go_sem, Nat.reduceAdd, h]
  exact ⟨_, rfl, rfl, rfl⟩
theorem whole_g (t : List SVtx) (a : Int) (R : List SRr) (H : List (List Int)) (s : Int) (ht : t.length ≤ 64) (hs : U64 s) (f : Fw R H) : Gv P X 61 [encRR t a R H s] (B (wholeB t a R H s)) := by
  refine gv_of (hX _ (by decide)) fun61 rfl ?_
  have hr := f.r
  have hh := f.h
  simp +decide only [Try.f61, encRR, go_sem, Nat.reduceAdd]
  refine WO_call rfl rfl rfl rfl rfl (check_g hX t (by omega)) ?_
  unfold wholeB
  by_cases hV : Valid t
  · by_cases h1 : a < 2
    · simp +decide only [go_sem, hV, h1]
      exact ⟨_, rfl, rfl, rfl⟩
    · by_cases h2 : 16 < a
      · simp +decide only [go_sem, hV, h1, h2]
        exact ⟨_, rfl, rfl, rfl⟩
      · simp +decide only [go_sem, hV, h1, h2]
        refine WO_call rfl rfl rfl rfl rfl (procs_g hX t (by omega)) ?_
        simp +decide only [go_sem]
        refine WO_call rfl rfl rfl rfl rfl (all_g hX hs) ?_
        simp +decide only [go_sem]
        refine WO_calls (g := 92) (cap := []) rfl rfl rfl rfl rfl rfl ?_
        show Gs P X _ [L (allB s), .fn 94 [.ptr _ _]] _ _
        refine (any_ints_g hX (allB s) (by have := allB_len s; omega) 94 _ _ (fun p => decide (((vsOf t 3).length : Int) ≤ p)) Cp.ptr fun x hx J => (whole1_g hX (vsOf t 3).length x _ _ rfl).mono fun r S' h => ?_).mono fun r S' h => ?_
        · exact ⟨h.1, J, h.2⟩
        · obtain ⟨rfl, J, rfl⟩ := h
          simp +decide only [go_sem]
          refine W_draw hmx (by kernel_rfl) ?_
          cases h3 : ((R.length : Int) == ((vsOf t 3).length : Int))
          · simp +decide only [go_sem, h3]
            refine WO_not rfl ?_
            simp +decide only [go_sem, h3]
            exact ⟨_, rfl, rfl, rfl⟩
          · simp +decide only [go_sem, h3]
            refine WO_call rfl rfl rfl rfl rfl (nodes_g hX t (by omega)) ?_
            cases h4 : ((H.length : Int) == ((vsOf t 1).length : Int))
            · simp +decide only [go_sem, h4]
              exact ⟨_, rfl, rfl, rfl⟩
            · cases h5 : (s != 0)
              · simp +decide only [go_sem, h4, h5]
                exact ⟨_, rfl, rfl, rfl⟩
              · simp +decide only [go_sem, h4, h5]
                exact ⟨_, rfl, rfl, rfl⟩
  · simp +decide only [go_sem, hV]
    exact ⟨_, rfl, rfl, rfl⟩
end
end Go.Proofs.Ytplpmelpoajpdaa.Ev
namespace Go.Proofs.Ytplpmelpoajpdaa.Ev
open Go Go.Proofs
open Go.RowKit (wrap64)
set_option linter.unusedVariables false
set_option linter.unusedSimpArgs false
set_option maxRecDepth 100000
def ringOk (a s : Int) (x : SRr) (j : Nat) : Bool := (okL (rAll x) 0 && decide ((x.f1.length : Int) ≤ mx a 2)) && (tb s (j : Int) || !decide (0 < ((rAll x).length : Int)))
def ringsB (a s : Int) (R : List SRr) : Bool := decide (∀ j : Nat, j < R.length → ringOk a s (R.getD j default) j = true)
def mayB (t : List SVtx) (a : Int) (R : List SRr) (H : List (List Int)) (s : Int) : Bool := wholeB t a R H s && (ringsB a s R && okL (allR R H) 0)
theorem ringsB_no {a s : Int} {R : List SRr} {i : Nat} {x : SRr} (hx : R[i]? = some x) (h : ringOk a s x i = false) : ringsB a s R = false := decide_eq_false fun H => by
  have hi : i < R.length := (List.getElem?_eq_some_iff.mp hx).1
  have := H i hi
  rw [List.getD_eq_getElem?_getD, hx, Option.getD_some, h] at this
  cases this
section
variable {X : Prims} (hX : Low X)
include hX
theorem runs_may_g (t : List SVtx) (a : Int) (R : List SRr) (H : List (List Int)) (s : Int) (ht : t.length ≤ 64) (hs : U64 s) (f : Fw R H) : Gv P X 32 [encRR t a R H s] (B (mayB t a R H s)) := by
  refine gv_of (hX _ (by decide)) fun32 rfl ?_
  have hr := f.r
  have hh := f.h
  unfold mayB
  simp +decide only [Try.f32, encRR, go_sem, Nat.reduceAdd]
  refine WO_call rfl rfl rfl rfl rfl (whole_g hX t a R H s ht hs f) ?_
  cases hW : wholeB t a R H s
  · simp +decide only [go_sem]
    exact ⟨_, rfl, rfl, rfl⟩
  simp +decide only [go_sem, Nat.reduceAdd]
  refine W_ind (fun k st => ∃ i : Nat, i + k = R.length ∧ FrIs 57 [(1, .ptr 0 0), (12, .sl .no (R.map encG)), (13, I R.length), (14, I i)] st.fr ∧ st.S[0]? = some (.var false [encT t, I a, .sl .no (R.map encG), .sl .no (H.map L), U s]) ∧ st.T = [] ∧ ∀ j : Nat, j < i → ringOk a s (R.getD j default) j = true) ?_ (n := R.length) ⟨0, by omega, ⟨rfl, rfl, rfl, rfl, rfl, trivial⟩, rfl, rfl, fun j h => by omega⟩
  rintro k ⟨L', S, T⟩ ih ⟨i, hi, hF, hS, rfl, hall⟩
  obtain ⟨j, rfl⟩ := hF.ex
  have hw := wrap_nat i (by omega)
  simp +decide only [fr, jl, Nat.reduceAdd, go_sem]
  refine Wif_of (fun h => ?_) (fun h => ?_)
  · have hlt : i < R.length := by simpa using h
    obtain ⟨x, hx, hm⟩ := getE hlt
    have hl := f.rl x hm
    have hS2 : ∀ m, (S ++ m)[0]? = some (.var false [encT t, I a, .sl .no (R.map encG), .sl .no (H.map L), U s]) := fun m => gOld hS
    have hk : ringOk a s x i = ((okL (rAll x) 0 && decide ((x.f1.length : Int) ≤ mx a 2)) && (tb s (i : Int) || !decide (0 < ((rAll x).length : Int)))) := rfl
    simp +decide only [go_sem, hS, hS2, hx, encG]
    refine WO_call rfl rfl rfl rfl rfl (ring_may_g hX x.f0 x.f1 a (by omega)) ?_
    change WO P X _ _ _ _ _ ⟨put _ _ (B (okL (rAll x) 0 && decide ((x.f1.length : Int) ≤ mx a 2))), _, _⟩ _
    cases h1 : (okL (rAll x) 0 && decide ((x.f1.length : Int) ≤ mx a 2))
    · rw [h1] at hk
      simp +decide only [go_sem, hS, hS2]
      refine WO_not rfl ?_
      simp +decide only [go_sem, hS, hS2]
      refine WO_not rfl ?_
      simp +decide only [go_sem, hS, hS2]
      exact ⟨_, rfl, rfl, by rw [ringsB_no hx hk]; rfl⟩
    rw [h1] at hk
    simp +decide only [go_sem, hS, hS2]
    refine WO_call rfl rfl rfl rfl rfl (has_g hX hs i) ?_
    cases h2 : tb s (i : Int)
    · rw [h2] at hk
      simp +decide only [go_sem, hS, hS2, encG]
      refine WO_call rfl rfl rfl rfl rfl (ring_all_g hX x.f0 x.f1 (by omega)) ?_
      change WO P X _ _ _ _ _ ⟨put _ _ (L (rAll x)), _, _⟩ _
      simp +decide only [go_sem, hS, hS2, encG]
      cases h3 : decide (0 < ((rAll x).length : Int))
      · rw [h3] at hk
        simp +decide only [go_sem, h3, hw]
        refine ih (k - 1) _ (by omega) ⟨i + 1, by omega, ⟨rfl, rfl, rfl, rfl, rfl, trivial⟩, hS2 _, rfl, fun j hj => ?_⟩
        by_cases hji : j = i
        · subst hji; rw [List.getD_eq_getElem?_getD, hx, Option.getD_some]; exact hk
        · exact hall j (by omega)
      · rw [h3] at hk
        simp +decide only [go_sem, h3]
        exact ⟨_, rfl, rfl, by rw [ringsB_no hx hk]; rfl⟩
    · rw [h2] at hk
      simp +decide only [go_sem, hS, hS2]
      refine WO_not rfl ?_
      simp +decide only [go_sem, hS, hS2, hw]
      refine ih (k - 1) _ (by omega) ⟨i + 1, by omega, ⟨rfl, rfl, rfl, rfl, rfl, trivial⟩, hS2 _, rfl, fun j hj => ?_⟩
      by_cases hji : j = i
      · subst hji; rw [List.getD_eq_getElem?_getD, hx, Option.getD_some]; exact hk
      · exact hall j (by omega)
  · have hi' : i = R.length := by simp at h; omega
    subst hi'
    clear ih
    have hrg : ringsB a s R = true := decide_eq_true fun j h => hall j h
    rw [hrg]
    simp +decide only [go_sem, hS]
    refine WO_call rfl rfl rfl rfl rfl (runs_all_g hX t a R H s f) ?_
    have hA := f.all
    generalize allR R H = A at hA
    simp +decide only [go_sem, Nat.reduceAdd]
    refine W_ind (fun k s => ∃ i : Nat, i + k = A.length ∧ FrIs 57 [(5, L A), (40, L A), (41, I A.length), (42, I i)] s.fr ∧ s.T = [] ∧ ∀ j : Nat, j < i → 1 ≤ rd A (j : Int) ∧ rd A (j : Int) ∉ A.take j) ?_ (n := A.length) ⟨0, by omega, ⟨rfl, rfl, rfl, rfl, rfl, trivial⟩, rfl, fun j h => by omega⟩
    rintro k ⟨L', S, T⟩ ih ⟨i, hi, hF, rfl, hall⟩
    obtain ⟨j, rfl⟩ := hF.ex
    have hw := wrap_nat i (by omega)
    simp +decide only [fr, jl, Nat.reduceAdd, go_sem]
    refine Wif_of (fun h => ?_) (fun h => ?_)
    · have hlt : i < A.length := by simpa using h
      have hx := rd_at hlt
      by_cases h1 : rd A (i : Int) ≤ 0
      · simp +decide only [go_sem, hx, h1]
        refine WO_not rfl ?_
        simp +decide only [go_sem]
        exact ⟨_, rfl, rfl, by rw [okL_no hlt (.inl (by omega))]⟩
      · have hb : (i : Int) ≤ (A.length : Int) := by omega
        simp +decide only [go_sem, hx, h1, slA, hb, ← List.map_take]
        refine WO_call rfl rfl rfl rfl rfl (contains_g hX (A.take i) (rd A (i : Int)) (by simp; omega)) ?_
        by_cases h2 : rd A (i : Int) ∈ A.take i
        · simp +decide only [go_sem, h2]
          exact ⟨_, rfl, rfl, by rw [okL_no hlt (.inr h2)]⟩
        · simp +decide only [go_sem, h2, hw]
          refine ih (k - 1) _ (by omega) ⟨i + 1, by omega, ⟨rfl, rfl, rfl, rfl, rfl, trivial⟩, rfl, fun j hj => ?_⟩
          by_cases hji : j = i
          · subst hji; exact ⟨by omega, h2⟩
          · exact hall j (by omega)
    · have hi' : i = A.length := by simp at h; omega
      subst hi'
      have hok : okL A 0 = true := decide_eq_true fun j h _ => hall j h
      simp +decide only [go_sem, Nat.reduceAdd]
      exact ⟨_, rfl, rfl, by rw [hok]⟩
end
end Go.Proofs.Ytplpmelpoajpdaa.Ev
namespace Go.Proofs.Ytplpmelpoajpdaa.Ev
open Go Go.Proofs
open Go.RowKit (wrap64)
set_option linter.unusedVariables false
set_option linter.unusedSimpArgs false
set_option maxRecDepth 100000
def bitv (n : Int) : Int := if 0 ≤ n ∧ n < 64 then ((2 ^ n.toNat : Nat) : Int) else 0
def ofS (l : List Int) : Int := l.foldl (fun s n => Go.bits .or .u64 s (bitv n)) 0
theorem ofS_snoc {l : List Int} {i : Nat} {x : Int} (h : l[i]? = some x) : ofS (l.take (i + 1)) = Go.bits .or .u64 (ofS (l.take i)) (bitv x) := by
  unfold ofS
  rw [take_snoc h, List.foldl_append]; rfl
def fewB (t : List SVtx) (R : List SRr) (H : List (List Int)) : Bool := !decide ((64 : Int) < t.length) && (!decide ((40 : Int) < R.length) && (!decide ((40 : Int) < H.length) && (R.all (fun x => !decide ((40 : Int) < x.f1.length)) && H.all (fun l => !decide ((40 : Int) < l.length)))))
theorem fewB_of {t : List SVtx} {R : List SRr} {H : List (List Int)} (h : fewB t R H = true) : t.length ≤ 64 ∧ R.length ≤ 40 ∧ H.length ≤ 40 ∧ (∀ x ∈ R, x.f1.length ≤ 40) ∧ ∀ l ∈ H, l.length ≤ 40 := by
  simp only [fewB, Bool.and_eq_true, Bool.not_eq_true', decide_eq_false_iff_not, List.all_eq_true] at h
  obtain ⟨h1, h2, h3, h4, h5⟩ := h
  exact ⟨by omega, by omega, by omega, fun x hx => by have := h4 x hx; omega, fun x hx => by have := h5 x hx; omega⟩
theorem all_no {α : Type} {p : α → Bool} {l : List α} {x : α} (h : x ∈ l) (hp : p x = false) : l.all p = false := by
  cases e : l.all p with
  | false => rfl
  | true => rw [List.all_eq_true.mp e x h] at hp; cases hp
section
variable {X : Prims} (hX : Low X)
include hX
theorem bof_g (l : List Int) (hl : l.length ≤ 100000) : Gv P X 37 [L l] (U (ofS l)) := by
  refine gv_of (hX _ (by decide)) fun37 rfl ?_
  simp +decide only [Try.f37, go_sem, Nat.reduceAdd]
  refine W_ind (fun k st => ∃ i : Nat, i + k = l.length ∧ FrIs 18 [(3, U (ofS (l.take i))), (6, L l), (7, I l.length), (8, I i)] st.fr ∧ st.S = [] ∧ st.T = []) ?_ (n := l.length) ⟨0, by omega, ⟨rfl, rfl, rfl, rfl, rfl, trivial⟩, rfl, rfl⟩
  rintro k ⟨L', S, T⟩ ih ⟨i, hi, hF, rfl, rfl⟩
  obtain ⟨j, rfl⟩ := hF.ex
  have hw := wrap_nat i (by omega)
  simp +decide only [fr, jl, Nat.reduceAdd, go_sem]
  refine Wif_of (fun h => ?_) (fun h => ?_)
  · have hlt : i < l.length := by simpa using h
    obtain ⟨x, hx, hm⟩ := getE hlt
    simp +decide only [go_sem, hx]
    refine WO_call rfl rfl rfl rfl rfl (bit_g hX x) ?_
    simp +decide only [go_sem, or_eq, hw]
    exact ih (k - 1) _ (by omega) ⟨i + 1, by omega, ⟨rfl, by rw [ofS_snoc hx]; rfl, rfl, rfl, rfl, trivial⟩, rfl, rfl⟩
  · have hi' : i = l.length := by simp at h; omega
    subst hi'
    rw [List.take_length]
    simp +decide only [go_sem]
    exact ⟨_, rfl, rfl, rfl⟩
theorem few_g (t : List SVtx) (a : Int) (R : List SRr) (H : List (List Int)) (s : Int) : Gv P X 12 [encRR t a R H s] (B (fewB t R H)) := by
  refine gv_of (hX _ (by decide)) fun12 rfl ?_
  unfold fewB
  simp +decide only [Try.f12, encRR, go_sem, Nat.reduceAdd]
  by_cases h1 : (64 : Int) < t.length
  · simp +decide only [go_sem, h1]
    exact ⟨_, rfl, rfl, rfl⟩
  by_cases h2 : (40 : Int) < R.length
  · simp +decide only [go_sem, h1, h2]
    exact ⟨_, rfl, rfl, rfl⟩
  by_cases h3 : (40 : Int) < H.length
  · simp +decide only [go_sem, h1, h2, h3]
    exact ⟨_, rfl, rfl, rfl⟩
  simp +decide only [go_sem, h1, h2, h3, Nat.reduceAdd]
  refine W_ind (fun k st => ∃ i : Nat, i + k = R.length ∧ FrIs 50 [(1, .ptr 0 0), (3, I i)] st.fr ∧ st.S = [.var false [encT t, I a, .sl .no (R.map encG), .sl .no (H.map L), U s]] ∧ st.T = [] ∧ ∀ x ∈ R.take i, (!decide ((40 : Int) < x.f1.length)) = true) ?_ (n := R.length) ⟨0, by omega, ⟨rfl, rfl, rfl, trivial⟩, rfl, rfl, by simp⟩
  rintro k ⟨L', S, T⟩ ih ⟨i, hi, hF, rfl, rfl, hall⟩
  obtain ⟨j, rfl⟩ := hF.ex
  have hw := wrap_nat i (by omega)
  simp +decide only [fr, jl, Nat.reduceAdd, go_sem]
  refine Wif_of (fun h => ?_) (fun h => ?_)
  · have hlt : i < R.length := by simpa using h
    obtain ⟨x, hx, hm⟩ := getE hlt
    simp +decide only [go_sem, hx, encG]
    refine Wif_of (fun h4 => ?_) (fun h4 => ?_)
    · simp +decide only [go_sem]
      exact ⟨_, rfl, rfl, by rw [all_no hm (by rw [h4]; rfl)]; rfl⟩
    · simp +decide only [go_sem, hw]
      refine ih (k - 1) _ (by omega) ⟨i + 1, by omega, ⟨rfl, rfl, rfl, trivial⟩, rfl, rfl, fun y hy => ?_⟩
      rw [take_snoc hx, List.mem_append, List.mem_singleton] at hy
      rcases hy with hy | rfl
      · exact hall y hy
      · rw [h4]; rfl
  · have hi' : i = R.length := by simp at h; omega
    subst hi'
    rw [List.take_length] at hall
    have ha : R.all (fun x => !decide ((40 : Int) < x.f1.length)) = true := List.all_eq_true.mpr hall
    rw [ha]
    clear ih
    simp +decide only [go_sem, Nat.reduceAdd]
    refine W_ind (fun k st => ∃ i : Nat, i + k = H.length ∧ FrIs 50 [(1, .ptr 0 0), (4, I i)] st.fr ∧ st.S = [.var false [encT t, I a, .sl .no (R.map encG), .sl .no (H.map L), U s]] ∧ st.T = [] ∧ ∀ x ∈ H.take i, (!decide ((40 : Int) < x.length)) = true) ?_ (n := H.length) ⟨0, by omega, ⟨rfl, rfl, rfl, trivial⟩, rfl, rfl, by simp⟩
    rintro k ⟨L', S, T⟩ ih ⟨i, hi, hF, rfl, rfl, hall⟩
    obtain ⟨j, rfl⟩ := hF.ex
    have hw := wrap_nat i (by omega)
    simp +decide only [fr, jl, Nat.reduceAdd, go_sem]
    refine Wif_of (fun h => ?_) (fun h => ?_)
    · have hlt : i < H.length := by simpa using h
      obtain ⟨x, hx, hm⟩ := getE hlt
      simp +decide only [go_sem, hx]
      refine Wif_of (fun h4 => ?_) (fun h4 => ?_)
      · simp +decide only [go_sem]
        exact ⟨_, rfl, rfl, by rw [all_no hm (by rw [h4]; rfl)]⟩
      · simp +decide only [go_sem, hw]
        refine ih (k - 1) _ (by omega) ⟨i + 1, by omega, ⟨rfl, rfl, rfl, trivial⟩, rfl, rfl, fun y hy => ?_⟩
        rw [take_snoc hx, List.mem_append, List.mem_singleton] at hy
        rcases hy with hy | rfl
        · exact hall y hy
        · rw [h4]; rfl
    · have hi' : i = H.length := by simp at h; omega
      subst hi'
      rw [List.take_length] at hall
      have ha : H.all (fun x => !decide ((40 : Int) < x.length)) = true := List.all_eq_true.mpr hall
      rw [ha]
      simp +decide only [go_sem, Nat.reduceAdd]
      exact ⟨_, rfl, rfl, rfl⟩
end
end Go.Proofs.Ytplpmelpoajpdaa.Ev
namespace Go.Proofs.Ytplpmelpoajpdaa.Ev
open Go Go.Proofs
set_option linter.unusedVariables false
set_option linter.unusedSimpArgs false
open Go.RowKit (wrap64)
set_option maxRecDepth 100000

/-- The reference's way of saying it. -/
def rbelow (t : List SVtx) (i : Nat) : Bool := decide (0 ≤ par t i) && decide (par t i < (i : Int)) && decide (lev t i = wrap64 (lev t (par t i).toNat + 1)) && decide (lev t i ≤ 3)
def rkid (t : List SVtx) (i : Nat) : Bool := if lev t i < 3 then decide (1 ≤ (kidsOf t (i : Int)).length) && decide ((kidsOf t (i : Int)).length ≤ 8) else true
theorem valid_ref (t : List SVtx) (h1 : 1 ≤ t.length) (h64 : t.length ≤ 64) (h32 : (vsOf t 3).length ≤ 32) :
    Valid t ↔ (par t 0 = -1 ∧ lev t 0 = 0 ∧ (∀ j, j < t.length → 1 ≤ j → rbelow t j = true) ∧ (∀ j, j < t.length → 0 ≤ j → rkid t j = true)) := by
  constructor
  · intro h
    refine ⟨h.root.1, h.root.2, fun j hj hj1 => ?_, fun j hj _ => ?_⟩
    · have := h.below hj
      rw [belowB, if_neg (by omega)] at this
      exact this
    · have := h.2.2.2 j hj
      simp only [okAt, Bool.and_eq_true, decide_eq_true_eq] at this
      unfold rkid
      split
      · rename_i hl
        have h3 : (lev t j == 3) = false := beq_eq_false_iff_ne.mpr (by omega)
        rw [h3] at this
        have h4 : ¬ (kidsOf t (j : Int)).length = 0 := by
          intro h5
          rw [h5] at this
          exact absurd this.1.2 (by decide)
        rw [decide_eq_true (by omega), decide_eq_true this.2]
        rfl
      · rfl
  · rintro ⟨hp, hl, hb, hk⟩
    have hbel : ∀ i, i < t.length → belowB t i = true := by
      intro i hi
      unfold belowB
      by_cases h0 : i = 0
      · rw [if_pos h0, decide_eq_true hp, decide_eq_true hl]; rfl
      · rw [if_neg h0]
        exact hb i hi (by omega)
    have hl3 : ∀ i, i < t.length → lev t i ≤ 3 := by
      intro i hi
      by_cases h0 : i = 0
      · subst h0; omega
      · have := hb i hi (by omega)
        simp only [rbelow, Bool.and_eq_true, decide_eq_true_eq] at this
        exact this.2
    refine ⟨h1, h64, h32, fun i hi => ?_⟩
    simp only [okAt, Bool.and_eq_true, decide_eq_true_eq]
    by_cases h3 : lev t i = 3
    · have h0 : kidsOf t (i : Int) = [] := by
        apply List.eq_nil_iff_forall_not_mem.mpr
        intro x hx
        obtain ⟨j, rfl, _, hj, hP⟩ := pick_mem.mp hx
        have hP := of_decide_eq_true hP
        have hj0 : j ≠ 0 := by rintro rfl; omega
        have := hb j (by omega) (by omega)
        simp only [rbelow, Bool.and_eq_true, decide_eq_true_eq] at this
        rw [hP, Int.toNat_natCast, h3] at this
        have h4 : wrap64 (3 + 1) = 4 := by decide +kernel
        omega
      rw [h0]
      exact ⟨⟨hbel i hi, by rw [h3]; rfl⟩, by simp⟩
    · have := hk i hi (Nat.zero_le _)
      have hl := hl3 i hi
      rw [rkid, if_pos (by omega)] at this
      simp only [Bool.and_eq_true, decide_eq_true_eq] at this
      refine ⟨⟨hbel i hi, ?_⟩, this.2⟩
      rw [beq_eq_false_iff_ne.mpr h3, beq_eq_false_iff_ne.mpr (show (kidsOf t (i : Int)).length ≠ 0 by omega)]
      rfl

section
variable {X : Prims} (hX : Low X)
include hX
theorem of_g (t : List SVtx) (x : Int) (ht : t.length ≤ 1000) : Gv P X 39 [encT t, I x] (L (pick (fun j => decide (lev t j = x)) t.length 0)) := by
  refine gv_of (hX _ (by decide)) fun39 rfl ?_
  simp only [Try.f39, encT, go_sem, Nat.reduceSub, Nat.reduceAdd, reduceIte]
  refine W_ind (fun n s => ∃ i v, i + n = t.length ∧ FrIs 25 [(0, .sl .no (t.map encV)), (1, I x), (5, v), (6, I i)] s.fr ∧ s.S = [] ∧ App P 3 s.T v ((pick (fun j => decide (lev t j = x)) i 0).map I)) ?_ (n := t.length) ⟨0, .sl .nil [], by omega, ⟨rfl, rfl, rfl, rfl, rfl, trivial⟩, rfl, .nil⟩
  rintro n ⟨L, S, T⟩ ih ⟨i, v, hi, hF, rfl, hA⟩
  obtain ⟨j, rfl⟩ := hF.ex
  simp +decide only [fr, jl, Nat.reduceAdd, go_sem]
  refine Wif_of (fun h => ?_) (fun h => ?_)
  · have hlt : i < t.length := by simpa using h
    have hx := vtx_at hlt
    have hw := wrap_nat i (by omega)
    obtain ⟨v', T', happ, hA'⟩ := app_int hA i (by have := @pick_len (fun j => decide (lev t j = x)) i 0; omega)
    simp +decide only [go_sem, hx, hw, encV]
    have hp := @pick_snoc (fun j => decide (lev t j = x)) i 0
    rw [Nat.zero_add] at hp
    refine Wif_of (fun h => ?_) (fun h => ?_)
    · simp +decide only [go_sem, happ, hw]
      refine ih (n - 1) _ (by omega) ⟨i + 1, v', by omega, ⟨rfl, rfl, rfl, rfl, rfl, trivial⟩, rfl, ?_⟩
      rw [hp, if_pos (by simpa using h)]; exact hA'
    · simp +decide only [go_sem, hw]
      refine ih (n - 1) _ (by omega) ⟨i + 1, v, by omega, ⟨rfl, rfl, rfl, rfl, rfl, trivial⟩, rfl, ?_⟩
      rw [hp, if_neg (by simpa using h), List.append_nil]; exact hA
  · have hi' : i = t.length := by simp at h; omega
    subst hi'
    obtain ⟨o, rfl⟩ := hA.is
    simp +decide only [go_sem]
    exact ⟨_, rfl, rfl, rfl⟩
theorem rkids_g (t : List SVtx) (x : Int) (ht : t.length ≤ 1000) : Gv P X 72 [encT t, I x] (L (pick (fun j => decide (par t j = x)) t.length 0)) := by
  refine gv_of (hX _ (by decide)) fun72 rfl ?_
  simp only [Try.f72, encT, go_sem, Nat.reduceSub, Nat.reduceAdd, reduceIte]
  refine W_ind (fun n s => ∃ i v, i + n = t.length ∧ FrIs 25 [(0, .sl .no (t.map encV)), (1, I x), (5, v), (6, I i)] s.fr ∧ s.S = [] ∧ App P 3 s.T v ((pick (fun j => decide (par t j = x)) i 0).map I)) ?_ (n := t.length) ⟨0, .sl .nil [], by omega, ⟨rfl, rfl, rfl, rfl, rfl, trivial⟩, rfl, .nil⟩
  rintro n ⟨L, S, T⟩ ih ⟨i, v, hi, hF, rfl, hA⟩
  obtain ⟨j, rfl⟩ := hF.ex
  simp +decide only [fr, jl, Nat.reduceAdd, go_sem]
  refine Wif_of (fun h => ?_) (fun h => ?_)
  · have hlt : i < t.length := by simpa using h
    have hx := vtx_at hlt
    have hw := wrap_nat i (by omega)
    obtain ⟨v', T', happ, hA'⟩ := app_int hA i (by have := @pick_len (fun j => decide (par t j = x)) i 0; omega)
    simp +decide only [go_sem, hx, hw, encV]
    have hp := @pick_snoc (fun j => decide (par t j = x)) i 0
    rw [Nat.zero_add] at hp
    refine Wif_of (fun h => ?_) (fun h => ?_)
    · simp +decide only [go_sem, happ, hw]
      refine ih (n - 1) _ (by omega) ⟨i + 1, v', by omega, ⟨rfl, rfl, rfl, rfl, rfl, trivial⟩, rfl, ?_⟩
      rw [hp, if_pos (by simpa using h)]; exact hA'
    · simp +decide only [go_sem, hw]
      refine ih (n - 1) _ (by omega) ⟨i + 1, v, by omega, ⟨rfl, rfl, rfl, rfl, rfl, trivial⟩, rfl, ?_⟩
      rw [hp, if_neg (by simpa using h), List.append_nil]; exact hA
  · have hi' : i = t.length := by simp at h; omega
    subst hi'
    obtain ⟨o, rfl⟩ := hA.is
    simp +decide only [go_sem]
    exact ⟨_, rfl, rfl, rfl⟩
set_option maxHeartbeats 1000000 in
theorem rcheck_g (t : List SVtx) (ht : t.length ≤ 1000) : Gv P X 38 [encT t] (I (if Valid t then 0 else 2)) := by
  refine gv_of (hX _ (by decide)) fun38 rfl ?_
  by_cases h0 : (t.length : Int) = 0
  · have hv : ¬ Valid t := fun h => by have := h.1; omega
    have h0' : ((t.length : Int) == 0) = true := by simpa using h0
    simp +decide only [Try.f38, encT, go_sem, h0']
    refine WO_not rfl ?_
    simp +decide only [go_sem]
    exact ⟨_, rfl, rfl, by simp [hv]⟩
  have h0' : ((t.length : Int) == 0) = false := by simpa using h0
  by_cases h1 : 64 < (t.length : Int)
  · have hv : ¬ Valid t := fun h => by have := h.2.1; omega
    simp +decide only [Try.f38, encT, go_sem, h0', h1]
    refine WO_not rfl ?_
    simp +decide only [go_sem]
    exact ⟨_, rfl, rfl, by simp [hv]⟩
  simp +decide only [Try.f38, encT, go_sem, h0', h1]
  refine WO_call rfl rfl rfl rfl rfl (of_g hX t 3 ht) ?_
  have hV : pick (fun j => decide (lev t j = 3)) t.length 0 = vsOf t 3 := rfl
  rw [hV]
  by_cases h2 : 32 < ((vsOf t 3).length : Int)
  · have hv : ¬ Valid t := fun h => by have := h.2.2.1; omega
    simp +decide only [go_sem, h2]
    exact ⟨_, rfl, rfl, by simp [hv]⟩
  have hx0 := vtx_at (show 0 < t.length by omega)
  by_cases h3 : par t 0 = -1
  case neg =>
    have hv : ¬ Valid t := fun h => h3 h.root.1
    have h3' : (par t 0 != -1) = true := by simpa using h3
    simp +decide only [go_sem, h2, hx0, encV, h3', Int.reduceToNat]
    exact ⟨_, rfl, rfl, by simp [hv]⟩
  have h3' : (par t 0 != -1) = false := by simpa using h3
  by_cases h4 : lev t 0 = 0
  case neg =>
    have hv : ¬ Valid t := fun h => h4 h.root.2
    have h4' : (lev t 0 != 0) = true := by simpa using h4
    simp +decide only [go_sem, h2, hx0, encV, h3', h4', Int.reduceToNat]
    exact ⟨_, rfl, rfl, by simp [hv]⟩
  have h4' : (lev t 0 != 0) = false := by simpa using h4
  have e := valid_ref t (by omega) (by omega) (by omega)
  simp +decide only [go_sem, h2, hx0, encV, h3', h4', Int.reduceToNat]
  refine W_ind (fun n s => ∃ i : Nat, i + n = t.length ∧ 1 ≤ i ∧ FrIs 99 [(0, .sl .no (t.map encV)), (3, I i)] s.fr ∧ s.S = [] ∧ s.T = [] ∧ ∀ j, j < i → 1 ≤ j → rbelow t j = true) ?_ (n := t.length - 1) ⟨1, by omega, by omega, ⟨rfl, rfl, rfl, trivial⟩, rfl, rfl, fun j h1 h2 => by omega⟩
  rintro n ⟨L, S, T⟩ ih ⟨i, hi, hi1, hF, rfl, rfl, hall⟩
  obtain ⟨j, rfl⟩ := hF.ex
  simp +decide only [fr, jl, Nat.reduceAdd, go_sem]
  refine Wif_of (fun h => ?_) (fun h => ?_)
  · have hlt : i < t.length := by simpa using h
    have hx := vtx_at hlt
    have hw := wrap_nat i (by omega)
    simp +decide only [go_sem, hx, encV]
    refine W_draw hmx (by kernel_rfl) ?_
    have hno : rbelow t i = false → ¬ Valid t := fun h hv => by have := (e.mp hv).2.2.1 i hlt hi1; rw [h] at this; cases this
    by_cases g1 : par t i < 0
    · simp +decide only [go_sem, g1]
      exact ⟨_, rfl, rfl, by simp [hno (by simp [rbelow]; omega)]⟩
    by_cases g2 : (i : Int) ≤ par t i
    · simp +decide only [go_sem, g1, g2]
      exact ⟨_, rfl, rfl, by simp [hno (by simp [rbelow]; omega)]⟩
    have hp := vtx_at (show (par t i).toNat < t.length by omega)
    have g1' : 0 ≤ par t i := by omega
    by_cases g3 : lev t i = wrap64 (lev t (par t i).toNat + 1)
    case neg =>
      have g3' : (lev t i != wrap64 (lev t (par t i).toNat + 1)) = true := by simpa using g3
      simp +decide only [go_sem, g1, g1', g2, g3', hx, hp, encV, wrap_eq]
      exact ⟨_, rfl, rfl, by simp [hno (by simp [rbelow, g3])]⟩
    have g3' : (lev t i != wrap64 (lev t (par t i).toNat + 1)) = false := by simpa using g3
    by_cases g4 : 3 < lev t i
    · simp +decide only [go_sem, g1, g1', g2, g3', g4, hx, hp, encV, wrap_eq]
      exact ⟨_, rfl, rfl, by simp [hno (by simp [rbelow]; omega)]⟩
    rw [wrap_eq] at hw
    simp +decide only [go_sem, g1, g1', g2, g3', g4, hx, hp, encV, wrap_eq, hw]
    refine ih (n - 1) _ (by omega) ⟨i + 1, by omega, by omega, ⟨rfl, rfl, rfl, trivial⟩, rfl, rfl, fun j hj h1 => ?_⟩
    by_cases hji : j = i
    · subst hji
      simp only [rbelow, Bool.and_eq_true, decide_eq_true_eq]
      exact ⟨⟨⟨g1', by omega⟩, g3⟩, by omega⟩
    · exact hall j (by omega) h1
  · have hi' : i = t.length := by simp at h; omega
    subst hi'
    simp +decide only [go_sem]
    clear ih hF
    refine W_ind (fun n s => ∃ i : Nat, i + n = t.length ∧ FrIs 99 [(0, .sl .no (t.map encV)), (5, I i)] s.fr ∧ s.S = [] ∧ s.T = [] ∧ ∀ j, j < i → rkid t j = true) ?_ (n := t.length) ⟨0, by omega, ⟨rfl, rfl, rfl, trivial⟩, rfl, rfl, fun j h1 => by omega⟩
    rintro n ⟨L, S, T⟩ ih ⟨i, hi, hF, rfl, rfl, hall2⟩
    obtain ⟨j, rfl⟩ := hF.ex
    simp +decide only [fr, jl, Nat.reduceAdd, go_sem]
    refine Wif_of (fun h => ?_) (fun h => ?_)
    · have hlt : i < t.length := by simpa using h
      have hx := vtx_at hlt
      have hw := wrap_nat i (by omega)
      simp +decide only [go_sem]
      refine WO_call rfl rfl rfl rfl rfl (rkids_g hX t i ht) ?_
      have hK : pick (fun j => decide (par t j = (i : Int))) t.length 0 = kidsOf t (i : Int) := rfl
      have hno : rkid t i = false → ¬ Valid t := fun h hv => by have := (e.mp hv).2.2.2 i hlt (Nat.zero_le _); rw [h] at this; cases this
      rw [hK]
      by_cases g1 : lev t i < 3
      · by_cases g2 : ((kidsOf t (i : Int)).length : Int) < 1
        · simp +decide only [go_sem, hx, encV, g1, g2]
          exact ⟨_, rfl, rfl, by simp [hno (by simp [rkid, g1]; omega)]⟩
        by_cases g3 : 8 < ((kidsOf t (i : Int)).length : Int)
        · simp +decide only [go_sem, hx, encV, g1, g2, g3]
          exact ⟨_, rfl, rfl, by simp [hno (by simp [rkid, g1]; omega)]⟩
        simp +decide only [go_sem, hx, encV, g1, g2, g3, hw]
        refine ih (n - 1) _ (by omega) ⟨i + 1, by omega, ⟨rfl, rfl, rfl, trivial⟩, rfl, rfl, fun j hj => ?_⟩
        by_cases hji : j = i
        · subst hji; simp [rkid, g1]; omega
        · exact hall2 j (by omega)
      · simp +decide only [go_sem, hx, encV, g1, hw]
        refine ih (n - 1) _ (by omega) ⟨i + 1, by omega, ⟨rfl, rfl, rfl, trivial⟩, rfl, rfl, fun j hj => ?_⟩
        by_cases hji : j = i
        · subst hji; simp [rkid, g1]
        · exact hall2 j (by omega)
    · have hi' : i = t.length := by simp at h; omega
      subst hi'
      have hv : Valid t := e.mpr ⟨h3, h4, hall, fun j hj _ => hall2 j hj⟩
      simp +decide only [go_sem]
      exact ⟨_, rfl, rfl, by simp [hv]⟩
end
end Go.Proofs.Ytplpmelpoajpdaa.Ev
namespace Go.Proofs.Ytplpmelpoajpdaa.Ev
open Go Go.Proofs
open Go.RowKit (wrap64)
set_option linter.unusedVariables false
set_option linter.unusedSimpArgs false
set_option maxRecDepth 100000
set_option maxHeartbeats 2000000
theorem rd_pair {R : Int → Int → Prop} {l : List Int} (h : l.Pairwise R) {i j : Nat} (hij : i < j) (hj : j < l.length) : R (rd l (i : Int)) (rd l (j : Int)) := by
  show R (l.getD i 0) (l.getD j 0)
  rw [List.getD_eq_getElem?_getD, List.getD_eq_getElem?_getD, List.getElem?_eq_getElem hj, List.getElem?_eq_getElem (show i < l.length by omega)]
  exact List.pairwise_iff_getElem.mp h i j (by omega) hj hij
theorem last_any {s n y : Int} (hy : (allB s)[(allB s).length - 1]? = some y) : decide (n ≤ y) = (allB s).any fun p => decide (n ≤ p) := by
  have hm := List.mem_of_getElem? hy
  by_cases h : n ≤ y
  · rw [decide_eq_true h]
    exact (List.any_eq_true.mpr ⟨y, hm, decide_eq_true h⟩).symm
  · rw [decide_eq_false h]
    refine (List.any_eq_false.mpr fun p hp => ?_).symm
    rw [decide_eq_true_eq]
    obtain ⟨j, hj, rfl⟩ := List.getElem_of_mem hp
    by_cases hl : j = (allB s).length - 1
    · subst hl
      rw [List.getElem?_eq_getElem hj, Option.some.injEq] at hy
      omega
    · have h2 := rd_pair (pick_sorted (P := fun j => tb s (j : Int)) (m := 64) (i := 0)) (show j < (allB s).length - 1 by omega) (show (allB s).length - 1 < (allB s).length by omega)
      have e1 : rd (allB s) (j : Int) = (allB s)[j] := by
        unfold rd; rw [List.getD_eq_getElem?_getD, Int.toNat_natCast, List.getElem?_eq_getElem hj]; rfl
      have e2 : rd (allB s) (((allB s).length - 1 : Nat) : Int) = y := by
        unfold rd; rw [List.getD_eq_getElem?_getD, Int.toNat_natCast, hy]; rfl
      have h3 : rd (allB s) (j : Int) < rd (allB s) (((allB s).length - 1 : Nat) : Int) := h2
      omega
section
variable {X : Prims} (hX : Low X)
include hX
theorem rmay_g (t : List SVtx) (a : Int) (R : List SRr) (H : List (List Int)) (s : Int) (ht : t.length ≤ 64) (hs : U64 s) (f : Fw R H) : Gv P X 13 [encRR t a R H s] (B (mayB t a R H s)) := by
  refine gv_of (hX _ (by decide)) fun13 rfl ?_
  have hr := f.r
  have hh := f.h
  have hal := allB_len s
  unfold mayB wholeB
  simp +decide only [Try.f13, encRR, go_sem, Nat.reduceAdd]
  refine WO_call rfl rfl rfl rfl rfl (rcheck_g hX t (by omega)) ?_
  by_cases hV : Valid t
  rotate_left
  · simp +decide only [go_sem, hV]
    exact ⟨_, rfl, rfl, rfl⟩
  by_cases h1 : a < 2
  · simp +decide only [go_sem, hV, h1]
    exact ⟨_, rfl, rfl, rfl⟩
  by_cases h2 : 16 < a
  · simp +decide only [go_sem, hV, h1, h2]
    exact ⟨_, rfl, rfl, rfl⟩
  simp +decide only [go_sem, hV, h1, h2]
  refine WO_call rfl rfl rfl rfl rfl (of_g hX t 3 (by omega)) ?_
  change WO P X _ _ _ _ _ ⟨put _ _ (L (vsOf t 3)), _, _⟩ _
  simp +decide only [go_sem]
  refine WO_call rfl rfl rfl rfl rfl (rall_g hX hs) ?_
  simp +decide only [go_sem]
  refine W_draw hmx (by kernel_rfl) ?_
  cases h3 : ((R.length : Int) == ((vsOf t 3).length : Int))
  · have h3' : ((R.length : Int) != ((vsOf t 3).length : Int)) = true := by unfold bne; rw [h3]; rfl
    simp +decide only [go_sem, h3, h3']
    refine WO_not rfl ?_
    simp +decide only [go_sem, h3, h3']
    exact ⟨_, rfl, rfl, rfl⟩
  have h3' : ((R.length : Int) != ((vsOf t 3).length : Int)) = false := by unfold bne; rw [h3]; rfl
  simp +decide only [go_sem, h3, h3']
  refine WO_call rfl rfl rfl rfl rfl (of_g hX t 1 (by omega)) ?_
  change WO P X _ _ _ _ _ ⟨put _ _ (L (vsOf t 1)), _, _⟩ _
  cases h4 : ((H.length : Int) == ((vsOf t 1).length : Int))
  · have h4' : ((H.length : Int) != ((vsOf t 1).length : Int)) = true := by unfold bne; rw [h4]; rfl
    simp +decide only [go_sem, h4, h4']
    exact ⟨_, rfl, rfl, rfl⟩
  have h4' : ((H.length : Int) != ((vsOf t 1).length : Int)) = false := by unfold bne; rw [h4]; rfl
  cases h5 : (((allB s).length : Int) == 0)
  rotate_left
  · have h5' : (s != 0) = false := by
      rw [(allB_nil hs).mp (by have := eq_of_beq h5; omega)]; rfl
    simp +decide only [go_sem, h4, h4', h5, h5']
    exact ⟨_, rfl, rfl, rfl⟩
  have hne : (allB s).length ≠ 0 := fun e => by rw [e] at h5; cases h5
  have h5' : (s != 0) = true := bne_iff_ne.mpr fun e => hne ((allB_nil hs).mpr e)
  obtain ⟨y, hy, hym⟩ := getE (show (allB s).length - 1 < (allB s).length by omega)
  have hwm : IntKind.i64.wrap (((allB s).length : Int) - 1) = (((allB s).length - 1 : Nat) : Int) := by
    rw [show ((allB s).length : Int) - 1 = (((allB s).length - 1 : Nat) : Int) by omega]
    exact wrap64_of (by omega)
  have hla := last_any (n := (vsOf t 3).length) hy
  cases h6 : decide (((vsOf t 3).length : Int) ≤ y)
  rotate_left
  · rw [h6] at hla
    simp +decide only [go_sem, h4, h4', h5, h5', hwm, hy, h6, ← hla]
    exact ⟨_, rfl, rfl, rfl⟩
  rw [h6] at hla
  have hn := eq_of_beq h3
  generalize hq : (allB s).any _ = q at hla ⊢
  subst hla
  simp +decide only [go_sem, h4, h4', h5, h5', hwm, hy, h6, Nat.reduceAdd]
  refine W_ind (fun k st => ∃ i : Nat, i + k = R.length ∧ FrIs 112 [(1, .ptr 0 0), (3, I R.length), (5, I i)] st.fr ∧ st.S = [.var false [encT t, I a, .sl .no (R.map encG), .sl .no (H.map L), U s]] ∧ st.T = [] ∧ ∀ j : Nat, j < i → ringOk a s (R.getD j default) j = true) ?_ (n := R.length) ⟨0, by omega, ⟨rfl, rfl, by rw [hn]; rfl, rfl, trivial⟩, rfl, rfl, fun j h => by omega⟩
  rintro k ⟨L', S, T⟩ ih ⟨i, hi, hF, rfl, rfl, hall⟩
  obtain ⟨j, rfl⟩ := hF.ex
  have hw := wrap_nat i (by omega)
  simp +decide only [fr, jl, Nat.reduceAdd, go_sem]
  refine Wif_of (fun h => ?_) (fun h => ?_)
  · have hlt : i < R.length := by simpa using h
    obtain ⟨x, hx, hm⟩ := getE hlt
    have hl := f.rl x hm
    have hk : ringOk a s x i = ((okL (rAll x) 0 && decide ((x.f1.length : Int) ≤ mx a 2)) && (tb s (i : Int) || !decide (0 < ((rAll x).length : Int)))) := rfl
    simp +decide only [go_sem]
    refine W_draw hmx (by kernel_rfl) ?_
    simp +decide only [go_sem, hx, encG]
    refine WO_call rfl rfl rfl rfl rfl (rring_may_g hX x.f0 x.f1 a (by omega)) ?_
    change WO P X _ _ _ _ _ ⟨put _ _ (B (okL (rAll x) 0 && decide ((x.f1.length : Int) ≤ mx a 2))), _, _⟩ _
    cases h1 : (okL (rAll x) 0 && decide ((x.f1.length : Int) ≤ mx a 2))
    · rw [h1] at hk
      simp +decide only [go_sem]
      refine WO_not rfl ?_
      simp +decide only [go_sem]
      refine WO_not rfl ?_
      simp +decide only [go_sem]
      exact ⟨_, rfl, rfl, by rw [ringsB_no hx hk]; rfl⟩
    rw [h1] at hk
    simp +decide only [go_sem, hx, encG]
    refine WO_call rfl rfl rfl rfl rfl (rring_all_g hX x.f0 x.f1 (by omega)) ?_
    change WO P X _ _ _ _ _ ⟨put _ _ (L (rAll x)), _, _⟩ _
    cases h3 : decide (0 < ((rAll x).length : Int))
    · rw [h3, Bool.not_false, Bool.or_true] at hk
      simp +decide only [go_sem, h3]
      refine WO_not rfl ?_
      simp +decide only [go_sem, hw]
      refine ih (k - 1) _ (by omega) ⟨i + 1, by omega, ⟨rfl, rfl, rfl, rfl, trivial⟩, rfl, rfl, fun j hj => ?_⟩
      by_cases hji : j = i
      · subst hji; rw [List.getD_eq_getElem?_getD, hx, Option.getD_some]; exact hk
      · exact hall j (by omega)
    · rw [h3] at hk
      simp +decide only [go_sem, h3]
      refine WO_call rfl rfl rfl rfl rfl (on_g hX hs t a R H i) ?_
      cases h2 : tb s (i : Int)
      · rw [h2] at hk
        simp +decide only [go_sem]
        exact ⟨_, rfl, rfl, by rw [ringsB_no hx hk]; rfl⟩
      · rw [h2] at hk
        simp +decide only [go_sem, hw]
        refine ih (k - 1) _ (by omega) ⟨i + 1, by omega, ⟨rfl, rfl, rfl, rfl, trivial⟩, rfl, rfl, fun j hj => ?_⟩
        by_cases hji : j = i
        · subst hji; rw [List.getD_eq_getElem?_getD, hx, Option.getD_some]; exact hk
        · exact hall j (by omega)
  · have hi' : i = R.length := by simp at h; omega
    subst hi'
    clear ih
    have hrg : ringsB a s R = true := decide_eq_true fun j h => hall j h
    rw [hrg]
    simp +decide only [go_sem]
    refine WO_call rfl rfl rfl rfl rfl (rruns_all_g hX t a R H s f) ?_
    have hA := f.all
    generalize allR R H = A at hA
    simp +decide only [go_sem, Nat.reduceAdd]
    refine W_ind (fun k s => ∃ i : Nat, i + k = A.length ∧ FrIs 112 [(6, L A), (7, I i)] s.fr ∧ s.T = [] ∧ ∀ j : Nat, j < i → 1 ≤ rd A (j : Int) ∧ rd A (j : Int) ∉ A.take j) ?_ (n := A.length) ⟨0, by omega, ⟨rfl, rfl, rfl, trivial⟩, rfl, fun j h => by omega⟩
    rintro k ⟨L', S, T⟩ ih ⟨i, hi, hF, rfl, hall⟩
    obtain ⟨j, rfl⟩ := hF.ex
    have hw := wrap_nat i (by omega)
    simp +decide only [fr, jl, Nat.reduceAdd, go_sem]
    refine Wif_of (fun h => ?_) (fun h => ?_)
    · have hlt : i < A.length := by simpa using h
      have hx := rd_at hlt
      simp +decide only [go_sem]
      refine W_draw hmx (by kernel_rfl) ?_
      by_cases h1 : rd A (i : Int) < 1
      · simp +decide only [go_sem, hx, h1]
        refine WO_not rfl ?_
        simp +decide only [go_sem]
        exact ⟨_, rfl, rfl, by rw [okL_no hlt (.inl (by omega))]⟩
      · have hb : (i : Int) ≤ (A.length : Int) := by omega
        simp +decide only [go_sem, hx, h1, slA, hb, ← List.map_take]
        refine WO_call rfl rfl rfl rfl rfl (in_g hX (A.take i) (rd A (i : Int)) (by simp; omega)) ?_
        by_cases h2 : rd A (i : Int) ∈ A.take i
        · simp +decide only [go_sem, h2]
          exact ⟨_, rfl, rfl, by rw [okL_no hlt (.inr h2)]⟩
        · simp +decide only [go_sem, h2, hw]
          refine ih (k - 1) _ (by omega) ⟨i + 1, by omega, ⟨rfl, rfl, rfl, trivial⟩, rfl, fun j hj => ?_⟩
          by_cases hji : j = i
          · subst hji; exact ⟨by omega, h2⟩
          · exact hall j (by omega)
    · have hi' : i = A.length := by simp at h; omega
      subst hi'
      have hok : okL A 0 = true := decide_eq_true fun j h _ => hall j h
      simp +decide only [go_sem, Nat.reduceAdd]
      exact ⟨_, rfl, rfl, by rw [hok]⟩
end
end Go.Proofs.Ytplpmelpoajpdaa.Ev
namespace Go.Proofs.Ytplpmelpoajpdaa.Ev
open Go Go.Proofs
set_option linter.unusedVariables false
set_option linter.unusedSimpArgs false
open Go.RowKit (wrap64)
set_option maxRecDepth 100000
def sgn (a b : Int) : Int := if a < b then -1 else if b < a then 1 else 0
def turn (n p q : Int) : Int := (q - p + n).tmod n
def cf (t : List SVtx) (n p : Int) (a b : Int) : Int :=
  if sgn (farOf t p a) (farOf t p b) ≠ 0 then sgn (farOf t p a) (farOf t p b) else sgn (turn n p a) (turn n p b)
theorem turn_wrap {n p x : Int} (hx : 0 ≤ x ∧ x < n) (hp : 0 ≤ p ∧ p < n) (hn : n ≤ 1000000) : (IntKind.i64.wrap (IntKind.i64.wrap (x - p) + n)).tmod n = turn n p x := by
  rw [wrap64_of (n := x - p) (by omega), wrap64_of (n := x - p + n) (by omega)]
  rfl
section
variable {X : Prims} (hX : Low X)
include hX
theorem isnan_g (a : Int) : Gv P X 101 [I a] (B false) := by
  refine gv_of (hX _ (by decide)) fun101 rfl ?_
  simp +decide only [Try.f101, go_sem, bne_self_eq_false]
  exact ⟨_, rfl, rfl, rfl⟩
theorem compare_g (a b : Int) : Gv P X 76 [I a, I b] (I (sgn a b)) := by
  refine gv_of (hX _ (by decide)) fun76 rfl ?_
  simp +decide only [Try.f76, go_sem]
  refine WO_call rfl rfl rfl rfl rfl (isnan_g hX a) ?_
  simp +decide only [go_sem]
  refine WO_call rfl rfl rfl rfl rfl (isnan_g hX b) ?_
  unfold sgn
  by_cases h1 : a < b
  · simp +decide only [go_sem, h1]
    exact ⟨_, rfl, rfl, rfl⟩
  · by_cases h2 : b < a
    · simp +decide only [go_sem, h1, h2]
      exact ⟨_, rfl, rfl, rfl⟩
    · simp +decide only [go_sem, h1, h2]
      exact ⟨_, rfl, rfl, rfl⟩
theorem or_g (a b : Int) : Gv P X 75 [L [a, b]] (I (if a ≠ 0 then a else b)) := by
  refine gv_of (hX _ (by decide)) fun75 rfl ?_
  simp +decide only [Try.f75, go_sem, L]
  have e1 : IntKind.i64.wrap (0 + 1) = 1 := by decide
  have e2 : IntKind.i64.wrap (1 + 1) = 2 := by decide
  refine W_unroll ?_
  by_cases h1 : a = 0
  · subst h1
    simp +decide only [Int.reduceToNat, go_sem, bne_self_eq_false, e1]
    refine W_unroll ?_
    by_cases h2 : b = 0
    · subst h2
      simp +decide only [Int.reduceToNat, go_sem, bne_self_eq_false, e2]
      refine W_unroll ?_
      simp +decide only [Int.reduceToNat, go_sem]
      exact ⟨_, rfl, rfl, rfl⟩
    · have h2' : (b != 0) = true := by simpa using h2
      simp +decide only [Int.reduceToNat, go_sem, h2']
      exact ⟨_, rfl, rfl, rfl⟩
  · have h1' : (a != 0) = true := by simpa using h1
    simp +decide only [Int.reduceToNat, go_sem, h1', h1]
    exact ⟨_, rfl, rfl, by rw [if_pos h1]⟩
theorem closure_g (t : List SVtx) (p n x y : Int) (ht : t.length ≤ 1000) (hx : 0 ≤ x ∧ x < n) (hy : 0 ≤ y ∧ y < n) (hp : 0 ≤ p ∧ p < n) (hn : n ≤ 1000000) :
    Gv P X 74 [I x, I y, .ea [encT t], .ea [I p], .ea [I n]] (I (cf t n p x y)) := by
  refine gv_of (hX _ (by decide)) fun74 rfl ?_
  have hn0 : ¬ n = 0 := by omega
  simp +decide only [Try.f74, go_sem]
  refine W_draw hmx (by kernel_rfl) ?_
  simp +decide only [go_sem, encT, hn0]
  refine WO_call rfl rfl rfl rfl rfl (far_g hX t p x ht) ?_
  simp +decide only [go_sem, hn0]
  refine WO_call rfl rfl rfl rfl rfl (far_g hX t p y ht) ?_
  simp +decide only [go_sem, hn0]
  refine WO_call rfl rfl rfl rfl rfl (compare_g hX _ _) ?_
  simp +decide only [go_sem, hn0]
  refine WO_call rfl rfl rfl rfl rfl (compare_g hX _ _) ?_
  simp +decide only [go_sem, hn0]
  refine WO_call rfl rfl rfl rfl rfl (or_g hX _ _) ?_
  rw [turn_wrap hx hp hn, turn_wrap hy hp hn]
  simp +decide only [go_sem, hn0]
  exact ⟨_, rfl, rfl, rfl⟩
end
end Go.Proofs.Ytplpmelpoajpdaa.Ev
namespace Go.Proofs.Ytplpmelpoajpdaa.Ev
open Go Go.Proofs Go.Sort
set_option linter.unusedVariables false
set_option linter.unusedSimpArgs false
open Go.RowKit (wrap64)
set_option maxRecDepth 100000
def others (p : Int) : Nat → List Int
  | 0 => []
  | n + 1 => if (n : Int) ≠ p then others p n ++ [(n : Int)] else others p n
def sorted (n : Nat) (p : Int) (t : List SVtx) : List Int := (others p n).mergeSort (fun x y => !decide (cf t n p y x < 0))
theorem others_mem {p : Int} : ∀ {n : Nat} {x : Int}, x ∈ others p n ↔ 0 ≤ x ∧ x < n ∧ x ≠ p
  | 0, x => by simp [others]; omega
  | n + 1, x => by
    unfold others
    split
    · rw [List.mem_append, others_mem, List.mem_singleton]; omega
    · rw [others_mem]; omega
theorem others_len {p : Int} : ∀ {n : Nat}, (others p n).length ≤ n
  | 0 => by simp [others]
  | n + 1 => by
    have := @others_len p n
    unfold others
    split
    · simp; omega
    · omega
theorem turn_of {n p q : Int} (hq : 0 ≤ q ∧ q < n) (hp : 0 ≤ p ∧ p < n) : turn n p q = if q < p then q - p + n else q - p := by
  unfold turn
  rw [Int.tmod_eq_emod_of_nonneg (by omega)]
  by_cases h : q < p
  · rw [if_pos h, Int.emod_eq_of_lt (by omega) (by omega)]
  · rw [if_neg h, Int.add_emod_right, Int.emod_eq_of_lt (by omega) (by omega)]
theorem cf_lt {n p : Int} {t : List SVtx} {a b : Int} : (cf t n p a b < 0) ↔ (farOf t p a < farOf t p b ∨ farOf t p a = farOf t p b ∧ turn n p a < turn n p b) := by
  unfold cf sgn
  generalize farOf t p a = x
  generalize farOf t p b = y
  generalize turn n p a = u
  generalize turn n p b = v
  split <;> (split <;> (try split) <;> (try split) <;> omega)
abbrev Q (n : Nat) : Type := { x : Int // 0 ≤ x ∧ x < n }
def enc {n : Nat} (x : Q n) : Value := .int .i64 x.1
theorem swo (n : Nat) (p : Int) (t : List SVtx) : Go.Sort.SWO (Go.Proofs.ltOf (fun x y : Q n => cf t n p x.1 y.1)) := by
  refine ⟨fun x => ?_, fun x y z h1 h2 => ?_, fun x y z h1 h2 => ?_⟩
  · exact decide_eq_false (by rw [cf_lt]; omega)
  · have h1 := cf_lt.mp (of_decide_eq_true h1)
    have h2 := cf_lt.mp (of_decide_eq_true h2)
    exact decide_eq_true (cf_lt.mpr (by omega))
  · have h1 := mt cf_lt.mpr (of_decide_eq_false h1)
    have h2 := mt cf_lt.mpr (of_decide_eq_false h2)
    exact decide_eq_false (mt cf_lt.mp (by omega))
theorem tot (n : Nat) (p : Int) (hp : 0 ≤ p ∧ p < n) (t : List SVtx) (x y : Q n) (h1 : Go.Proofs.ltOf (fun x y : Q n => cf t n p x.1 y.1) x y = false) (h2 : Go.Proofs.ltOf (fun x y : Q n => cf t n p x.1 y.1) y x = false) : x = y := by
  have h1 := mt cf_lt.mpr (of_decide_eq_false h1)
  have h2 := mt cf_lt.mpr (of_decide_eq_false h2)
  have hx := x.2
  have hy := y.2
  rw [turn_of hx hp, turn_of hy hp] at h1 h2
  apply Subtype.ext
  generalize farOf t p x.1 = d1 at *
  generalize farOf t p y.1 = d2 at *
  have he : d1 = d2 := by omega
  subst he
  split at h1 <;> split at h1 <;> simp_all <;> omega
theorem lift (n : Nat) (l : List Int) (h : ∀ x ∈ l, 0 ≤ x ∧ x < n) : ∃ d : List (Q n), d.map (·.1) = l :=
  ⟨l.attach.map fun x => ⟨x.1, h x.1 x.2⟩, by rw [List.map_map]; exact List.attach_map_subtype_val l⟩
theorem sort_map (n : Nat) (p : Int) (t : List SVtx) (d : List (Q n)) :
    (d.mergeSort fun x y => !(Go.Proofs.ltOf (fun x y : Q n => cf t n p x.1 y.1)) y x).map (·.1) = (d.map (·.1)).mergeSort (fun x y => !decide (cf t n p y x < 0)) :=
  List.map_mergeSort fun _ _ _ _ => rfl
theorem uniq_sorted {α : Type} {lt : α → α → Prop} (irr : ∀ x, ¬ lt x x) (asy : ∀ x y, lt x y → lt y x → False) : ∀ {l1 l2 : List α}, l1.Pairwise lt → l2.Pairwise lt → (∀ x, x ∈ l1 ↔ x ∈ l2) → l1 = l2
  | [], [], _, _, _ => rfl
  | [], b :: l2, _, _, h => by have := (h b).mpr List.mem_cons_self; cases this
  | a :: l1, [], _, _, h => by have := (h a).mp List.mem_cons_self; cases this
  | a :: l1, b :: l2, h1, h2, h => by
    have p1 := List.pairwise_cons.mp h1
    have p2 := List.pairwise_cons.mp h2
    have hab : a = b := by
      rcases List.mem_cons.mp ((h a).mp List.mem_cons_self) with h3 | h3
      · exact h3
      · rcases List.mem_cons.mp ((h b).mpr List.mem_cons_self) with h4 | h4
        · exact h4.symm
        · exact absurd (p1.1 b h4) (fun h5 => asy _ _ h5 (p2.1 a h3))
    subst hab
    rw [uniq_sorted irr asy p1.2 p2.2 (fun x => ?_)]
    constructor
    · intro hx
      rcases List.mem_cons.mp ((h x).mp (List.mem_cons_of_mem _ hx)) with h3 | h3
      · subst h3; exact absurd (p1.1 x hx) (irr x)
      · exact h3
    · intro hx
      rcases List.mem_cons.mp ((h x).mpr (List.mem_cons_of_mem _ hx)) with h3 | h3
      · subst h3; exact absurd (p2.1 x hx) (irr x)
      · exact h3
/-- The others behind p, round about, that are so far. -/
def rowN (t : List SVtx) (p : Int) (n : Nat) (far : Int) : Nat → Nat → List Int
  | 0, _ => []
  | m + 1, i => if farOf t p (Int.tmod (p + (i : Int)) (n : Int)) = far then Int.tmod (p + (i : Int)) (n : Int) :: rowN t p n far m (i + 1) else rowN t p n far m (i + 1)
def rowOf (t : List SVtx) (p : Int) (far : Int) : List Int := rowN t p (procN t) far (procN t - 1) 1
def nearOf (t : List SVtx) (p : Int) : List Int := if inP t p then rowOf t p 1 ++ (rowOf t p 2 ++ rowOf t p 3) else []
theorem procN_le (t : List SVtx) : procN t ≤ 32 := by
  unfold procN
  split
  · rename_i h; exact h.2.2.1
  · omega
theorem turn_mod {n p : Nat} {i : Nat} (hp : p < n) (h1 : 1 ≤ i) (hi : i < n) : 0 ≤ Int.tmod ((p : Int) + (i : Int)) (n : Int) ∧ Int.tmod ((p : Int) + (i : Int)) (n : Int) < n ∧ Int.tmod ((p : Int) + (i : Int)) (n : Int) ≠ p ∧ turn n p (Int.tmod ((p : Int) + (i : Int)) (n : Int)) = i := by
  have e : Int.tmod ((p : Int) + (i : Int)) (n : Int) = if p + i < n then ((p : Int) + i) else ((p : Int) + i - n) := by
    rw [Int.tmod_eq_emod_of_nonneg (by omega)]
    by_cases h : p + i < n
    · rw [if_pos h, Int.emod_eq_of_lt (by omega) (by omega)]
    · rw [if_neg h, ← Int.sub_emod_right, Int.emod_eq_of_lt (by omega) (by omega)]
  rw [e]
  by_cases h : p + i < n
  · rw [if_pos h]
    refine ⟨by omega, by omega, by omega, ?_⟩
    rw [turn_of (by omega) (by omega), if_neg (by omega)]
    omega
  · rw [if_neg h]
    refine ⟨by omega, by omega, by omega, ?_⟩
    rw [turn_of (by omega) (by omega), if_pos (by omega)]
    omega
theorem rowN_at {t : List SVtx} {p n : Nat} {far : Int} (hp : p < n) : ∀ {m i : Nat}, 1 ≤ i → i + m ≤ n → ∀ {x : Int}, x ∈ rowN t (p : Int) n far m i → 0 ≤ x ∧ x < n ∧ x ≠ p ∧ farOf t p x = far ∧ (i : Int) ≤ turn n p x ∧ turn n p x < (i + m : Nat)
  | 0, i, _, _, x, h => by cases h
  | m + 1, i, h1, h2, x, h => by
    unfold rowN at h
    have ht := turn_mod hp h1 (by omega : i < n)
    by_cases hf : farOf t (p : Int) (Int.tmod ((p : Int) + (i : Int)) (n : Int)) = far
    · rw [if_pos hf] at h
      rcases List.mem_cons.mp h with rfl | h
      · exact ⟨ht.1, ht.2.1, ht.2.2.1, hf, by omega, by omega⟩
      · have := rowN_at hp (m := m) (i := i + 1) (by omega) (by omega) h
        exact ⟨this.1, this.2.1, this.2.2.1, this.2.2.2.1, by omega, by omega⟩
    · rw [if_neg hf] at h
      have := rowN_at hp (m := m) (i := i + 1) (by omega) (by omega) h
      exact ⟨this.1, this.2.1, this.2.2.1, this.2.2.2.1, by omega, by omega⟩
theorem rowN_sorted {t : List SVtx} {p n : Nat} {far : Int} (hp : p < n) : ∀ {m i : Nat}, 1 ≤ i → i + m ≤ n → (rowN t (p : Int) n far m i).Pairwise (fun x y => turn n p x < turn n p y)
  | 0, i, _, _ => List.Pairwise.nil
  | m + 1, i, h1, h2 => by
    unfold rowN
    have ht := turn_mod hp h1 (by omega : i < n)
    split
    · refine List.Pairwise.cons (fun y hy => ?_) (rowN_sorted hp (by omega) (by omega))
      have := rowN_at hp (m := m) (i := i + 1) (by omega) (by omega) hy
      omega
    · exact rowN_sorted hp (by omega) (by omega)
theorem rowN_has {t : List SVtx} {p n : Nat} {far : Int} (hp : p < n) {x : Int} (hx : 0 ≤ x ∧ x < n) (hf : farOf t p x = far) : ∀ {m i : Nat}, 1 ≤ i → i + m ≤ n → (i : Int) ≤ turn n p x → turn n p x < (i + m : Nat) → x ∈ rowN t (p : Int) n far m i
  | 0, i, _, _, h3, h4 => by omega
  | m + 1, i, h1, h2, h3, h4 => by
    unfold rowN
    by_cases he : turn n p x = i
    · have hxe : x = Int.tmod ((p : Int) + (i : Int)) (n : Int) := by
        rw [turn_of hx (by omega)] at he
        rw [Int.tmod_eq_emod_of_nonneg (by omega)]
        by_cases hlt : x < p
        · rw [if_pos hlt] at he
          rw [← Int.sub_emod_right, Int.emod_eq_of_lt (by omega) (by omega)]; omega
        · rw [if_neg hlt] at he
          rw [Int.emod_eq_of_lt (by omega) (by omega)]; omega
      rw [← hxe, if_pos hf]
      exact List.mem_cons_self
    · have := rowN_has hp hx hf (m := m) (i := i + 1) (by omega) (by omega) (by omega) (by omega)
      split
      · exact List.mem_cons_of_mem _ this
      · exact this
theorem far_self {t : List SVtx} {a : Int} (ha : inP t a) : farOf t a a = 0 := by rw [farOf_of ha ha]; simp [farV]
theorem far_pos {t : List SVtx} {a b : Int} (ha : inP t a) (hb : inP t b) (h : a ≠ b) : 1 ≤ farOf t a b ∧ farOf t a b ≤ 3 := by
  rw [farOf_of ha hb]
  have h1 := farV_le t (vx t a) (vx t b)
  have h2 : ¬ vx t a = vx t b := fun h2 => h (vx_inj ha hb h2)
  have h3 : 1 ≤ farV t (vx t a) (vx t b) := by
    unfold farV
    rw [if_neg h2]
    split
    · omega
    · split <;> omega
  omega
/-- Before whom one stands. -/
def nearLt (t : List SVtx) (p : Int) (x y : Int) : Prop := farOf t p x < farOf t p y ∨ farOf t p x = farOf t p y ∧ turn (procN t) p x < turn (procN t) p y
theorem nearOf_mem {t : List SVtx} {p : Int} (hp : inP t p) {x : Int} : x ∈ nearOf t p ↔ inP t x ∧ x ≠ p := by
  obtain ⟨q, rfl⟩ : ∃ q : Nat, p = (q : Int) := ⟨p.toNat, by have := hp.1; omega⟩
  have hq : q < procN t := by have := hp.2; omega
  rw [nearOf, if_pos hp]
  constructor
  · intro h
    have key : ∀ far, x ∈ rowOf t (q : Int) far → inP t x ∧ x ≠ q := fun far h => by
      have := rowN_at hq (by omega) (by omega) h
      exact ⟨⟨this.1, this.2.1⟩, this.2.2.1⟩
    rcases List.mem_append.mp h with h | h
    · exact key _ h
    · rcases List.mem_append.mp h with h | h
      · exact key _ h
      · exact key _ h
  · rintro ⟨hx, hne⟩
    have hf := far_pos hp hx (Ne.symm hne)
    have hb1 : (1 : Int) ≤ turn (procN t) q x := by
      rw [turn_of hx hp]
      have := hx.1
      split <;> omega
    have hb2 : turn (procN t) q x < (1 + (procN t - 1) : Nat) := by
      rw [turn_of hx hp]
      have := hx.2
      split <;> omega
    have key : ∀ far, farOf t q x = far → x ∈ rowOf t (q : Int) far := fun far hfar => rowN_has hq hx hfar (by omega) (by omega) (by omega) hb2
    rcases (by omega : farOf t q x = 1 ∨ farOf t q x = 2 ∨ farOf t q x = 3) with h | h | h
    · exact List.mem_append_left _ (key 1 h)
    · exact List.mem_append_right _ (List.mem_append_left _ (key 2 h))
    · exact List.mem_append_right _ (List.mem_append_right _ (key 3 h))
theorem nearOf_sorted {t : List SVtx} {p : Int} (hp : inP t p) : (nearOf t p).Pairwise (nearLt t p) := by
  obtain ⟨q, rfl⟩ : ∃ q : Nat, p = (q : Int) := ⟨p.toNat, by have := hp.1; omega⟩
  have hq : q < procN t := by have := hp.2; omega
  rw [nearOf, if_pos hp]
  have hs : ∀ far, (rowOf t (q : Int) far).Pairwise (nearLt t q) := fun far => by
    refine List.Pairwise.imp_of_mem ?_ (rowN_sorted hq (by omega) (by omega))
    intro x y hx hy h
    have h1 := rowN_at hq (by omega) (by omega) hx
    have h2 := rowN_at hq (by omega) (by omega) hy
    exact .inr ⟨h1.2.2.2.1.trans h2.2.2.2.1.symm, h⟩
  have hf : ∀ far x, x ∈ rowOf t (q : Int) far → farOf t q x = far := fun far x hx => (rowN_at hq (by omega) (by omega) hx).2.2.2.1
  refine List.pairwise_append.mpr ⟨hs 1, List.pairwise_append.mpr ⟨hs 2, hs 3, fun x hx y hy => .inl ?_⟩, fun x hx y hy => .inl ?_⟩
  · rw [hf 2 x hx, hf 3 y hy]; omega
  · rcases List.mem_append.mp hy with hy | hy
    · rw [hf 1 x hx, hf 2 y hy]; omega
    · rw [hf 1 x hx, hf 3 y hy]; omega
theorem others_sorted {p : Int} : ∀ {n : Nat}, (others p n).Pairwise (· ≠ ·)
  | 0 => List.Pairwise.nil
  | n + 1 => by
    unfold others
    split
    · refine List.pairwise_append.mpr ⟨others_sorted, List.pairwise_singleton _ _, fun x hx y hy => ?_⟩
      have := others_mem.mp hx
      rw [List.mem_singleton] at hy
      omega
    · exact others_sorted
theorem sorted_near {t : List SVtx} {p : Int} (hp : inP t p) : sorted (procN t) p t = nearOf t p := by
  have hm : ∀ x, x ∈ sorted (procN t) p t ↔ inP t x ∧ x ≠ p := fun x => by
    unfold sorted
    rw [List.mem_mergeSort, others_mem]
    exact ⟨fun h => ⟨⟨h.1, h.2.1⟩, h.2.2⟩, fun h => ⟨h.1.1, h.1.2, h.2⟩⟩
  refine uniq_sorted (lt := nearLt t p) (fun x h => ?_) (fun x y h1 h2 => ?_) ?_ (nearOf_sorted hp) (fun x => by rw [hm, nearOf_mem hp])
  · unfold nearLt at h; omega
  · unfold nearLt at h1 h2; omega
  · have hs : (sorted (procN t) p t).Pairwise (fun x y => (!decide (cf t (procN t) p y x < 0)) = true) := by
      refine List.pairwise_mergeSort (fun a b c h1 h2 => ?_) (fun a b => ?_) _
      · rw [Bool.not_eq_true', decide_eq_false_iff_not, cf_lt] at *
        omega
      · by_cases h : cf t (procN t) p b a < 0
        · have : ¬ cf t (procN t) p a b < 0 := by rw [cf_lt] at *; omega
          simp [this]
        · simp [h]
    have hn : (sorted (procN t) p t).Pairwise (· ≠ ·) := (List.mergeSort_perm _ _).symm.pairwise others_sorted (fun h => Ne.symm h)
    refine List.Pairwise.imp_of_mem ?_ (hs.and hn)
    rintro x y hx hy ⟨h1, h2⟩
    have hx := (hm x).mp hx
    have hy := (hm y).mp hy
    rw [Bool.not_eq_true', decide_eq_false_iff_not, cf_lt] at h1
    unfold nearLt
    have ht : turn (procN t) p x ≠ turn (procN t) p y := by
      rw [turn_of hx.1 hp, turn_of hy.1 hp]
      have := hx.1.1; have := hx.1.2; have := hy.1.1; have := hy.1.2
      split <;> split <;> omega
    omega
end Go.Proofs.Ytplpmelpoajpdaa.Ev
namespace Go.Proofs.Ytplpmelpoajpdaa.Ev
open Go Go.Proofs
open Go.RowKit (wrap64)
set_option linter.unusedVariables false
set_option linter.unusedSimpArgs false
set_option maxRecDepth 100000
theorem par_anc {t : List SVtx} (h : Valid t) {v d : Nat} (hv : v < t.length) (hd : (d : Int) < lev t v) : par t (anc t d v) = ((anc t (d + 1) v : Nat) : Int) := by
  obtain ⟨h1, h2⟩ := anc_at h d v hv (by omega)
  have h3 := (h.at_ h1).2.2 (h.pos h1 (by omega))
  rw [anc_succ]
  omega
theorem flatMap_le0 {α β : Type} {f : α → List β} {m : Nat} : ∀ {l : List α}, (∀ x ∈ l, (f x).length ≤ m) → (l.flatMap f).length ≤ l.length * m
  | [], _ => by simp
  | a :: l, h => by
    rw [List.flatMap_cons, List.length_append, List.length_cons, Nat.succ_mul]
    have h1 := h a (by simp)
    have h2 := flatMap_le0 (l := l) (fun x hx => h x (by simp [hx]))
    omega
theorem rowN_len {t : List SVtx} {p : Int} {n : Nat} {far : Int} : ∀ {m i : Nat}, (rowN t p n far m i).length ≤ m
  | 0, _ => Nat.le_refl 0
  | m + 1, i => by
    have := @rowN_len t p n far m (i + 1)
    unfold rowN
    split
    · simp; omega
    · omega
section
variable {X : Prims} (hX : Low X)
include hX
theorem rprocs_g (t : List SVtx) (ht : t.length ≤ 1000) : Gv P X 89 [encT t] (I (procN t)) := by
  refine gv_of (hX _ (by decide)) fun89 rfl ?_
  simp +decide only [Try.f89, encT, go_sem]
  refine WO_call rfl rfl rfl rfl rfl (rcheck_g hX t ht) ?_
  unfold procN
  by_cases hV : Valid t
  · rw [if_pos hV, if_pos hV]
    simp +decide only [go_sem]
    refine Wif_of (fun h => absurd h (by decide)) (fun _ => ?_)
    simp +decide only [go_sem]
    refine WO_call rfl rfl rfl rfl rfl (of_g hX t 3 ht) ?_
    simp +decide only [go_sem]
    exact ⟨_, rfl, rfl, rfl⟩
  · rw [if_neg hV, if_neg hV]
    simp +decide only [go_sem]
    refine Wif_of (fun _ => ?_) (fun h => absurd h (by decide))
    simp +decide only [go_sem]
    exact ⟨_, rfl, rfl, rfl⟩
theorem rfar_g (t : List SVtx) (a b : Int) (ht : t.length ≤ 1000) : Gv P X 56 [encT t, I a, I b] (I (farOf t a b)) := by
  refine gv_of (hX _ (by decide)) fun56 rfl ?_
  simp +decide only [Try.f56, encT, go_sem]
  refine WO_call rfl rfl rfl rfl rfl (rprocs_g hX t ht) ?_
  unfold farOf
  by_cases a0 : a < 0
  · rw [if_neg (fun h : inP t a ∧ inP t b => by have := h.1.1; omega)]
    simp +decide only [go_sem, a0]
    exact ⟨_, rfl, rfl, rfl⟩
  by_cases a1 : (procN t : Int) ≤ a
  · rw [if_neg (fun h : inP t a ∧ inP t b => by have := h.1.2; omega)]
    simp +decide only [go_sem, a0, a1]
    exact ⟨_, rfl, rfl, rfl⟩
  by_cases b0 : b < 0
  · rw [if_neg (fun h : inP t a ∧ inP t b => by have := h.2.1; omega)]
    simp +decide only [go_sem, a0, a1, b0]
    exact ⟨_, rfl, rfl, rfl⟩
  by_cases b1 : (procN t : Int) ≤ b
  · rw [if_neg (fun h : inP t a ∧ inP t b => by have := h.2.2; omega)]
    simp +decide only [go_sem, a0, a1, b0, b1]
    exact ⟨_, rfl, rfl, rfl⟩
  have ha : inP t a := ⟨by omega, by omega⟩
  have hb : inP t b := ⟨by omega, by omega⟩
  have hv := ha.valid
  have hN := procN_of hv
  obtain ⟨h1, h2, h5⟩ := vx_at ha
  obtain ⟨h3, h4, h6⟩ := vx_at hb
  rw [if_pos ⟨ha, hb⟩]
  simp +decide only [go_sem, a0, a1, b0, b1]
  refine WO_call rfl rfl rfl rfl rfl (of_g hX t 3 ht) ?_
  have q1 : 0 ≤ a := ha.1
  have q2 : 0 ≤ b := hb.1
  have e1 : (vsOf t 3)[a.toNat]? = some (vx t a : Int) := by
    have h7 : a.toNat < (vsOf t 3).length := by have := ha.2; omega
    rw [← h5, rd, List.getD_eq_getElem?_getD, List.getElem?_eq_getElem h7, Option.getD_some]
  have e2 : (vsOf t 3)[b.toNat]? = some (vx t b : Int) := by
    have h7 : b.toNat < (vsOf t 3).length := by have := hb.2; omega
    rw [← h6, rd, List.getD_eq_getElem?_getD, List.getElem?_eq_getElem h7, Option.getD_some]
  change WO P X _ _ _ _ _ ⟨put _ _ (L (vsOf t 3)), _, _⟩ _
  have z3 : anc t 3 (vx t a) = anc t 3 (vx t b) := by rw [anc3 hv h1 h2, anc3 hv h3 h4]
  simp +decide only [go_sem, q1, q2, e1, e2]
  refine W_ind (fun n s => ∃ d : Nat, d + n = 3 ∧ FrIs 56 [(0, .sl .no (t.map encV)), (9, I (anc t d (vx t a) : Nat)), (10, I (anc t d (vx t b) : Nat)), (11, I d)] s.fr ∧ s.S = [] ∧ s.T = [] ∧ ∀ e, e < d → anc t e (vx t a) ≠ anc t e (vx t b)) ?_ (n := 3) ⟨0, rfl, ⟨rfl, rfl, rfl, rfl, rfl, trivial⟩, rfl, rfl, fun e he => by omega⟩
  rintro n ⟨L', S, T⟩ ih ⟨d, hd, hF, rfl, rfl, hne⟩
  obtain ⟨j, rfl⟩ := hF.ex
  have hw := wrap_nat d (by omega)
  simp +decide only [fr, jl, Nat.reduceAdd, go_sem]
  refine Wif_of (fun h => ?_) (fun h => ?_)
  · have hn : anc t d (vx t a) ≠ anc t d (vx t b) := fun e => by rw [e] at h; simp at h
    have hd3 : d < 3 := by
      rcases Nat.lt_or_ge d 3 with h | h
      · exact h
      · obtain rfl : d = 3 := by omega
        exact absurd z3 hn
    have x1 := vtx_at (anc_at hv d _ h1 (by omega)).1
    have x2 := vtx_at (anc_at hv d _ h3 (by omega)).1
    simp +decide only [go_sem, x1, x2, encV, par_anc hv h1 (show (d : Int) < lev t (vx t a) by omega), par_anc hv h3 (show (d : Int) < lev t (vx t b) by omega), hw]
    refine ih (n - 1) _ (by omega) ⟨d + 1, by omega, ⟨rfl, rfl, rfl, rfl, rfl, trivial⟩, rfl, rfl, fun e he => ?_⟩
    by_cases hed : e = d
    · subst hed; exact hn
    · exact hne e (by omega)
  · have he : anc t d (vx t a) = anc t d (vx t b) := by simp at h; omega
    simp +decide only [go_sem]
    exact ⟨_, rfl, rfl, by rw [farV_first (by omega) z3 he hne]⟩
theorem rup_n (t : List SVtx) (x : Int) (ht : t.length ≤ 1000) : ∀ (n : Nat) (v : Int), v < (n : Int) → Gv P X 90 [encT t, I v, I x] (I (upN t x (n + 1) v)) := by
  intro n
  induction n with
  | zero =>
    intro v hv
    refine gv_of (hX _ (by decide)) fun90 rfl ?_
    have h0 : v < 0 := by omega
    rw [upN, if_neg (fun h => by omega)]
    simp +decide only [Try.f90, encT, go_sem, h0]
    exact ⟨_, rfl, rfl, rfl⟩
  | succ n ih =>
    intro v hv
    refine gv_of (hX _ (by decide)) fun90 rfl ?_
    rw [upN]
    by_cases h0 : v < 0
    · rw [if_neg (fun h => by omega)]
      simp +decide only [Try.f90, encT, go_sem, h0]
      exact ⟨_, rfl, rfl, rfl⟩
    by_cases h1 : (t.length : Int) ≤ v
    · rw [if_neg (fun h => by omega)]
      simp +decide only [Try.f90, encT, go_sem, h0, h1]
      exact ⟨_, rfl, rfl, rfl⟩
    have h2 : 0 ≤ v := by omega
    have hx := vtx_at (show v.toNat < t.length by omega)
    rw [if_pos (by omega)]
    simp +decide only [Try.f90, encT, go_sem, h0, h1, h2, hx, encV]
    refine Wif_of (fun h => ?_) (fun h => ?_)
    · rw [if_pos (by simpa using h)]
      simp +decide only [go_sem]
      exact ⟨_, rfl, rfl, rfl⟩
    · rw [if_neg (by simpa using h)]
      simp +decide only [go_sem, h2, hx, encV]
      refine Wif_of (fun h => ?_) (fun h => ?_)
      · rw [if_pos (by simpa using h)]
        simp +decide only [go_sem]
        exact ⟨_, rfl, rfl, rfl⟩
      · have hlt : par t v.toNat < v := by simpa using h
        rw [if_neg (by omega)]
        simp +decide only [go_sem, h2, hx, encV]
        refine WO_call rfl rfl rfl rfl rfl (ih (par t v.toNat) (by omega)) ?_
        simp +decide only [go_sem]
        exact ⟨_, rfl, rfl, rfl⟩
theorem rup_g (t : List SVtx) (v x : Int) (ht : t.length ≤ 1000) (hv : v < 1000) : Gv P X 90 [encT t, I v, I x] (I (up t v x)) := by
  have h := rup_n hX t x ht 1000 v hv
  have e : upN t x (1000 + 1) v = up t v x := by
    by_cases h0 : v < (t.length : Int)
    · rw [up, upN_more t x (1000 + 1) (t.length + 1) v (by omega) (by omega) (by omega) (by omega)]
    · rw [up]
      unfold upN
      rw [if_neg (by omega), if_neg (by omega)]
  rwa [e] at h
theorem rnode_g (t : List SVtx) (p : Int) (ht : t.length ≤ 1000) : Gv P X 52 [encT t, I p] (I (nodeOf t p)) := by
  refine gv_of (hX _ (by decide)) fun52 rfl ?_
  unfold nodeOf
  by_cases a0 : p < 0
  · rw [if_neg (fun h : inP t p => by have := h.1; omega)]
    simp +decide only [Try.f52, encT, go_sem, a0]
    refine WO_not rfl ?_
    simp +decide only [go_sem]
    exact ⟨_, rfl, rfl, rfl⟩
  simp +decide only [Try.f52, encT, go_sem, a0]
  refine WO_call rfl rfl rfl rfl rfl (rprocs_g hX t ht) ?_
  by_cases a1 : (procN t : Int) ≤ p
  · rw [if_neg (fun h : inP t p => by have := h.2; omega)]
    simp +decide only [go_sem, a0, a1]
    exact ⟨_, rfl, rfl, rfl⟩
  have hp : inP t p := ⟨by omega, by omega⟩
  have hv := hp.valid
  have hN := procN_of hv
  have h64 := hv.2.1
  obtain ⟨h1, h2, h5⟩ := vx_at hp
  have hu : up t (vx t p : Int) 1 = (anc t 2 (vx t p) : Nat) := up_at hv h1 h2 2 (by omega)
  have hl := vsOf_len t 1
  have q1 : 0 ≤ p := hp.1
  have e1 : (vsOf t 3)[p.toNat]? = some (vx t p : Int) := by
    have h7 : p.toNat < (vsOf t 3).length := by have := hp.2; omega
    rw [← h5, rd, List.getD_eq_getElem?_getD, List.getElem?_eq_getElem h7, Option.getD_some]
  rw [if_pos hp]
  simp +decide only [go_sem, a0, a1]
  refine WO_call rfl rfl rfl rfl rfl (of_g hX t 3 ht) ?_
  change WO P X _ _ _ _ _ ⟨put _ _ (L (vsOf t 3)), _, _⟩ _
  simp +decide only [go_sem, q1, e1]
  refine WO_call rfl rfl rfl rfl rfl (rup_g hX t (vx t p : Int) 1 ht (by omega)) ?_
  rw [hu]
  simp +decide only [go_sem]
  refine WO_call rfl rfl rfl rfl rfl (of_g hX t 1 ht) ?_
  change WO P X _ _ _ _ _ ⟨put _ _ (L (vsOf t 1)), _, _⟩ _
  generalize vsOf t 1 = l at hl
  generalize ((anc t 2 (vx t p) : Nat) : Int) = x
  simp +decide only [go_sem]
  refine W_ind (fun m s => ∃ i : Nat, i + m = l.length ∧ FrIs 38 [(5, I x), (6, L l), (7, I i)] s.fr ∧ s.S = [] ∧ s.T = [] ∧ idxOf l x = idxN l x m i) ?_ (n := l.length) ⟨0, by omega, ⟨rfl, rfl, rfl, rfl, trivial⟩, rfl, rfl, rfl⟩
  rintro m ⟨L', S, T⟩ ih ⟨i, hi, hF, rfl, rfl, he⟩
  obtain ⟨j, rfl⟩ := hF.ex
  have hw := wrap_nat i (by omega)
  simp +decide only [fr, jl, Nat.reduceAdd, go_sem]
  refine Wif_of (fun h => ?_) (fun h => ?_)
  · have hlt : i < l.length := by simpa using h
    have hx := rd_at hlt
    obtain ⟨m, rfl⟩ : ∃ k, m = k + 1 := ⟨m - 1, by omega⟩
    rw [idxN] at he
    simp +decide only [go_sem, hx]
    refine Wif_of (fun h => ?_) (fun h => ?_)
    · rw [if_pos (by simpa using h)] at he
      simp +decide only [go_sem]
      exact ⟨_, rfl, rfl, by rw [he]⟩
    · rw [if_neg (by simpa using h)] at he
      simp +decide only [go_sem, hw]
      exact ih m _ (by omega) ⟨i + 1, by omega, ⟨rfl, rfl, rfl, rfl, trivial⟩, rfl, rfl, he⟩
  · have hi' : i = l.length := by simp at h; omega
    subst hi'
    obtain rfl : m = 0 := by omega
    simp +decide only [go_sem]
    exact ⟨_, rfl, rfl, by rw [he]; rfl⟩
theorem rnear_g (t : List SVtx) (p : Int) (ht : t.length ≤ 1000) : Gv P X 60 [encT t, I p] (L (nearOf t p)) := by
  refine gv_of (hX _ (by decide)) fun60 rfl ?_
  simp +decide only [Try.f60, encT, go_sem]
  refine WO_call rfl rfl rfl rfl rfl (rprocs_g hX t ht) ?_
  unfold nearOf
  by_cases a0 : p < 0
  · rw [if_neg (fun h : inP t p => by have := h.1; omega)]
    simp +decide only [go_sem, a0]
    exact ⟨_, rfl, rfl, rfl⟩
  by_cases a1 : (procN t : Int) ≤ p
  · rw [if_neg (fun h : inP t p => by have := h.2; omega)]
    simp +decide only [go_sem, a0, a1]
    exact ⟨_, rfl, rfl, rfl⟩
  have hp : inP t p := ⟨by omega, by omega⟩
  have h32 := procN_le t
  have hpn := hp.2
  rw [if_pos hp]
  simp +decide only [go_sem, a0, a1]
  have hl : ∀ far, (rowOf t p far).length ≤ 32 := fun far => Nat.le_trans rowN_len (by omega)
  refine W_ind (fun n s => ∃ (d : Nat) (v : AV), d + n = 4 ∧ 1 ≤ d ∧ FrIs 45 [(0, .sl .no (t.map encV)), (1, I p), (5, I (procN t)), (6, v), (7, I d)] s.fr ∧ s.S = [] ∧ App P 3 s.T v (((List.range' 1 (d - 1)).flatMap fun e : Nat => rowOf t p (e : Int)).map I)) ?_ (n := 3) ⟨1, .sl .nil [], rfl, by omega, ⟨rfl, rfl, rfl, rfl, rfl, rfl, trivial⟩, rfl, .nil⟩
  rintro n ⟨L', S, T⟩ ih ⟨d, v, hd, hd1, hF, rfl, hA⟩
  obtain ⟨j, rfl⟩ := hF.ex
  have hw := wrap_nat d (by omega)
  simp +decide only [fr, jl, Nat.reduceAdd, go_sem]
  refine Wif_of (fun h => ?_) (fun h => ?_)
  · have hd3 : d ≤ 3 := by simp at h; omega
    have hacc : ((List.range' 1 (d - 1)).flatMap fun e : Nat => rowOf t p (e : Int)).length ≤ 96 := by
      refine Nat.le_trans (flatMap_le0 (m := 32) fun e _ => hl e) ?_
      simp; omega
    have hnext : (List.range' 1 (d + 1 - 1)).flatMap (fun e : Nat => rowOf t p (e : Int)) = ((List.range' 1 (d - 1)).flatMap fun e : Nat => rowOf t p (e : Int)) ++ rowOf t p (d : Int) := by
      obtain ⟨e, rfl⟩ : ∃ e, d = e + 1 := ⟨d - 1, by omega⟩
      rw [show e + 1 + 1 - 1 = e + 1 by omega, show e + 1 - 1 = e by omega, List.range'_concat, List.flatMap_append]
      simp [Nat.add_comm]
    generalize ((List.range' 1 (d - 1)).flatMap fun e : Nat => rowOf t p (e : Int)) = acc at hacc hnext hA
    simp +decide only [go_sem]
    refine W_ind (fun m s => ∃ (i : Nat) (v : AV) (pre : List Int), i + m = procN t ∧ 1 ≤ i ∧ FrIs 45 [(0, .sl .no (t.map encV)), (1, I p), (5, I (procN t)), (6, v), (7, I d), (8, I i)] s.fr ∧ s.S = [] ∧ App P 3 s.T v ((acc ++ pre).map I) ∧ rowOf t p d = pre ++ rowN t p (procN t) d m i) ?_ (n := procN t - 1) ⟨1, v, [], by omega, by omega, ⟨rfl, rfl, rfl, rfl, rfl, rfl, rfl, trivial⟩, rfl, by simpa using hA, rfl⟩
    rintro m ⟨L', S, T⟩ ih2 ⟨i, v, pre, hi, hi1, hF, rfl, hA, hrow⟩
    obtain ⟨j, rfl⟩ := hF.ex
    have hw1 := wrap_nat i (by omega)
    have hlr := hl (d : Int)
    simp +decide only [fr, jl, Nat.reduceAdd, go_sem]
    refine Wif_of (fun h => ?_) (fun h => ?_)
    · have hlt : i < procN t := by simpa using h
      obtain ⟨m, rfl⟩ : ∃ k, m = k + 1 := ⟨m - 1, by omega⟩
      have hw2 : IntKind.i64.wrap (p + (i : Int)) = p + i := wrap64_of (by have := hp.1; omega)
      have hn0 : ¬ (procN t : Int) = 0 := by omega
      simp +decide only [go_sem, hw2, hn0]
      refine WO_call rfl rfl rfl rfl rfl (rfar_g hX t p (Int.tmod (p + (i : Int)) (procN t : Int)) ht) ?_
      rw [rowN] at hrow
      simp +decide only [go_sem]
      refine Wif_of (fun h => ?_) (fun h => ?_)
      · rw [if_pos (by simpa using h)] at hrow
        have hpl : pre.length + 1 ≤ 32 := by rw [hrow] at hlr; simp at hlr; omega
        obtain ⟨v', T', happ, hA'⟩ := app_int hA (Int.tmod (p + (i : Int)) (procN t : Int)) (by simp; omega)
        simp +decide only [go_sem, happ, hw1]
        exact ih2 m _ (by omega) ⟨i + 1, v', pre ++ [Int.tmod (p + (i : Int)) (procN t : Int)], by omega, by omega, ⟨rfl, rfl, rfl, rfl, rfl, rfl, rfl, trivial⟩, rfl, by rw [← List.append_assoc]; exact hA', by rw [hrow]; simp⟩
      · rw [if_neg (by simpa using h)] at hrow
        simp +decide only [go_sem, hw1]
        exact ih2 m _ (by omega) ⟨i + 1, v, pre, by omega, by omega, ⟨rfl, rfl, rfl, rfl, rfl, rfl, rfl, trivial⟩, rfl, hA, hrow⟩
    · have hi' : i = procN t := by simp at h; omega
      obtain rfl : m = 0 := by omega
      rw [rowN, List.append_nil] at hrow
      simp +decide only [go_sem, hw]
      exact ih (n - 1) _ (by omega) ⟨d + 1, v, by omega, by omega, ⟨rfl, rfl, rfl, rfl, rfl, rfl, trivial⟩, rfl, by rw [hnext, hrow]; exact hA⟩
  · have hd4 : d = 4 := by simp at h; omega
    subst hd4
    obtain ⟨o, rfl⟩ := hA.is
    simp +decide only [go_sem]
    exact ⟨_, rfl, rfl, by simp [List.range']⟩
end
end Go.Proofs.Ytplpmelpoajpdaa.Ev
