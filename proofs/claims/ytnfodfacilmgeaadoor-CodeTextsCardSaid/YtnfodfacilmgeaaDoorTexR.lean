/- The document's texts, its read and its Parse, are the code's, in plain words. No condition. -/
import Derived.Test.YtnfodfacilmgeaaDoorBackP
import Derived.Test.YtnfodfacilmgeaaDoorPRef07x2
namespace Go.Proofs.YtnfodfacilmgeaaDoor.Code
open Go Go.RowKit Go.Proofs Go.Proofs.YtnfodfacilmgeaaDoorW.PrintWords Go.Proofs.YtnfodfacilmgeaaDoorW.PrintLast Go.Proofs.YtnfodfacilmgeaaDoorW.PrintMore
set_option linter.unusedVariables false
open PCodeTexts
theorem nm_some7 (op : Int) : (nmB op = []) ↔ ¬ (1 ≤ op ∧ op ≤ 10) := by
  unfold nmB
  split
  next h =>
    have h1 : op.toNat < 11 := by omega
    have h2 : op = (op.toNat : Int) := by omega
    rw [h2]
    revert h1
    simp only [Int.toNat_natCast]
    generalize op.toNat = k
    revert k
    decide
  next h => constructor <;> intro h1 <;> first | rfl | omega
theorem name_f7 (op : Int) : catafalqueref07_Name.f op = some (bs (nmB op)) := by
  unfold catafalqueref07_Name.f
  rw [Option.bind_some]
  by_cases h1 : op < 1
  · rw [if_pos h1]
    have : nmB op = [] := (nm_some7 op).mpr (by omega)
    rw [this]; rfl
  rw [if_neg h1]
  by_cases h2 : op > 10
  · rw [if_pos h2]
    have : nmB op = [] := (nm_some7 op).mpr (by omega)
    rw [this]; rfl
  rw [if_neg h2]
  have w1 : wrap64 (op - 1) = op - 1 := by unfold wrap64; omega
  rw [w1]
  have hk : ∀ k, k < 10 → rdOf ByteArray.empty [(⟨#[97, 100, 100]⟩ : ByteArray), (⟨#[121, 105, 101, 108, 100]⟩ : ByteArray), (⟨#[115, 112, 97, 119, 110]⟩ : ByteArray), (⟨#[97, 99, 113, 117, 105, 114, 101]⟩ : ByteArray), (⟨#[114, 101, 108, 101, 97, 115, 101]⟩ : ByteArray), (⟨#[115, 101, 110, 100]⟩ : ByteArray), (⟨#[114, 101, 99, 118]⟩ : ByteArray), (⟨#[115, 108, 101, 101, 112]⟩ : ByteArray), (⟨#[108, 111, 111, 112]⟩ : ByteArray), (⟨#[101, 120, 105, 116]⟩ : ByteArray)] ((k : Nat) : Int) = bs (nmB ((k : Int) + 1)) := by
    intro k hk
    match k, hk with
    | 0, _ => rfl
    | 1, _ => rfl
    | 2, _ => rfl
    | 3, _ => rfl
    | 4, _ => rfl
    | 5, _ => rfl
    | 6, _ => rfl
    | 7, _ => rfl
    | 8, _ => rfl
    | 9, _ => rfl
  have := hk (op - 1).toNat (by omega)
  rw [show (((op - 1).toNat : Nat) : Int) = op - 1 by omega, show op - 1 + 1 = op by omega] at this
  rw [if_pos (by omega)]
  refine (if_pos (show op - 1 < (10 : Int) by omega)).trans ?_
  rw [this]
theorem figs_one (x : Int) : strOfNums [x] = bs [UInt8.ofNat x.toNat] := rfl
theorem itoa_step (a : Int) (h : 10 ≤ a.natAbs) : Lib.itoa a = Lib.itoa (Int.tdiv a 10) ++ [UInt8.ofNat (48 + a.natAbs % 10)] := by
  have hd : Lib.decDigits a.natAbs = Lib.decDigits (a.natAbs / 10) ++ [UInt8.ofNat (48 + a.natAbs % 10)] := by
    rw [Lib.decDigits, dif_neg (by omega)]
  unfold Lib.itoa
  by_cases hn : a < 0
  · have h1 : Int.tdiv a 10 = -((a.natAbs / 10 : Nat) : Int) := by
      obtain ⟨n, hn2⟩ : ∃ n : Nat, a = -(n : Int) := ⟨a.natAbs, by omega⟩
      subst hn2
      rw [Int.neg_tdiv, Int.natAbs_neg, Int.natAbs_natCast]; rfl
    rw [if_pos hn, if_pos (show Int.tdiv a 10 < 0 by omega), hd, h1, Int.natAbs_neg, Int.natAbs_natCast]; rfl
  · obtain ⟨n, rfl⟩ : ∃ n : Nat, a = (n : Int) := ⟨a.natAbs, by omega⟩
    have h1 : Int.tdiv (n : Int) 10 = ((n / 10 : Nat) : Int) := rfl
    rw [Int.natAbs_natCast] at hd ⊢
    rw [if_neg hn, h1, if_neg (by omega), Int.toNat_natCast, Int.toNat_natCast, hd]
theorem tmod_abs (a : Int) : Int.tmod a 10 = if a < 0 then -((a.natAbs % 10 : Nat) : Int) else ((a.natAbs % 10 : Nat) : Int) := by
  by_cases hn : a < 0
  · rw [if_pos hn]
    obtain ⟨n, hn2⟩ : ∃ n : Nat, a = -(n : Int) := ⟨a.natAbs, by omega⟩
    subst hn2
    rw [Int.neg_tmod, Int.natAbs_neg, Int.natAbs_natCast]; rfl
  · rw [if_neg hn]
    obtain ⟨n, rfl⟩ : ∃ n : Nat, a = (n : Int) := ⟨a.natAbs, by omega⟩
    rfl
theorem tdiv_abs (a : Int) : (Int.tdiv a 10).natAbs = a.natAbs / 10 := by
  by_cases hn : a < 0
  · obtain ⟨n, hn2⟩ : ∃ n : Nat, a = -(n : Int) := ⟨a.natAbs, by omega⟩
    subst hn2
    rw [Int.neg_tdiv, Int.natAbs_neg, Int.natAbs_neg]; rfl
  · obtain ⟨n, rfl⟩ : ∃ n : Nat, a = (n : Int) := ⟨a.natAbs, by omega⟩
    rfl
theorem fig_one (n : Nat) (h : n < 10) : ((wrap64 (48 + (n : Int))) % 256).toNat = 48 + n := by unfold wrap64; omega
theorem fig_f : ∀ (m : Nat) (a : Int), a.natAbs < 10 ^ (m + 1) → -9223372036854775808 ≤ a → a ≤ 9223372036854775807 → ∀ k, 2 * m + 2 ≤ k → catafalqueref07_Figures.f k a = some (bs (Lib.itoa a)) := by
  intro m
  induction m with
  | zero =>
    intro a ha h0 h1 k hk
    obtain ⟨k, rfl⟩ : ∃ j, k = j + 2 := ⟨k - 2, by omega⟩
    rw [catafalqueref07_Figures.f, if_pos (by omega), catafalqueref07_Figures.j0, if_pos (decide_eq_true (by omega))]
    by_cases hn : a < 0
    · rw [if_pos hn, Option.bind_some, if_pos (by show 1 + 1 ≤ _; omega)]
      have e : Lib.itoa a = [45, UInt8.ofNat (48 + a.natAbs)] := by
        unfold Lib.itoa
        rw [if_pos hn, Lib.decDigits, dif_pos (by omega)]
      rw [e, figs_one, show (48 - a) = 48 + (a.natAbs : Int) by omega, fig_one _ (by omega)]; rfl
    · rw [if_neg hn, figs_one, show 48 + a = 48 + (a.natAbs : Int) by omega, fig_one _ (by omega)]
      unfold Lib.itoa
      rw [if_neg hn, Lib.decDigits, dif_pos (by omega), show a.toNat = a.natAbs by omega]
  | succ m ih =>
    intro a ha h0 h1 k hk
    by_cases hs : a.natAbs < 10 ^ (m + 1)
    · exact ih a hs h0 h1 k (by omega)
    have h10 : 10 ≤ a.natAbs := by
      have : 10 ^ 1 ≤ 10 ^ (m + 1) := Nat.pow_le_pow_right (by decide) (by omega)
      omega
    obtain ⟨k, rfl⟩ : ∃ j, k = j + 2 := ⟨k - 2, by omega⟩
    have hj : catafalqueref07_Figures.f (k + 2) a = catafalqueref07_Figures.j0 (k + 1) a false := by
      rw [catafalqueref07_Figures.f]
      by_cases hg : a > -10
      · rw [if_pos hg, decide_eq_false (by omega)]
      · rw [if_neg hg]
    have hta := tdiv_abs a
    have hw : wrap64 (Int.tdiv a 10) = Int.tdiv a 10 := by unfold wrap64; omega
    have hr := ih (Int.tdiv a 10) (by rw [hta]; rw [Nat.pow_succ] at ha; omega) (by omega) (by omega) k (by omega)
    have hm := tmod_abs a
    have hst := itoa_step a h10
    rw [hj, catafalqueref07_Figures.j0, if_neg (by decide), hw, hr, Option.bind_some, Option.bind_some, Option.bind_some, Option.bind_some]
    have hlen := Lib.itoa_length_le (Int.tdiv a 10) (by omega) (by omega)
    have hsz : ∀ x : UInt8, (bs (Lib.itoa (Int.tdiv a 10))).size + (bs [x]).size ≤ 9223372036854775807 := by
      intro x
      rw [bs_size, bs_size, List.length_singleton]; omega
    have hd := Nat.mod_lt a.natAbs (show 0 < 10 by decide)
    by_cases hn : Int.tmod a 10 < 0
    · rw [if_pos hn]
      have e : wrap64 (-(Int.tmod a 10)) = ((a.natAbs % 10 : Nat) : Int) := by
        rw [hm] at hn ⊢
        split at hn
        · next h => rw [if_pos h]; unfold wrap64; omega
        · omega
      rw [e, figs_one, fig_one _ hd, if_pos (hsz _), bs_append, hst]
    · rw [if_neg hn]
      have e : Int.tmod a 10 = ((a.natAbs % 10 : Nat) : Int) := by
        rw [hm] at hn ⊢
        split at hn
        · next h => rw [if_pos h]; omega
        · next h => rw [if_neg h]
      rw [e, figs_one, fig_one _ hd, if_pos (hsz _), bs_append, hst]
theorem fig_all (a : Int) (h0 : -9223372036854775808 ≤ a) (h1 : a ≤ 9223372036854775807) (k : Nat) (hk : 40 ≤ k) : catafalqueref07_Figures.f k a = some (bs (Lib.itoa a)) :=
  fig_f 18 a (by have : a.natAbs ≤ 9223372036854775808 := by omega
                 exact Nat.lt_of_le_of_lt this (by decide)) h0 h1 k (by omega)
theorem line_f (op a : Int) (h0 : -9223372036854775808 ≤ a) (h1 : a ≤ 9223372036854775807) (k : Nat) (hk : 40 ≤ k) : catafalqueref07_Line.f k op a = some (bs (oneB op a)) := by
  unfold catafalqueref07_Line.f
  rw [name_f7, Option.bind_some]
  have hq : qm (bs (nmB op)) = bs (nmQ op) := by
    unfold qm nmQ
    rw [bs_toList]
    by_cases h : nmB op = []
    · rw [if_pos h, if_pos h]; rfl
    · rw [if_neg h, if_neg h]
  rw [hq]
  by_cases hb : bare op a
  · rw [if_pos hb]
    unfold oneB
    rw [if_pos hb, List.append_nil]
  · rw [if_neg hb, fig_all a h0 h1 k hk, Option.bind_some]
    have h2 := oneB_le op a h0 h1
    unfold oneB at h2 ⊢
    rw [if_neg hb] at h2 ⊢
    rw [List.length_append, List.length_cons] at h2
    rw [if_pos (by rw [bs_size, bs_size]; omega), bs_three]
theorem rd43_un (l : List S43) (j : Nat) (h : j < l.length) : ((rd_T43 l (j : Int)).f0, (rd_T43 l (j : Int)).f1) = unI l[j] := by
  unfold rd_T43
  rw [Int.toNat_natCast, List.getD_eq_getElem?_getD, List.getElem?_eq_getElem h]; rfl
theorem text_l (l : List S43) (hl : l.length ≤ 1000) (hw : Wf (l.map unI)) : ∀ d j, j + d = l.length → ∀ k, d + 41 ≤ k → catafalqueref07_Text.l0 k l (bs (textB ((l.take j).map unI))) (j : Int) = some (bs (textB (l.map unI))) := by
  intro d
  induction d with
  | zero =>
    intro j hj k hk
    obtain ⟨k, rfl⟩ : ∃ i, k = i + 1 := ⟨k - 1, by omega⟩
    rw [catafalqueref07_Text.l0, if_neg (by omega), List.take_of_length_le (by omega)]
  | succ d ih =>
    intro j hj k hk
    obtain ⟨k, rfl⟩ : ∃ i, k = i + 1 := ⟨k - 1, by omega⟩
    have hjl : j < l.length := by omega
    have hx := rd43_un l j hjl
    have hb := hw (unI l[j]) (List.mem_map_of_mem (List.getElem_mem hjl))
    have e0 : (rd_T43 l (j : Int)).f0 = (unI l[j]).1 := congrArg Prod.fst hx
    have e1 : (rd_T43 l (j : Int)).f1 = (unI l[j]).2 := congrArg Prod.snd hx
    have w1 : wrap64 ((j : Int) + 1) = ((j + 1 : Nat) : Int) := by unfold wrap64; omega
    have hle := textB_le ((l.take j).map unI) (fun y hy => hw y (by
      rw [List.map_take] at hy; exact List.mem_of_mem_take hy))
    rw [List.length_map, List.length_take] at hle
    have h29 := oneB_le (unI l[j]).1 (unI l[j]).2 hb.1 hb.2
    rw [catafalqueref07_Text.l0, if_pos (by omega), if_pos (Int.natCast_nonneg j), e0, e1, line_f _ _ hb.1 hb.2 k (by omega), Option.bind_some]
    rw [if_pos (by rw [bs_size, bs_size]; omega), if_pos (by rw [bs_append, bs_size, List.length_append]; omega), w1]
    have ht : (l.take (j + 1)).map unI = (l.take j).map unI ++ [unI l[j]] := by
      rw [List.take_succ_eq_append_getElem hjl, List.map_append]; rfl
    have e2 : bs (textB ((l.take j).map unI)) ++ bs (oneB (unI l[j]).1 (unI l[j]).2) ++ (⟨#[10]⟩ : ByteArray) = bs (textB ((l.take (j + 1)).map unI)) := by
      rw [show (⟨#[10]⟩ : ByteArray) = bs [10] from rfl, bs_append, bs_append, ht, textB_append]
      congr 1
      rw [List.append_assoc]
      unfold textB
      rw [List.flatMap_singleton]; rfl
    rw [e2]
    exact ih (j + 1) (by omega) k (by omega)
theorem text_f (l : List S43) (hl : l.length ≤ 1000) (hw : Wf (l.map unI)) : catafalqueref07_Text.f (l.length + 41) l = some (bs (textB (l.map unI))) := by
  unfold catafalqueref07_Text.f
  exact text_l l hl hw l.length 0 (Nat.zero_add _) _ (Nat.le_refl _)
def inI (a : Int) : Prop := -9223372036854775808 ≤ a ∧ a ≤ 9223372036854775807
theorem inI_wrap (x : Int) : inI (wrap64 x) := by unfold inI wrap64; omega
theorem bt_bs (s : List UInt8) (i : Nat) (h : i < s.length) : bt (bs s) (i : Int) = (s[i].toNat : Int) := by
  unfold bt
  rw [dif_pos (show (i : Int).toNat < (bs s).size by rw [bs_size]; simpa using h)]
  rfl
def stepN (x : Int) (c : UInt8) : Int := if 48 ≤ c.toNat ∧ c.toNat ≤ 57 then wrap64 (wrap64 (10 * x) - ((c.toNat : Int) - 48) % 256) else x
def finN (s : List UInt8) (x : Int) : Int := if s.head? = some 45 then x else wrap64 (-x)
theorem num_l (s : List UInt8) (hs : s.length ≤ 1000000) : ∀ d i, i + d = s.length → ∀ k x, d < k → catafalqueref07_number.l0 k (bs s) x (i : Int) = some (finN s ((s.drop i).foldl stepN x)) := by
  intro d
  induction d with
  | zero =>
    intro i hi k x hk
    obtain ⟨k, rfl⟩ : ∃ j, k = j + 1 := ⟨k - 1, by omega⟩
    rw [catafalqueref07_number.l0, bs_size, if_neg (by omega), List.drop_of_length_le (by omega), List.foldl_nil]
    unfold finN
    cases s with
    | nil => rw [if_neg (by simp), if_neg (by simp)]
    | cons c r =>
      rw [if_pos (by simp only [List.length_cons]; omega), if_pos (by simp only [List.length_cons]; omega)]
      have := bt_bs (c :: r) 0 (by simp)
      rw [show ((0 : Nat) : Int) = 0 from rfl] at this
      rw [this]
      by_cases h : c = 45
      · subst h; rfl
      · rw [if_neg (by
          intro h2; apply h; apply UInt8.toNat_inj.mp
          have h3 : (c.toNat : Int) = 45 := h2
          exact_mod_cast h3), if_neg (by simpa using h)]
  | succ d ih =>
    intro i hi k x hk
    obtain ⟨k, rfl⟩ : ∃ j, k = j + 1 := ⟨k - 1, by omega⟩
    have hil : i < s.length := by omega
    have w1 : wrap64 ((i : Int) + 1) = ((i + 1 : Nat) : Int) := by unfold wrap64; omega
    rw [catafalqueref07_number.l0, bs_size, if_pos (by omega), if_pos (Int.natCast_nonneg i), bt_bs s i hil, w1]
    rw [List.drop_eq_getElem_cons hil, List.foldl_cons]
    unfold stepN
    by_cases h48 : (s[i].toNat : Int) ≥ 48
    · rw [if_pos h48]
      by_cases h57 : (s[i].toNat : Int) ≤ 57
      · rw [if_pos h57, if_pos (by omega)]
        exact ih (i + 1) (by omega) k _ (by omega)
      · rw [if_neg h57, if_neg (by omega)]
        exact ih (i + 1) (by omega) k _ (by omega)
    · rw [if_neg h48, if_neg (by omega)]
      exact ih (i + 1) (by omega) k _ (by omega)
theorem fold_in : ∀ (s : List UInt8) (x : Int), inI x → inI (s.foldl stepN x)
  | [], x, h => h
  | c :: s, x, h => by
    rw [List.foldl_cons]
    refine fold_in s _ ?_
    unfold stepN
    split
    · exact inI_wrap _
    · exact h
theorem num_any (s : List UInt8) (hs : s.length ≤ 1000000) (k : Nat) (hk : s.length < k) : ∃ v, catafalqueref07_number.f k (bs s) = some v ∧ inI v := by
  refine ⟨_, num_l s hs s.length 0 (Nat.zero_add _) k 0 hk, ?_⟩
  unfold finN
  split
  · exact fold_in _ _ (by unfold inI; omega)
  · exact inI_wrap _
theorem fold_dec (n : Nat) (hn : n ≤ 9223372036854775808) : (Lib.decDigits n).foldl stepN 0 = -(n : Int) := by
  induction n using Nat.strongRecOn with
  | ind n ih =>
    have hd : ∀ (x : Int) (u : Nat), u < 10 → stepN x (UInt8.ofNat (48 + u)) = wrap64 (wrap64 (10 * x) - (u : Int)) := by
      intro x u hu
      have e : (UInt8.ofNat (48 + u)).toNat = 48 + u := by rw [UInt8.toNat_ofNat']; omega
      unfold stepN
      rw [e, if_pos (by omega)]
      congr 2
      omega
    by_cases h : n < 10
    · rw [Lib.decDigits, dif_pos h, List.foldl_cons, List.foldl_nil, hd 0 n h]
      unfold wrap64; omega
    · rw [Lib.decDigits, dif_neg h, List.foldl_append, ih (n / 10) (by omega) (by omega), List.foldl_cons, List.foldl_nil, hd _ (n % 10) (by omega)]
      unfold wrap64; omega
theorem num_itoa (a : Int) (h0 : -9223372036854775808 ≤ a) (h1 : a ≤ 9223372036854775807) (k : Nat) (hk : (Lib.itoa a).length < k) : catafalqueref07_number.f k (bs (Lib.itoa a)) = some a := by
  have hl := Lib.itoa_length_le a h0 h1
  refine (num_l (Lib.itoa a) (by omega) (Lib.itoa a).length 0 (Nat.zero_add _) k 0 hk).trans ?_
  rw [List.drop_zero]
  congr 1
  unfold finN Lib.itoa
  by_cases hn : a < 0
  · rw [if_pos hn, List.foldl_cons, show stepN 0 45 = 0 from rfl, fold_dec _ (by omega), if_pos (show (45 :: Lib.decDigits a.natAbs).head? = some 45 from rfl)]
    omega
  · rw [if_neg hn, fold_dec _ (by omega)]
    obtain ⟨c, r, e, h2, h3⟩ := dec_ne a.toNat
    rw [e, if_neg (by
      rw [List.head?_cons]
      intro h; injection h with h; subst h; exact absurd h2 (by decide))]
    unfold wrap64; omega
theorem bs_inj {s t : List UInt8} (h : (bs s).toList = (bs t).toList) : s = t := by rwa [bs_toList, bs_toList] at h
theorem bs_extract (s : List UInt8) (i j : Nat) : (bs s).extract i j = bs ((s.drop i).take (j - i)) := by
  unfold bs
  apply ByteArray.ext
  simp [ByteArray.data_extract]
theorem read_l (s : List UInt8) (hs : s.length ≤ 100000) : ∀ d j : Nat, j + d = 11 → 1 ≤ j → ∀ k, 2 * d + s.length + 60 ≤ k →
    (∃ op a, catafalqueref07_read.l0 k (bs s) (j : Int) = some (op, a, true) ∧ nmB op ≠ [] ∧ oneB op a = s ∧ inI a) ∨
    (catafalqueref07_read.l0 k (bs s) (j : Int) = some (0, 0, false) ∧ ∀ op a : Int, (j : Int) ≤ op → op ≤ 10 → inI a → oneB op a ≠ s) := by
  intro d
  induction d with
  | zero =>
    intro j hj h1 k hk
    obtain ⟨k, rfl⟩ : ∃ i, k = i + 1 := ⟨k - 1, by omega⟩
    right
    rw [catafalqueref07_read.l0, if_neg (by omega)]
    exact ⟨rfl, fun op a h2 h3 => by omega⟩
  | succ d ih =>
    intro j hj h1 k hk
    obtain ⟨k, rfl⟩ : ∃ i, k = i + 2 := ⟨k - 2, by omega⟩
    have w1 : wrap64 ((j : Int) + 1) = ((j + 1 : Nat) : Int) := by unfold wrap64; omega
    have hnm : nmB (j : Int) ≠ [] := fun h => absurd ((nm_some7 (j : Int)).mp h) (by omega)
    have hnl := nmB_le (j : Int)
    rw [catafalqueref07_read.l0, if_pos (by omega), name_f7, Option.bind_some, line_f _ 0 (by omega) (by omega) (k + 1) (by omega), Option.bind_some]
    by_cases h0 : oneB (j : Int) 0 = s
    · rw [if_pos (by rw [h0])]
      exact .inl ⟨j, 0, rfl, hnm, h0, by unfold inI; omega⟩
    rw [if_neg (fun h => h0 (bs_inj h))]
    have next := ih (j + 1) (by omega) (by omega) k (by omega)
    have nosucc : (∀ op a : Int, ((j + 1 : Nat) : Int) ≤ op → op ≤ 10 → inI a → oneB op a ≠ s) → (∀ a, inI a → oneB (j : Int) a ≠ s) → ∀ op a : Int, (j : Int) ≤ op → op ≤ 10 → inI a → oneB op a ≠ s := by
      intro g1 g2 op a h2 h3 h4
      by_cases h5 : op = (j : Int)
      · subst h5; exact g2 a h4
      · exact g1 op a (by omega) h3 h4
    have shape : ∀ a, inI a → oneB (j : Int) a = s → s = nmB (j : Int) ++ 32 :: Lib.itoa a := by
      intro a ha he
      have hb : ¬ bare (j : Int) a := by
        intro hb
        have : oneB (j : Int) 0 = s := by rw [← he, hb.1]
        exact h0 this
      rw [← he]
      unfold oneB nmQ
      rw [if_neg hb, if_neg hnm]
    have jf : ∀ op' a', catafalqueref07_read.j1 (k + 1) (bs s) (j : Int) (bs (nmB (j : Int))) false op' a' = catafalqueref07_read.l0 k (bs s) ((j + 1 : Nat) : Int) := by
      intro op' a'
      rw [catafalqueref07_read.j1, if_neg (by decide), w1]
    by_cases hsz : ((bs s).size : Int) > ((bs (nmB (j : Int))).size : Int)
    · rw [if_pos hsz, if_pos (Int.natCast_nonneg _), if_pos (by omega)]
      rw [bs_size, bs_size] at hsz
      by_cases hp : ((bs s).extract 0 (((bs (nmB (j : Int))).size : Int) : Int).toNat).toList = (bs (nmB (j : Int))).toList
      · rw [beq_iff_eq.mpr hp, catafalqueref07_read.j1, if_pos rfl]
        have wn : wrap64 (((bs (nmB (j : Int))).size : Int) + 1) = (((nmB (j : Int)).length + 1 : Nat) : Int) := by rw [bs_size]; unfold wrap64; omega
        rw [wn, if_pos (Int.natCast_nonneg _), if_pos (by rw [bs_size]; omega), Int.toNat_natCast, bs_extract, bs_size]
        have htl : (s.drop ((nmB (j : Int)).length + 1)).take (s.length - ((nmB (j : Int)).length + 1)) = s.drop ((nmB (j : Int)).length + 1) := List.take_of_length_le (by rw [List.length_drop]; exact Nat.le_refl _)
        rw [htl]
        obtain ⟨v, hv, hvi⟩ := num_any (s.drop ((nmB (j : Int)).length + 1)) (by rw [List.length_drop]; omega) k (by rw [List.length_drop]; omega)
        rw [hv, Option.bind_some, line_f _ v hvi.1 hvi.2 k (by omega), Option.bind_some]
        by_cases hl : oneB (j : Int) v = s
        · rw [if_pos (by rw [hl])]
          exact .inl ⟨j, v, rfl, hnm, hl, hvi⟩
        · rw [if_neg (fun h => hl (bs_inj h)), w1]
          rcases next with h | h
          · exact .inl h
          · refine .inr ⟨h.1, nosucc h.2 fun a ha he => hl ?_⟩
            have hsh := shape a ha he
            have hdr : s.drop ((nmB (j : Int)).length + 1) = Lib.itoa a := by
              rw [hsh, List.drop_append]
              simp
            rw [hdr, num_itoa a ha.1 ha.2 k (by
              have := Lib.itoa_length_le a ha.1 ha.2; omega)] at hv
            injection hv with hv
            rw [← hv]; exact he
      · rw [beq_eq_false_iff_ne.mpr hp, jf]
        rcases next with h | h
        · exact .inl h
        · refine .inr ⟨h.1, nosucc h.2 fun a ha he => hp ?_⟩
          have hsh := shape a ha he
          rw [Int.toNat_natCast, bs_extract, bs_size, List.drop_zero, Nat.sub_zero, hsh, List.take_left]
    · rw [if_neg hsz, jf]
      rw [bs_size, bs_size] at hsz
      rcases next with h | h
      · exact .inl h
      · refine .inr ⟨h.1, nosucc h.2 fun a ha he => hsz ?_⟩
        have hsh := congrArg List.length (shape a ha he)
        rw [List.length_append, List.length_cons] at hsh
        omega
theorem read_f (s : List UInt8) (hs : s.length ≤ 100000) (k : Nat) (hk : s.length + 80 ≤ k) : ∃ op a, catafalqueref07_read.f k (bs s) = some (op, a, (readF s).2) ∧ ((readF s).2 = true → (readF s).1 = (op, a)) := by
  rcases read_l s hs 10 1 rfl (Nat.le_refl _) k (by omega) with ⟨op, a, h1, h2, h3, h4⟩ | ⟨h1, h2⟩
  · have := read_one op a h2 h4.1 h4.2
    rw [h3] at this
    exact ⟨op, a, by rw [this]; exact h1, fun _ => by rw [this]⟩
  · have hf : (readF s).2 = false := by
      by_cases h : (readF s).2 = true
      · exfalso
        have hd := of_decide_eq_true h
        have hb := atoiV_bound (cutB s 32).2.1
        have hnm : nmB (opOf (cutB s 32).1) ≠ [] := by
          intro hn
          have := read_none _ (atoiV (cutB s 32).2.1) hn
          rw [hd.2.2, h] at this
          cases this
        have hr := Classical.not_not.mp (fun hx => hnm ((nm_some7 _).mpr hx))
        exact h2 _ _ (by omega) hr.2 hb hd.2.2
      · exact Bool.eq_false_iff.mpr h
    exact ⟨0, 0, by rw [hf]; exact h1, fun h => by rw [hf] at h; cases h⟩
theorem parse_l (s : List UInt8) (hs : s.length ≤ 100000) : ∀ d i, i + d = s.length → ∀ (from' : Nat) (pre : List S43) (K k : Nat), from' ≤ i → pre.length + (s.length - i) ≤ 100000 → (∀ x ∈ (s.drop from').take (i - from'), x ≠ 10) → (s.drop from').length < K → d + s.length + 200 ≤ k →
    catafalqueref07_Parse.l0 k (bs s) pre (from' : Int) (i : Int) = some (parseF K (s.drop from') pre) := by
  intro d
  induction d with
  | zero =>
    intro i hi from' pre K k hf hpl hno hK hk
    obtain ⟨k, rfl⟩ : ∃ j, k = j + 1 := ⟨k - 1, by omega⟩
    obtain ⟨K, rfl⟩ : ∃ j, K = j + 1 := ⟨K - 1, by omega⟩
    rw [catafalqueref07_Parse.l0, bs_size, if_neg (by omega), parseF]
    by_cases h : (from' : Int) < (s.length : Int)
    · rw [if_pos h, if_neg (by
        intro h2
        have := congrArg List.length h2
        rw [List.length_drop, List.length_nil] at this; omega)]
      rw [List.take_of_length_le (by rw [List.length_drop]; omega)] at hno
      rw [cut_no 10 _ hno, if_neg (fun h => Bool.false_ne_true h.1)]
    · rw [if_neg h, if_pos (List.drop_of_length_le (by omega))]
  | succ d ih =>
    intro i hi from' pre K k hf hpl hno hK hk
    obtain ⟨k, rfl⟩ : ∃ j, k = j + 1 := ⟨k - 1, by omega⟩
    have hil : i < s.length := by omega
    have w1 : wrap64 ((i : Int) + 1) = ((i + 1 : Nat) : Int) := by unfold wrap64; omega
    have hsp : s.drop from' = (s.drop from').take (i - from') ++ s[i] :: s.drop (i + 1) := by
      have e1 : (s.drop from').drop (i - from') = s[i] :: s.drop (i + 1) := by
        rw [List.drop_drop, show from' + (i - from') = i by omega, List.drop_eq_getElem_cons hil]
      rw [← e1, List.take_append_drop]
    rw [catafalqueref07_Parse.l0, bs_size, if_pos (by omega), if_pos (Int.natCast_nonneg i), bt_bs s i hil, w1]
    by_cases h10 : s[i] = 10
    · rw [if_pos (by rw [h10]; rfl), if_pos (Int.natCast_nonneg from'), if_pos (by omega), if_pos (by omega), Int.toNat_natCast, Int.toNat_natCast, bs_extract]
      obtain ⟨K, rfl⟩ : ∃ j, K = j + 1 := ⟨K - 1, by omega⟩
      have hcut : cutB (s.drop from') 10 = ((s.drop from').take (i - from'), s.drop (i + 1), true) := by
        conv => lhs; rw [hsp, h10]
        exact cut_at 10 _ _ hno
      obtain ⟨op, a, h1, h2⟩ := read_f ((s.drop from').take (i - from')) (by rw [List.length_take, List.length_drop]; omega) k (by rw [List.length_take, List.length_drop]; omega)
      have hne : s.drop from' ≠ [] := by
        intro h
        have := congrArg List.length h
        rw [List.length_drop, List.length_nil] at this; omega
      rw [h1, Option.bind_some, parseF, hcut, if_neg hne]
      by_cases hr : (readF ((s.drop from').take (i - from'))).2 = true
      · rw [if_pos hr, if_pos (by omega), if_pos ⟨rfl, hr⟩, h2 hr]
        exact ih (i + 1) (by omega) (i + 1) _ K k (Nat.le_refl _) (by rw [List.length_append, List.length_singleton]; omega) (by rw [Nat.sub_self, List.take_zero]; intro x hx; cases hx) (by rw [List.length_drop] at hK ⊢; omega) (by omega)
      · rw [if_neg hr, if_neg (fun h => hr h.2)]
    · rw [if_neg (by
        intro h; apply h10; apply UInt8.toNat_inj.mp
        have h3 : (s[i].toNat : Int) = 10 := h
        exact_mod_cast h3)]
      refine ih (i + 1) (by omega) from' pre K k (by omega) (by omega) ?_ hK (by omega)
      intro x hx
      rw [show i + 1 - from' = (i - from') + 1 by omega, List.take_add_one] at hx
      rcases List.mem_append.mp hx with hx | hx
      · exact hno x hx
      · rw [List.getElem?_drop, show from' + (i - from') = i by omega, List.getElem?_eq_getElem hil] at hx
        simp only [Option.toList_some, List.mem_singleton] at hx
        rw [hx]; exact h10
theorem parse_f (s : List UInt8) (hs : s.length ≤ 50000) : catafalqueref07_Parse.f (2 * s.length + 200) (bs s) = some (parseF (s.length + 1) s []) := by
  have := parse_l s (by omega) s.length 0 (Nat.zero_add _) 0 [] (s.length + 1) (2 * s.length + 200) (Nat.le_refl _) (by simp; omega) (by intro x hx; cases hx) (by rw [List.drop_zero]; omega) (by omega)
  rw [List.drop_zero] at this
  exact this
end Go.Proofs.YtnfodfacilmgeaaDoor.Code
