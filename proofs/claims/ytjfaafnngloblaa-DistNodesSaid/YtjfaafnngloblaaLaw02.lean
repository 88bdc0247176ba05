/- The laws of chapter 2 on values: the table, the nodes. No condition. -/
import Derived.Test.YtjfaafnngloblaaNear3
import Derived.Test.YtjfaafnngloblaaDistN
import Derived.Test.YtjfaafnngloblaaRef01
namespace Go.Proofs.Ytjfaafnngloblaa.Ev
open Go Go.Proofs
set_option linter.unusedVariables false
set_option linter.unusedSimpArgs false
open Go.RowKit (wrap64)
set_option maxRecDepth 100000
section
variable {X : Prims} (hX : Low X)
include hX
theorem rprocs_g (t : List SVtx) (ht : t.length ≤ 1000) : Gv P X 18 [encT t] (I (procN t)) := by
  refine gv_of (hX _ (by decide)) fun18 rfl ?_
  simp +decide only [Try.f18, encT, go_sem]
  refine WO_call rfl rfl rfl rfl rfl (rcheck_g hX t ht) ?_
  unfold procN
  by_cases hv : Valid t
  · rw [if_pos hv, if_pos hv]
    simp +decide only [go_sem, Int.reduceBNe]
    refine WO_call rfl rfl rfl rfl rfl (of_g hX t 3 ht) ?_
    simp +decide only [go_sem]
    exact ⟨_, rfl, rfl, rfl⟩
  · rw [if_neg hv, if_neg hv]
    simp +decide only [go_sem, Int.reduceBNe]
    exact ⟨_, rfl, rfl, rfl⟩
theorem ints_g (a b : List Int) (ha : a.length ≤ 100000) : Gv P X 15 [L a, L b] (B (decide (a = b))) := by
  refine gv_of (hX _ (by decide)) fun15 rfl ?_
  by_cases hl : (a.length : Int) = b.length
  case neg =>
    have hl' : ((a.length : Int) != b.length) = true := by simpa using hl
    simp +decide only [Try.f15, go_sem, hl']
    exact ⟨_, rfl, rfl, by rw [decide_eq_false (fun h => hl (by rw [h]))]⟩
  have hl' : ((a.length : Int) != b.length) = false := by simpa using hl
  simp +decide only [Try.f15, go_sem, hl']
  refine W_ind (fun n s => ∃ i : Nat, i + n = a.length ∧ FrIs 26 [(0, L a), (1, L b), (5, I i)] s.fr ∧ s.S = [] ∧ s.T = [] ∧ a.take i = b.take i) ?_ (n := a.length) ⟨0, by omega, ⟨rfl, rfl, rfl, rfl, trivial⟩, rfl, rfl, rfl⟩
  rintro n ⟨L, S, T⟩ ih ⟨i, hi, hF, rfl, rfl, he⟩
  obtain ⟨j, rfl⟩ := hF.ex
  simp +decide only [fr, jl, Nat.reduceAdd, go_sem]
  refine Wif_of (fun h => ?_) (fun h => ?_)
  · have hlt : i < a.length := by simpa using h
    have hx := rd_at hlt
    have hy := rd_at (show i < b.length by omega)
    have hw := wrap_nat i (by omega)
    simp +decide only [go_sem]
    refine W_draw hmx (by kernel_rfl) ?_
    by_cases hab : rd a i = rd b i
    · have hab' : (rd a i != rd b i) = false := by simpa using hab
      simp +decide only [go_sem, hx, hy, hab', hw]
      refine ih (n - 1) _ (by omega) ⟨i + 1, by omega, ⟨rfl, rfl, rfl, rfl, trivial⟩, rfl, rfl, ?_⟩
      rw [List.take_add_one, List.take_add_one, he, hx, hy, hab]
    · have hab' : (rd a i != rd b i) = true := by simpa using hab
      simp +decide only [go_sem, hx, hy, hab']
      exact ⟨_, rfl, rfl, by rw [decide_eq_false (fun h => hab (by rw [h]))]⟩
  · have hi' : i = a.length := by simp at h; omega
    subst hi'
    have : a = b := by
      rw [List.take_of_length_le (Nat.le_refl _), List.take_of_length_le (by omega)] at he
      exact he
    simp +decide only [go_sem]
    exact ⟨_, rfl, rfl, by rw [decide_eq_true this]⟩
end
def twoT : List SVtx := [⟨-1, 0⟩, ⟨0, 1⟩, ⟨1, 2⟩, ⟨2, 3⟩, ⟨2, 3⟩, ⟨0, 1⟩, ⟨5, 2⟩, ⟨6, 3⟩, ⟨6, 3⟩]
theorem two_g {X : Prims} (hX : Low X) : Gv P X 23 [] (encT twoT) := by
  refine gv_of (hX _ (by decide)) fun23 rfl ?_
  simp +decide only [Try.f23, go_sem, fillA, places]
  exact ⟨_, rfl, rfl, rfl⟩
theorem shown_g : Gv P XN 10 [] (B true) := by
  refine gv_of (lowN _ (by decide)) fun10 rfl ?_
  have ht : twoT.length ≤ 1000 := by decide
  simp +decide only [Try.f10, go_sem]
  refine WO_call rfl rfl rfl rfl rfl (two_g lowN) ?_
  simp +decide only [go_sem]
  refine WO_call rfl rfl rfl rfl rfl (far_g lowN twoT 0 1 ht) ?_
  rw [show farOf twoT 0 1 = 1 by decide +kernel]
  simp +decide only [go_sem]
  refine WO_call rfl rfl rfl rfl rfl (far_g lowN twoT 0 2 ht) ?_
  rw [show farOf twoT 0 2 = 3 by decide +kernel]
  simp +decide only [go_sem]
  refine WO_call rfl rfl rfl rfl rfl (near_g twoT 3 ht) ?_
  rw [show nearOf twoT 3 = [2, 0, 1] by decide +kernel]
  simp +decide only [go_sem]
  refine WO_call rfl rfl rfl rfl rfl (ints_g lowN [2, 0, 1] [2, 0, 1] (by decide)) ?_
  simp +decide only [go_sem]
  refine WO_call rfl rfl rfl rfl rfl (node_g lowN twoT 2 ht) ?_
  rw [show nodeOf twoT 2 = 1 by decide +kernel]
  simp +decide only [go_sem]
  exact ⟨_, rfl, rfl, rfl⟩
/-- A chain of another type stays. -/
theorem App.other {P : Program} {e e2 t : TypeId} {T T' : Toks} {v u u' x : AV} {l : List AV} (hne : e ≠ e2) (hv : App P e T v l) (ht : tel P t = some e2) (h : appA P t u x T = some (u', T')) : App P e T' v l := by
  rcases hv with ⟨rfl, rfl⟩ | ⟨rfl, hu⟩ | ⟨τ, rfl, hτ⟩
  · exact .nil
  · exact .inr (.inl ⟨rfl, hu⟩)
  · refine .inr (.inr ⟨τ, rfl, ?_⟩)
    have hlt : τ < T.length := (List.getElem?_eq_some_iff.1 hτ).1
    have key : ∀ k, T[k]? = some (some e2) → (T.set k none ++ [some e2])[τ]? = some (some e) := by
      intro k hk
      have hkτ : k ≠ τ := fun h => by subst h; rw [hτ] at hk; exact hne (Option.some.inj (Option.some.inj hk))
      rw [List.getElem?_append_left (by simpa using hlt), List.getElem?_set_ne hkτ]; exact hτ
    have key2 : (T ++ [some e2])[τ]? = some (some e) := by rw [List.getElem?_append_left hlt]; exact hτ
    unfold appA at h
    split at h
    case h_2 => cases h
    rw [ht] at h
    simp only at h
    split at h
    case h_2 => cases h
    split at h
    case isFalse => cases h
    split at h
    · cases h
    · split at h
      · simp only [Option.some.injEq, Prod.mk.injEq] at h
        rw [← h.2]; exact key2
      · cases h
    · split at h
      · simp only [Option.some.injEq, Prod.mk.injEq] at h
        rw [← h.2]; exact key2
      · cases h
    · split at h
      · rename_i hk
        simp only [Option.some.injEq, Prod.mk.injEq] at h
        rw [← h.2]; exact key _ hk
      · cases h
def rowT (t : List SVtx) (a : Int) (n : Nat) : List Int := (List.range n).map fun b => farOf t a (b : Nat)
def tabT (t : List SVtx) (n m : Nat) : List (List Int) := (List.range m).map fun a => rowT t (a : Nat) n
theorem rowT_len (t : List SVtx) (a : Int) (n : Nat) : (rowT t a n).length = n := by simp [rowT]
theorem tabT_len (t : List SVtx) (n m : Nat) : (tabT t n m).length = m := by simp [tabT]
theorem rowT_snoc (t : List SVtx) (a : Int) (n : Nat) : rowT t a (n + 1) = rowT t a n ++ [farOf t a (n : Nat)] := by simp [rowT, List.range_succ]
theorem tabT_snoc (t : List SVtx) (n m : Nat) : tabT t n (m + 1) = tabT t n m ++ [rowT t (m : Nat) n] := by simp [tabT, List.range_succ]
theorem app_row {T : Toks} {v : AV} {l : List (List Int)} (hA : App P 27 T v (l.map L)) (x : List Int) (hl : l.length ≤ 100000) :
    ∃ v' T', appA P 36 v (.sl .full [L x]) T = some (v', T') ∧ App P 27 T' v' ((l ++ [x]).map L) := by
  obtain ⟨v', T', h1, h2⟩ := hA.go (t := 36) (m := [L x]) (o := .full) ty36.2.2.2.2 ty27.1 ty27.2.2.1 ty27.2.2.2.1 rfl (by simp; omega) (by simp [maxLen]; omega)
  exact ⟨v', T', h1, by simpa using h2⟩
section
variable {X : Prims} (hX : Low X)
include hX
theorem table_g (t : List SVtx) (ht : t.length ≤ 1000) : Gv P X 22 [encT t] (.sl .no ((tabT t (procN t) (procN t)).map L)) := by
  refine gv_of (hX _ (by decide)) fun22 rfl ?_
  simp +decide only [Try.f22, encT, go_sem]
  refine WO_call rfl rfl rfl rfl rfl (check_g hX t ht) ?_
  by_cases hv : Valid t
  case neg =>
    have h0 : procN t = 0 := by rw [procN, if_neg hv]
    rw [if_neg hv, h0]
    simp +decide only [go_sem, Int.reduceBNe]
    exact ⟨_, rfl, rfl, rfl⟩
  have hN := procN_of hv
  have h32 := procN_le t
  rw [if_pos hv]
  simp +decide only [go_sem, Int.reduceBNe]
  refine WO_call rfl rfl rfl rfl rfl (procs_g hX t ht) ?_
  simp +decide only [go_sem, ← hN]
  generalize hn0 : procN t = n at h32
  refine W_ind (fun k s => ∃ i v, i + k = n ∧ FrIs 36 [(0, .sl .no (t.map encV)), (3, I n), (4, v), (14, I n), (15, I i)] s.fr ∧ s.S = [] ∧ App P 27 s.T v ((tabT t n i).map L)) ?_ (n := n) ⟨0, .sl .nil [], by omega, ⟨rfl, rfl, rfl, rfl, rfl, rfl, trivial⟩, rfl, .nil⟩
  rintro k ⟨L, S, T⟩ ih ⟨i, v, hi, hF, rfl, hA⟩
  obtain ⟨j, rfl⟩ := hF.ex
  simp +decide only [fr, jl, Nat.reduceAdd, go_sem]
  refine Wif_of (fun h => ?_) (fun h => ?_)
  · have hlt : i < n := by simpa using h
    simp +decide only [go_sem]
    refine W_ind (fun k2 s => ∃ b u, b + k2 = n ∧ FrIs 36 [(0, .sl .no (t.map encV)), (3, I n), (4, v), (5, I i), (6, u), (14, I n), (15, I i), (18, I n), (19, I b)] s.fr ∧ s.S = [] ∧ App P 27 s.T v ((tabT t n i).map Ev.L) ∧ App P 3 s.T u ((rowT t i b).map I)) ?_ (n := n) ⟨0, .sl .nil [], by omega, ⟨rfl, rfl, rfl, rfl, rfl, rfl, rfl, rfl, rfl, rfl, trivial⟩, rfl, hA, .nil⟩
    clear hA hF
    rintro k2 ⟨L, S, T⟩ ih2 ⟨b, u, hb, hF, rfl, hA, hB⟩
    obtain ⟨j, rfl⟩ := hF.ex
    simp +decide only [fr, jl, Nat.reduceAdd, go_sem]
    refine Wif_of (fun h => ?_) (fun h => ?_)
    · have hltb : b < n := by simpa using h
      have hw := wrap_nat b (by omega)
      simp +decide only [go_sem]
      refine WO_call rfl rfl rfl rfl rfl (far_g hX t i b ht) ?_
      obtain ⟨u', T', happ, hB'⟩ := app_int hB (farOf t i b) (by rw [rowT_len]; omega)
      simp +decide only [go_sem, happ, hw]
      refine ih2 (k2 - 1) _ (by omega) ⟨b + 1, u', by omega, ⟨rfl, rfl, rfl, rfl, rfl, rfl, rfl, rfl, rfl, rfl, trivial⟩, rfl, hA.other (by decide) ty27.2.2.2.2 happ, by rw [rowT_snoc]; exact hB'⟩
    · have hbn : b = n := by simp at h; omega
      subst hbn
      have hw := wrap_nat i (by omega)
      obtain ⟨o, rfl⟩ := hB.is
      obtain ⟨v', T', happ, hA'⟩ := app_row hA (rowT t i b) (by rw [tabT_len]; omega)
      simp +decide only [go_sem, happ, hw]
      refine ih (k - 1) _ (by omega) ⟨i + 1, v', by omega, ⟨rfl, rfl, rfl, rfl, rfl, rfl, trivial⟩, rfl, by rw [tabT_snoc]; exact hA'⟩
  · have hi' : i = n := by simp at h; omega
    subst hi'
    obtain ⟨o, rfl⟩ := hA.is
    simp +decide only [go_sem]
    exact ⟨_, rfl, rfl, rfl⟩
end
theorem farV_sym (t : List SVtx) (v w : Nat) : farV t v w = farV t w v := by
  unfold farV
  by_cases h0 : v = w
  · rw [if_pos h0, if_pos h0.symm]
  · rw [if_neg h0, if_neg (Ne.symm h0)]
    by_cases h1 : anc t 1 v = anc t 1 w
    · rw [if_pos h1, if_pos h1.symm]
    · rw [if_neg h1, if_neg (Ne.symm h1)]
      by_cases h2 : anc t 2 v = anc t 2 w
      · rw [if_pos h2, if_pos h2.symm]
      · rw [if_neg h2, if_neg (Ne.symm h2)]
theorem far_sym (t : List SVtx) (a b : Int) : farOf t a b = farOf t b a := by
  by_cases ha : inP t a
  · by_cases hb : inP t b
    · rw [farOf_of ha hb, farOf_of hb ha, farV_sym]
    · rw [farOf_no (fun h => hb h.2), farOf_no (fun h => hb h.1)]
  · rw [farOf_no (fun h => ha h.1), farOf_no (fun h => ha h.2)]
theorem tab_at {t : List SVtx} {n m a : Nat} (h : a < m) : (tabT t n m)[a]? = some (rowT t (a : Nat) n) := by simp [tabT, h]
theorem row_at {t : List SVtx} {a : Int} {n b : Nat} (h : b < n) : (rowT t a n)[b]? = some (farOf t a (b : Nat)) := by simp [rowT, h]
theorem distTable_g (t : List SVtx) {wf : Prop} (_ : wf) : Gv P XN 9 [encT t] (B true) := by
  refine gv_of (lowN _ (by decide)) fun9 rfl ?_
  simp +decide only [Try.f9, encT, go_sem]
  refine WO_call rfl rfl rfl rfl rfl shown_g ?_
  by_cases h64 : 64 < (t.length : Int)
  · simp +decide only [go_sem, h64]
    exact ⟨_, rfl, rfl, rfl⟩
  have ht : t.length ≤ 1000 := by omega
  simp +decide only [go_sem, h64]
  refine WO_call rfl rfl rfl rfl rfl (table_g lowN t ht) ?_
  simp +decide only [go_sem]
  refine WO_call rfl rfl rfl rfl rfl (rprocs_g lowN t ht) ?_
  have h32 := procN_le t
  have hP : ∀ a : Nat, a < procN t → inP t (a : Int) := fun a h => ⟨by omega, by omega⟩
  generalize hn : procN t = n at h32 hP
  simp +decide only [go_sem, tabT_len, bne_self_eq_false]
  refine W_ind (fun k s => ∃ i : Nat, i + k = n ∧ FrIs 111 [(0, .sl .no (t.map encV)), (3, B true), (4, .sl .no ((tabT t n n).map L)), (5, I n), (6, I i)] s.fr ∧ s.S = [] ∧ s.T = []) ?_ (n := n) ⟨0, by omega, ⟨rfl, rfl, rfl, rfl, rfl, rfl, trivial⟩, rfl, rfl⟩
  rintro k ⟨L, S, T⟩ ih ⟨i, hi, hF, rfl, rfl⟩
  obtain ⟨j, rfl⟩ := hF.ex
  simp +decide only [fr, jl, Nat.reduceAdd, go_sem]
  refine Wif_of (fun h => ?_) (fun h => ?_)
  · have hlt : i < n := by simpa using h
    have hx := tab_at (t := t) (n := n) hlt
    have hxx := row_at (t := t) (a := (i : Nat)) hlt
    have hself : farOf t (i : Nat) (i : Nat) = 0 := far_self (hP i hlt)
    have hw := wrap_nat i (by omega)
    simp +decide only [go_sem, hx, hxx, hself, rowT_len, bne_self_eq_false]
    refine W_ind (fun k2 s => ∃ b : Nat, b + k2 = n ∧ FrIs 111 [(0, .sl .no (t.map encV)), (3, B true), (4, .sl .no ((tabT t n n).map Ev.L)), (5, I n), (6, I i), (7, I b)] s.fr ∧ s.S = [] ∧ s.T = []) ?_ (n := n) ⟨0, by omega, ⟨rfl, rfl, rfl, rfl, rfl, rfl, rfl, trivial⟩, rfl, rfl⟩
    clear hF
    rintro k2 ⟨L, S, T⟩ ih2 ⟨b, hb, hF, rfl, rfl⟩
    obtain ⟨j, rfl⟩ := hF.ex
    simp +decide only [fr, jl, Nat.reduceAdd, go_sem]
    refine Wif_of (fun h => ?_) (fun h => ?_)
    · have hltb : b < n := by simpa using h
      have hwb := wrap_nat b (by omega)
      have hy := tab_at (t := t) (n := n) hltb
      have hxy := row_at (t := t) (a := (i : Nat)) hltb
      have hyx := row_at (t := t) (a := (b : Nat)) hlt
      rw [far_sym t (b : Nat) (i : Nat)] at hyx
      simp +decide only [go_sem]
      refine W_draw hmx (by kernel_rfl) ?_
      simp +decide only [go_sem, hx, hxy]
      refine WO_call rfl rfl rfl rfl rfl (far_g lowN t i b ht) ?_
      have h3 : ¬ 3 < farOf t (i : Nat) (b : Nat) := by
        by_cases hib : i = b
        · subst hib; omega
        · have := (far_pos (hP i hlt) (hP b hltb) (by omega)).2; omega
      have he : ((farOf t (i : Nat) (b : Nat) == 0) : Bool) = ((i : Int) == b) := by
        by_cases hib : i = b
        · subst hib; rw [hself]; simp
        · have := (far_pos (hP i hlt) (hP b hltb) (by omega)).1
          rw [beq_eq_false_iff_ne.mpr (by omega), beq_eq_false_iff_ne.mpr (by omega)]
      have hq : (((i : Int) == b) == ((i : Int) == b)) = true := by simp
      simp +decide only [go_sem, hx, hy, hxy, hyx, bne_self_eq_false, rowT_len, he, h3, hq, hwb]
      refine ih2 (k2 - 1) _ (by omega) ⟨b + 1, by omega, ⟨rfl, rfl, rfl, rfl, rfl, rfl, rfl, trivial⟩, rfl, rfl⟩
    · simp +decide only [go_sem, hw]
      exact ih (k - 1) _ (by omega) ⟨i + 1, by omega, ⟨rfl, rfl, rfl, rfl, rfl, rfl, trivial⟩, rfl, rfl⟩
  · simp +decide only [go_sem]
    exact ⟨_, rfl, rfl, rfl⟩
end Go.Proofs.Ytjfaafnngloblaa.Ev
