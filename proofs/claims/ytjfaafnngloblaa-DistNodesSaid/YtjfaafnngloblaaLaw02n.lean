/- The law of the nodes on values. No condition. -/
import Derived.Test.YtjfaafnngloblaaLaw02
namespace Go.Proofs.Ytjfaafnngloblaa.Ev
open Go Go.Proofs
set_option linter.unusedVariables false
set_option linter.unusedSimpArgs false
open Go.RowKit (wrap64)
set_option maxRecDepth 100000
/-- Each node has a processor. -/
theorem kid_of {t : List SVtx} (hv : Valid t) {x : Nat} (hx : x < t.length) (hl : lev t x < 3) : ∃ y : Nat, y < t.length ∧ par t y = (x : Int) ∧ lev t y = lev t x + 1 := by
  have h1 := hv.2.2.2 x hx
  simp only [okAt, Bool.and_eq_true, decide_eq_true_eq, beq_iff_eq] at h1
  have h2 : (lev t x == 3) = false := by rw [beq_eq_false_iff_ne]; omega
  have h3 : (kidsOf t (x : Int)).length ≠ 0 := by
    have h4 := h1.1.2
    rw [h2] at h4
    intro h5
    rw [h5] at h4
    cases h4
  obtain ⟨z, hz⟩ := List.exists_mem_of_length_pos (show 0 < (kidsOf t (x : Int)).length by omega)
  obtain ⟨y, rfl, _, hy, hp⟩ := pick_mem.mp hz
  have hp : par t y = (x : Int) := by simpa using hp
  have hy : y < t.length := by omega
  refine ⟨y, hy, hp, ?_⟩
  have h0 : y ≠ 0 := fun h => by
    subst h
    have := hv.root.1
    omega
  have := (hv.at_ hy).2.2 h0
  rw [hp] at this
  simpa using this.2.2
theorem proc_of_node {t : List SVtx} (hv : Valid t) {k : Nat} (hk : k < (vsOf t 1).length) : ∃ p : Nat, p < procN t ∧ nodeOf t (p : Int) = (k : Int) := by
  obtain ⟨x, hx, _, hxl, hxp⟩ := get_pick (P := fun j => decide (lev t j = 1)) (m := t.length) (i := 0) (a := (k : Int)) (by omega) (by have : (vsOf t 1).length = (pick (fun j => decide (lev t j = 1)) t.length 0).length := rfl; omega)
  have hx : rd (vsOf t 1) (k : Int) = (x : Int) := hx
  have hxl : x < t.length := by omega
  have hx1 : lev t x = 1 := by simpa using hxp
  obtain ⟨y, hy, hyp, hyl⟩ := kid_of hv hxl (by omega)
  obtain ⟨z, hz, hzp, hzl⟩ := kid_of hv hy (by omega)
  have hmem : ((z : Nat) : Int) ∈ vsOf t 3 := pick_mem.mpr ⟨z, rfl, by omega, by omega, by simp; omega⟩
  obtain ⟨p, hp, he⟩ := List.getElem_of_mem hmem
  have hin : inP t (p : Int) := ⟨by omega, by rw [procN_of hv]; omega⟩
  refine ⟨p, by rw [procN_of hv]; exact hp, ?_⟩
  have hvz : vx t (p : Int) = z := by
    have : rd (vsOf t 3) (p : Int) = (z : Int) := by rw [← he]; simp [rd, List.getD_eq_getElem?_getD, hp]
    unfold vx; rw [this]; omega
  have ha : anc t 2 z = x := by
    show anc t 0 (par t (par t z).toNat).toNat = x
    rw [hzp]
    have : ((y : Int)).toNat = y := by omega
    rw [this, hyp]
    show ((x : Int)).toNat = x
    omega
  rw [nodeOf, if_pos hin, hvz, ha]
  have hm : ((x : Nat) : Int) ∈ vsOf t 1 := pick_mem.mpr ⟨x, rfl, by omega, by omega, by simp [hx1]⟩
  obtain ⟨h1, h2, h3⟩ := idxOf_mem hm
  have hs : (vsOf t 1).Pairwise (· < ·) := pick_sorted
  have e3 : (vsOf t 1).getD (idxOf (vsOf t 1) (x : Int)).toNat 0 = (x : Int) := h3
  have e4 : (vsOf t 1).getD k 0 = (x : Int) := by have := hx; unfold rd at this; simpa using this
  rcases Nat.lt_trichotomy (idxOf (vsOf t 1) (x : Int)).toNat k with h | h | h
  · have := getD_lt_of_sorted hs h hk
    omega
  · omega
  · have := getD_lt_of_sorted hs h (by omega)
    omega
section
variable {X : Prims} (hX : Low X)
include hX
theorem rcheck_big {t : List SVtx} (h1 : 64 < (t.length : Int)) : Gv P X 33 [encT t] (I 2) := by
  refine gv_of (hX _ (by decide)) fun33 rfl ?_
  have h0' : ((t.length : Int) == 0) = false := by rw [beq_eq_false_iff_ne]; omega
  simp +decide only [Try.f33, encT, go_sem, h0', h1]
  refine WO_not rfl (.inl rfl) ?_
  simp +decide only [go_sem]
  exact ⟨_, rfl, rfl, rfl⟩
theorem rprocs_big {t : List SVtx} (h1 : 64 < (t.length : Int)) : Gv P X 18 [encT t] (I 0) := by
  refine gv_of (hX _ (by decide)) fun18 rfl ?_
  simp +decide only [Try.f18, encT, go_sem]
  refine WO_call rfl rfl rfl rfl rfl (rcheck_big hX h1) ?_
  simp +decide only [go_sem, Int.reduceBNe]
  exact ⟨_, rfl, rfl, rfl⟩
end
theorem drop_take1 {l : List AV} {k : Nat} {x : AV} (h : l[k]? = some x) : (l.drop k).take 1 = [x] := by
  obtain ⟨hk, rfl⟩ := List.getElem?_eq_some_iff.1 h
  rw [List.drop_eq_getElem_cons hk]; rfl
theorem splice1 {l : List AV} {k : Nat} {x : AV} (h : k < l.length) : l.take k ++ (x :: l.drop (k + 1)) = l.set k x := (List.set_eq_take_append_cons_drop.trans (if_pos h)).symm
theorem far1_node {t : List SVtx} {a b : Int} (ha : inP t a) (hb : inP t b) (h : farOf t a b = 1) : nodeOf t b = nodeOf t a := by
  obtain ⟨h1, h2, -⟩ := vx_at ha
  obtain ⟨h3, h4, -⟩ := vx_at hb
  rw [farOf_of ha hb] at h
  have := (farV_iff ha.valid h1 h2 h3 h4 1).mp (by omega)
  rcases this with h5 | h5
  · omega
  · exact ((nodeOf_eq ha hb).mpr (anc_eq_up h5 2 (by omega))).symm
theorem node_in {t : List SVtx} {a : Int} (ha : inP t a) : 0 ≤ nodeOf t a ∧ nodeOf t a < (vsOf t 1).length := by
  have := idxOf_mem (anc2_node ha)
  rw [nodeOf, if_pos ha]
  exact ⟨this.1, this.2.1⟩
theorem rep0 (k : Nat) : (List.replicate 64 (0 : Int)).getD k 0 = 0 := by
  rw [List.getD_eq_getElem?_getD, List.getElem?_replicate]; split <;> rfl
theorem distNodes_g (t : List SVtx) {wf : Prop} (_ : wf) : Gv P XN 6 [encT t] (B true) := by
  refine gv_of (lowN _ (by decide)) fun6 rfl ?_
  simp +decide only [Try.f6, encT, go_sem]
  refine WO_call rfl rfl rfl rfl rfl shown_g ?_
  simp +decide only [go_sem]
  by_cases h64 : 64 < (t.length : Int)
  · refine WO_call rfl rfl rfl rfl rfl (rprocs_big lowN h64) ?_
    simp +decide only [go_sem, h64]
    exact ⟨_, rfl, rfl, rfl⟩
  have ht : t.length ≤ 1000 := by omega
  refine WO_call rfl rfl rfl rfl rfl (rprocs_g lowN t ht) ?_
  by_cases h0 : (procN t : Int) = 0
  · have h0' : ((procN t : Int) == 0) = true := by simpa using h0
    simp +decide only [go_sem, h64, h0']
    exact ⟨_, rfl, rfl, rfl⟩
  have h0' : ((procN t : Int) == 0) = false := by simpa using h0
  have h32 := procN_le t
  have hP : ∀ a : Nat, a < procN t → inP t (a : Int) := fun a h => ⟨by omega, by omega⟩
  have hv : Valid t := (hP 0 (by omega)).valid
  have hnl := vsOf_len t 1
  simp +decide only [go_sem, h64, h0']
  refine WO_call rfl rfl rfl rfl rfl (of_g lowN t 1 ht) ?_
  have hV : pick (fun j => decide (lev t j = 1)) t.length 0 = vsOf t 1 := rfl
  rw [hV]
  have hex := fun k (hk : k < (vsOf t 1).length) => proc_of_node hv hk
  generalize hn : procN t = n at h32 hP hex
  have hm : (vsOf t 1).length ≤ 64 := by omega
  have hin : ∀ a : Nat, a < n → 0 ≤ nodeOf t a ∧ nodeOf t a < (vsOf t 1).length := fun a h => node_in (hP a h)
  generalize hm0 : (vsOf t 1).length = m at hm hin hex
  simp +decide only [go_sem, hm0]
  refine W_ind (fun k s => ∃ (i : Nat) (cnt : List Int), i + k = n ∧ FrIs 72 [(0, .sl .no (t.map encV)), (3, B true), (4, I n), (5, I m), (6, .ptr 0 0), (7, I i)] s.fr ∧ s.S = [⟨false, cnt.map I⟩] ∧ s.T = [] ∧ cnt.length = 64 ∧ (∀ k : Nat, 0 ≤ cnt.getD k 0 ∧ cnt.getD k 0 ≤ i) ∧ ∀ q : Nat, q < i → 1 ≤ cnt.getD (nodeOf t q).toNat 0) ?_ (n := n)
    ⟨0, List.replicate 64 0, by omega, ⟨rfl, rfl, rfl, rfl, rfl, rfl, rfl, trivial⟩, rfl, rfl, rfl, fun k => by rw [rep0]; exact ⟨Int.le_refl _, Int.natCast_nonneg _⟩, fun q h => by omega⟩
  rintro k ⟨L, S, T⟩ ih ⟨i, cnt, hi, hF, rfl, rfl, hc1, hc2, hc3⟩
  obtain ⟨j, rfl⟩ := hF.ex
  simp +decide only [fr, jl, Nat.reduceAdd, go_sem]
  refine Wif_of (fun h => ?_) (fun h => ?_)
  · have hlt : i < n := by simpa using h
    have hw := wrap_nat i (by omega)
    obtain ⟨hk1, hk2⟩ := hin i hlt
    simp +decide only [go_sem]
    refine WO_call rfl rfl rfl rfl rfl (node_g lowN t i ht) ?_
    obtain ⟨kk, hkk⟩ : ∃ kk : Nat, nodeOf t i = (kk : Int) := ⟨(nodeOf t i).toNat, by omega⟩
    rw [hkk] at hk1 hk2 ⊢
    have g1 : ¬ (kk : Int) < 0 := by omega
    have g2 : ¬ (m : Int) ≤ (kk : Int) := by omega
    have g3 : (kk : Int) < ((64 : Nat) : Int) := by omega
    have hk64 : kk < cnt.length := by omega
    have g4 : kk + 1 ≤ cnt.length := hk64
    have hld : ((cnt.map I).drop kk).take 1 = [I (cnt.getD kk 0)] := drop_take1 (by simp [List.getD_eq_getElem?_getD, hk64])
    obtain ⟨hb1, hb2⟩ := hc2 kk
    have hz : IntKind.i64.wrap (cnt.getD kk 0 + 1) = cnt.getD kk 0 + 1 := wrap64_of (by omega)
    have hsp : (cnt.map I).take kk ++ (I (cnt.getD kk 0 + 1) :: (cnt.map I).drop (kk + 1)) = (cnt.set kk (cnt.getD kk 0 + 1)).map I := by
      rw [splice1 (by simpa using hk64), List.map_set]
    have hd : ∀ k : Nat, (cnt.set kk (cnt.getD kk 0 + 1)).getD k 0 = if k = kk then cnt.getD kk 0 + 1 else cnt.getD k 0 := by
      intro k
      by_cases h : k = kk
      · subst h; simp [List.getD_eq_getElem?_getD, hk64]
      · rw [if_neg h]; simp [List.getD_eq_getElem?_getD, List.getElem?_set_ne (Ne.symm h)]
    simp +decide only [go_sem, g1, g2, g3, g4, Nat.mul_one, Nat.zero_add, hld, hz, hsp]
    generalize hc' : cnt.set kk (cnt.getD kk 0 + 1) = cnt' at hd
    have hl' : cnt'.length = 64 := by rw [← hc']; simpa using hc1
    refine W_ind (fun k2 s => ∃ q : Nat, q + k2 = n ∧ FrIs 72 [(0, .sl .no (t.map encV)), (3, B true), (4, I n), (5, I m), (6, .ptr 0 0), (7, I i), (8, I kk), (9, I q)] s.fr ∧ s.S = [⟨false, cnt'.map I⟩] ∧ s.T = []) ?_ (n := n) ⟨0, by omega, ⟨rfl, rfl, rfl, rfl, rfl, rfl, rfl, rfl, rfl, trivial⟩, rfl, rfl⟩
    clear hF
    rintro k2 ⟨L, S, T⟩ ih2 ⟨q, hq, hF, rfl, rfl⟩
    obtain ⟨j, rfl⟩ := hF.ex
    simp +decide only [fr, jl, Nat.reduceAdd, go_sem]
    refine Wif_of (fun h => ?_) (fun h => ?_)
    · have hltq : q < n := by simpa using h
      have hwq := wrap_nat q (by omega)
      simp +decide only [go_sem]
      refine WO_call rfl rfl rfl rfl rfl (far_g lowN t i q ht) ?_
      by_cases hf : farOf t (i : Nat) (q : Nat) = 1
      · have hf' : (farOf t (i : Nat) (q : Nat) == 1) = true := by simpa using hf
        simp +decide only [go_sem, hf']
        refine WO_call rfl rfl rfl rfl rfl (node_g lowN t q ht) ?_
        rw [far1_node (hP i hlt) (hP q hltq) hf, hkk]
        simp +decide only [go_sem, bne_self_eq_false, hwq]
        exact ih2 (k2 - 1) _ (by omega) ⟨q + 1, by omega, ⟨rfl, rfl, rfl, rfl, rfl, rfl, rfl, rfl, rfl, trivial⟩, rfl, rfl⟩
      · have hf' : (farOf t (i : Nat) (q : Nat) == 1) = false := by simpa using hf
        simp +decide only [go_sem, hf']
        refine WO_not rfl (.inl rfl) ?_
        simp +decide only [go_sem, hwq]
        exact ih2 (k2 - 1) _ (by omega) ⟨q + 1, by omega, ⟨rfl, rfl, rfl, rfl, rfl, rfl, rfl, rfl, rfl, trivial⟩, rfl, rfl⟩
    · simp +decide only [go_sem, hw]
      refine ih (k - 1) _ (by omega) ⟨i + 1, cnt', by omega, ⟨rfl, rfl, rfl, rfl, rfl, rfl, rfl, trivial⟩, rfl, rfl, hl', fun k => ?_, fun q hq => ?_⟩
      · rw [hd]
        have := hc2 k
        split <;> omega
      · rw [hd]
        split
        · omega
        · rename_i hne
          have hqi : q ≠ i := fun h => hne (by rw [h, hkk]; exact Int.toNat_natCast _)
          exact hc3 q (by omega)
  · have hin' : i = n := by simp at h; omega
    subst hin'
    simp +decide only [go_sem]
    clear ih hF
    refine W_ind (fun k s => ∃ x : Nat, x + k = m ∧ FrIs 72 [(3, B true), (5, I m), (6, .ptr 0 0), (10, I x)] s.fr ∧ s.S = [⟨false, cnt.map I⟩] ∧ s.T = []) ?_ (n := m) ⟨0, by omega, ⟨rfl, rfl, rfl, rfl, rfl, trivial⟩, rfl, rfl⟩
    rintro k ⟨L, S, T⟩ ih ⟨x, hx, hF, rfl, rfl⟩
    obtain ⟨j, rfl⟩ := hF.ex
    simp +decide only [fr, jl, Nat.reduceAdd, go_sem]
    refine Wif_of (fun h => ?_) (fun h => ?_)
    · have hlt : x < m := by simpa using h
      have hw := wrap_nat x (by omega)
      have g3 : (x : Int) < ((64 : Nat) : Int) := by omega
      have hk64 : x < cnt.length := by omega
      have g4 : x + 1 ≤ cnt.length := hk64
      have hld : ((cnt.map I).drop x).take 1 = [I (cnt.getD x 0)] := drop_take1 (by simp [List.getD_eq_getElem?_getD, hk64])
      obtain ⟨p, hp, he⟩ := hex x hlt
      have h1 := hc3 p hp
      rw [he] at h1
      have h1' : 1 ≤ cnt.getD x 0 := by simpa using h1
      have hne : (cnt.getD x 0 == 0) = false := by rw [beq_eq_false_iff_ne]; omega
      simp +decide only [go_sem, g3, g4, Nat.mul_one, Nat.zero_add, hld, hne, hw]
      exact ih (k - 1) _ (by omega) ⟨x + 1, by omega, ⟨rfl, rfl, rfl, rfl, rfl, trivial⟩, rfl, rfl⟩
    · simp +decide only [go_sem]
      exact ⟨_, rfl, rfl, rfl⟩
end Go.Proofs.Ytjfaafnngloblaa.Ev
