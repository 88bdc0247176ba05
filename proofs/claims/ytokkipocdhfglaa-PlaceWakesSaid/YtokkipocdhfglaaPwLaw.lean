/- Whom a placement wakes. No condition. -/
import Derived.Test.YtokkipocdhfglaaPsLib6
namespace Go.Proofs.Ytokkipocdhfglaa.Ev
open Go Go.Proofs
open Go.RowKit (wrap64)
set_option linter.unusedVariables false
set_option linter.unusedSimpArgs false
set_option maxRecDepth 100000
set_option maxHeartbeats 4000000
theorem and_eq' (a b : Int) : IntKind.u64.wrap ((BitVec.ofInt 64 a &&& BitVec.ofInt 64 b).toNat : Int) = Go.bits .and .u64 a b := rfl
theorem scan_least {w : Int} {g : Int → Int} : ∀ {l : List Int}, l.Pairwise (fun a b => g a ≤ g b) → ∀ q ∈ l, tb w q = true → tb w (scanB w l) = true ∧ scanB w l ∈ l ∧ g (scanB w l) ≤ g q
  | [], _, q, h, _ => by cases h
  | a :: r, hp, q, h, hq => by
    rw [scanB]
    rw [List.pairwise_cons] at hp
    by_cases ha : tb w a = true
    · rw [if_pos ha]
      refine ⟨ha, by simp, ?_⟩
      rcases List.mem_cons.mp h with rfl | h
      · omega
      · exact hp.1 q h
    · rw [if_neg ha]
      rcases List.mem_cons.mp h with rfl | h
      · exact absurd hq ha
      · obtain ⟨h1, h2, h3⟩ := scan_least hp.2 q h hq
        exact ⟨h1, List.mem_cons_of_mem _ h2, h3⟩
theorem scan_tb {w : Int} : ∀ {l : List Int}, scanB w l = -1 ∨ tb w (scanB w l) = true
  | [] => .inl rfl
  | a :: r => by
    rw [scanB]
    split
    · exact .inr ‹_›
    · exact scan_tb
theorem tb0 (n : Int) : tb 0 n = false := by unfold tb; split <;> simp
theorem wakes_plain {t : List SVtx} {w p : Int} (hu : U64 w) (hin : inP t p) (hw : ∀ m, tb w m = true → inP t m) :
    let x := scanB w (p :: nearOf t p)
    (x = -1 → w = 0) ∧ (x ≠ -1 → inP t x ∧ tb w x = true ∧ w ≠ 0 ∧ ∀ q, tb w q = true → farOf t p x ≤ farOf t p q) := by
  intro x
  have hmem : ∀ q, inP t q → q ∈ p :: nearOf t p := fun q hq => by
    by_cases h : q = p
    · subst h; simp
    · exact List.mem_cons_of_mem _ ((nearOf_mem hin).mpr ⟨hq, h⟩)
  have hof : ∀ q, q ∈ p :: nearOf t p → inP t q := fun q hq => by
    rcases List.mem_cons.mp hq with rfl | hq
    · exact hin
    · exact ((nearOf_mem hin).mp hq).1
  have hpw : (p :: nearOf t p).Pairwise (fun a b => farOf t p a ≤ farOf t p b) := by
    refine List.Pairwise.cons (fun q hq => ?_) ((nearOf_sorted hin).imp fun h => ?_)
    · have h1 := (nearOf_mem hin).mp hq
      rw [far_self hin]
      have := far_pos hin h1.1 (Ne.symm h1.2)
      omega
    · rcases h with h | h
      · exact Int.le_of_lt h
      · exact Int.le_of_eq h.1
  constructor
  · intro hx
    refine tb_ext hu ⟨by decide, by decide⟩ fun m => ?_
    rw [tb0]
    cases hm : tb w m with
    | false => rfl
    | true =>
      have h1 := (scan_least hpw m (hmem m (hw m hm)) hm).2.1
      have h2 := hof _ h1
      have h3 : scanB w (p :: nearOf t p) = -1 := hx
      rw [h3] at h2
      have := h2.1
      omega
  · intro hx
    have ht : tb w x = true := (scan_tb (w := w) (l := p :: nearOf t p)).resolve_left hx
    exact ⟨hw x ht, ht, (fun e : w = 0 => by subst e; rw [tb0] at ht; cases ht), fun q hq => (scan_least hpw q (hmem q (hw q hq)) hq).2.2⟩
theorem placeWakes_g (r : SRN) (hs : U64 r.s) (i : Int) (hi : (Lit.int .u64 i).wf = true) (p : Int) {wp : Prop} (_ : wp) : Gv P XN 3 [encN r, U i, I p] (B true) := by
  obtain ⟨t, a, R, H, s⟩ := r
  have hs : U64 s := hs
  have hi : U64 i := u64_of (by simpa [Lit.wf] using hi)
  refine gv_of (lowN _ (by decide)) fun3 rfl ?_
  have hfew := few_g lowN t a R H s
  simp +decide only [Try.f3, encN, encRR, go_sem, Nat.reduceAdd]
  refine WO_call rfl rfl rfl rfl rfl shown18_g ?_
  simp +decide only [go_sem]
  refine WO_call rfl rfl rfl rfl rfl hfew ?_
  cases hF : fewB t R H
  · simp +decide only [go_sem]
    refine WO_not rfl ?_
    simp +decide only [go_sem]
    exact ⟨_, rfl, rfl, rfl⟩
  obtain ⟨ht, f1, f2, f3, f4⟩ := fewB_of hF
  have f : Fw R H := ⟨by omega, by omega, fun x hx => by have := f3 x hx; omega, fun x hx => by have := f4 x hx; omega⟩
  simp +decide only [go_sem]
  refine WO_call rfl rfl rfl rfl rfl (rmay_g lowN t a R H s ht hs f) ?_
  cases hM : mayB t a R H s
  · simp +decide only [go_sem]
    exact ⟨_, rfl, rfl, rfl⟩
  by_cases a0 : p < 0
  · simp +decide only [go_sem, a0]
    exact ⟨_, rfl, rfl, rfl⟩
  by_cases a1 : (R.length : Int) ≤ p
  · simp +decide only [go_sem, a0, a1]
    exact ⟨_, rfl, rfl, rfl⟩
  have hv : Valid t ∧ R.length = (vsOf t 3).length ∧ ∀ m, tb s m = true → m < ((vsOf t 3).length : Int) := by
    unfold mayB wholeB at hM
    simp only [Bool.and_eq_true, decide_eq_true_eq, beq_iff_eq, Bool.not_eq_true', List.any_eq_false] at hM
    refine ⟨hM.1.1.1.1.1.1.1, by have := hM.1.1.1.1.2; omega, fun m hm => ?_⟩
    have := hM.1.2 m (allB_mem.mpr hm)
    omega
  have hin : inP t p := ⟨by omega, by rw [procN_of hv.1]; omega⟩
  have hand := and_tb hi hs
  have hpl := wakes_plain hand.1 hin (fun m hm => by
    rw [hand.2, Bool.and_eq_true] at hm
    exact ⟨(tb_range hm.2).1, by rw [procN_of hv.1]; exact hv.2.2 m hm.2⟩)
  simp +decide only [go_sem, a0, a1]
  refine WO_call rfl rfl rfl rfl rfl (made_g lowN t a R H s f) ?_
  simp +decide only [go_sem, encRR]
  refine WO_call rfl rfl rfl rfl rfl (wake_g t a R H s i p ht hs hi f hM (by omega) (by omega)) ?_
  simp +decide only [go_sem, and_eq]
  have hran := hand.2
  have hwu := hand.1
  generalize hxe : scanB (Go.bits .and .u64 i s) (p :: nearOf t p) = x at hpl ⊢
  generalize hwe : Go.bits .and .u64 i s = w at hpl hwu ⊢
  have hwe2 : IntKind.u64.wrap ((BitVec.ofInt IntKind.u64.bits i &&& BitVec.ofInt IntKind.u64.bits s).toNat : Int) = w := hwe
  simp +decide only [go_sem] at hwe2
  simp only [hwe2]
  refine Wif_of (fun h => ?_) (fun h => ?_)
  · have hw0 := hpl.1 (eq_of_beq h)
    subst hw0
    simp +decide only [go_sem]
    exact ⟨_, rfl, rfl, rfl⟩
  have hx1 : x ≠ -1 := fun e => by rw [e] at h; cases h
  obtain ⟨hx, htx, hw0, hle⟩ := hpl.2 hx1
  have n0 : ¬ x < 0 := by have := hx.1; omega
  have n1 : ¬ (R.length : Int) ≤ x := by have := hx.2; rw [procN_of hv.1] at this; omega
  have hwb : (w != 0) = true := bne_iff_ne.mpr hw0
  simp +decide only [go_sem, n0, n1, hwb, Nat.reduceAdd]
  refine W_ind (fun k st => ∃ q : Nat, q + k = R.length ∧ FrIs 101 [(1, U i), (2, I p), (3, .ptr 0 0), (7, B true), (8, .ptr 1 0), (9, I x), (10, B true), (11, I q)] st.fr ∧ st.S = [.var false [encT t, I a, .sl .no (R.map encG), .sl .no (H.map L), U s], .var false [encT t, I a, .sl .no (R.map encG), .sl .no (H.map L), U s]] ∧ st.T = []) ?_ (n := R.length) ⟨0, by omega, ⟨rfl, rfl, rfl, rfl, rfl, rfl, rfl, by rw [← hwb]; rfl, rfl, trivial⟩, rfl, rfl⟩
  rintro k ⟨L', S, T⟩ ih ⟨q, hq, hFr, rfl, rfl⟩
  obtain ⟨j, rfl⟩ := hFr.ex
  have hw := wrap_nat q (by have := f.r; omega)
  simp +decide only [fr, jl, Nat.reduceAdd, go_sem]
  refine Wif_of (fun h => ?_) (fun h => ?_)
  · have hlt : q < R.length := by simpa using h
    simp +decide only [go_sem, hwe2]
    refine WO_call rfl rfl rfl rfl rfl (has_g lowN hwu q) ?_
    simp +decide only [go_sem]
    refine W_draw hmx (by kernel_rfl) ?_
    cases e1 : ((q : Int) == x)
    · cases e2 : tb w (q : Int)
      · simp +decide only [go_sem, e1, e2]
        refine WO_not rfl ?_
        simp +decide only [go_sem]
        refine WO_not rfl ?_
        simp +decide only [go_sem, hw]
        exact ih (k - 1) _ (by omega) ⟨q + 1, by omega, ⟨rfl, rfl, rfl, rfl, rfl, rfl, rfl, rfl, rfl, trivial⟩, rfl, rfl⟩
      · have hfar := hle q e2
        have hnl : decide (farOf t p q < farOf t p x) = false := decide_eq_false (by omega)
        simp +decide only [go_sem, e1, e2]
        refine WO_call rfl rfl rfl rfl rfl (far_g lowN t p q (by omega)) ?_
        simp +decide only [go_sem]
        refine WO_call rfl rfl rfl rfl rfl (far_g lowN t p x (by omega)) ?_
        simp +decide only [go_sem, hnl, hw]
        exact ih (k - 1) _ (by omega) ⟨q + 1, by omega, ⟨rfl, rfl, rfl, rfl, rfl, rfl, rfl, rfl, rfl, trivial⟩, rfl, rfl⟩
    · have hqx := eq_of_beq e1
      rw [← hqx] at htx
      have hnl : decide (farOf t p x < farOf t p x) = false := decide_eq_false (by omega)
      rw [← hqx] at hnl
      simp +decide only [go_sem, e1, htx]
      refine WO_call rfl rfl rfl rfl rfl (far_g lowN t p q (by omega)) ?_
      simp +decide only [go_sem, ← hqx]
      refine WO_call rfl rfl rfl rfl rfl (far_g lowN t p q (by omega)) ?_
      simp +decide only [go_sem, hnl, hw]
      exact ih (k - 1) _ (by omega) ⟨q + 1, by omega, ⟨rfl, rfl, rfl, rfl, rfl, rfl, by rw [hqx]; rfl, rfl, rfl, trivial⟩, rfl, rfl⟩
  · simp +decide only [go_sem]
    exact ⟨_, rfl, rfl, rfl⟩
end Go.Proofs.Ytokkipocdhfglaa.Ev
