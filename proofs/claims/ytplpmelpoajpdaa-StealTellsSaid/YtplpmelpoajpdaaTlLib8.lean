/- The first law of stealing. No condition. -/
import Derived.Test.YtplpmelpoajpdaaTlLib7
import Derived.Test.YtplpmelpoajpdaaTlLib6
import Derived.Test.YtplpmelpoajpdaaTlLib4
namespace Go.Proofs.Ytplpmelpoajpdaa.Ev
open Go Go.Proofs
open Go.RowKit (wrap64)
set_option linter.unusedVariables false
set_option linter.unusedSimpArgs false
set_option maxRecDepth 100000
set_option maxHeartbeats 4000000
theorem vict_out {t : List SVtx} {a : Int} {R : List SRr} {H : List (List Int)} {s p far : Int} (hp : ¬ inP t p) : victOf t a R H s p far = [] := by
  have hn : nearOf t p = [] := by unfold nearOf; rw [if_neg hp]
  unfold victOf
  rw [hn]; split <;> rfl
theorem vict_pre' {t : List SVtx} {a : Int} {R : List SRr} {H : List (List Int)} {s p far far' : Int} (hm : May t a R H s) (h : far ≤ far') : victOf t a R H s p far <+: victOf t a R H s p far' := by
  by_cases hp : inP t p
  · exact vict_pre hm hp h
  · rw [vict_out hp]; exact List.nil_prefix
theorem vict_len {t : List SVtx} {a : Int} {R : List SRr} {H : List (List Int)} {s p far : Int} : (victOf t a R H s p far).length ≤ 96 := by
  unfold victOf
  split
  · exact Nat.le_trans (List.length_filter_le _ _) nearOf_len
  · simp
theorem stealVictims_g (r : SRN) (hs : U64 r.s) (p : Int) {wp : Prop} (_ : wp) : Gv P XN 9 [encN r, I p] (B true) := by
  obtain ⟨t, a, R, H, s⟩ := r
  have hs : U64 s := hs
  refine gv_of (lowN _ (by decide)) fun9 rfl ?_
  have hfew := few_g lowN t a R H s
  simp +decide only [Try.f9, encN, encRR, go_sem, Nat.reduceAdd]
  refine WO_call rfl rfl rfl rfl rfl shown17_g ?_
  simp +decide only [go_sem, Nat.reduceAdd]
  refine WO_call rfl rfl rfl rfl rfl hfew ?_
  cases hF : fewB t R H
  · simp +decide only [go_sem, Nat.reduceAdd]
    refine WO_not rfl ?_
    simp +decide only [go_sem, Nat.reduceAdd]
    exact ⟨_, rfl, rfl, rfl⟩
  obtain ⟨ht, f1, f2, f3, f4⟩ := fewB_of hF
  have f : Fw R H := ⟨by omega, by omega, fun x hx => by have := f3 x hx; omega, fun x hx => by have := f4 x hx; omega⟩
  simp +decide only [go_sem, Nat.reduceAdd]
  refine WO_call rfl rfl rfl rfl rfl (rmay_g lowN t a R H s ht hs f) ?_
  cases hM : mayB t a R H s
  · simp +decide only [go_sem, Nat.reduceAdd]
    exact ⟨_, rfl, rfl, rfl⟩
  have hm := may_iff.mp hM
  have hr := f.r
  simp +decide only [go_sem, Nat.reduceAdd]
  refine WO_call rfl rfl rfl rfl rfl (made17_g lowN t a R H s f) ?_
  simp +decide only [go_sem, Nat.reduceAdd, encRR, wrc, splice, encT]
  refine W_ind (fun k st => ∃ (d : Nat) (o : Tok) (l0 : List Int), d + k = 5 ∧ FrIs 108 [(1, I p), (2, .ptr 0 0), (5, B true), (6, .ptr 1 0), (7, .sl o (l0.map I)), (8, I d)] st.fr ∧ st.S = [.var false [encT t, I a, .sl .no (R.map encG), .sl .no (H.map L), U s], .var false [encT t, I a, .sl .no (R.map encG), .sl .no (H.map L), U s]] ∧ st.T = [] ∧ l0 <+: victOf t a R H s p d) ?_ (n := 5) ⟨0, .nil, [], rfl, ⟨rfl, rfl, rfl, rfl, rfl, rfl, rfl, trivial⟩, rfl, rfl, List.nil_prefix⟩
  rintro k ⟨L', S, T⟩ ih ⟨d, o, l0, hd, hFr, rfl, rfl, hpre⟩
  obtain ⟨j, rfl⟩ := hFr.ex
  have hw := wrap_nat d (by omega)
  simp +decide only [fr, jl, Nat.reduceAdd, go_sem]
  refine Wif_of (fun h => ?_) (fun h => ?_)
  · have hd4 : d ≤ 4 := by simp at h; omega
    have hvl := @vict_len t a R H s p (d : Int)
    have hnext : victOf t a R H s p (d : Int) <+: victOf t a R H s p ((d + 1 : Nat) : Int) := vict_pre' hm (by omega)
    have hmem : ∀ q ∈ victOf t a R H s p (d : Int), inP t q ∧ q ≠ p ∧ rAll (rg R q) ≠ [] ∧ farOf t p q ≤ d := fun q hq => by
      by_cases hp : inP t p
      · exact (vict_mem hm hp).mp hq
      · rw [vict_out hp] at hq; cases hq
    simp +decide only [go_sem, Nat.reduceAdd, encT]
    refine WO_call rfl rfl rfl rfl rfl (vict_g t a R H s p (d : Int) ht hs f) ?_
    generalize victOf t a R H s p (d : Int) = l at *
    have hle := hpre.length_le
    have hnlt : ¬ (l.length : Int) < (l0.length : Int) := by omega
    have b0 : (0 : Int) ≤ (l0.length : Int) := by omega
    have b1 : (l0.length : Int) ≤ (l.length : Int) := by omega
    have htake : l.take l0.length = l0 := (List.prefix_iff_eq_take.mp hpre).symm
    have hin : Gv P XN 27 [.sl .no (List.take l0.length (l.map I)), L l0] (B true) := by
      have h := ints_g (X := XN) lowN (l.take l0.length) l0 (by simp; omega)
      rw [decide_eq_true htake] at h
      rw [← List.map_take]; exact h
    simp +decide only [go_sem, Nat.reduceAdd, hnlt, slA, b0, b1]
    refine WO_call rfl rfl rfl rfl rfl hin ?_
    simp +decide only [go_sem, Nat.reduceAdd]
    refine W_ind (fun k2 st => ∃ i : Nat, i + k2 = l.length ∧ FrIs 108 [(1, I p), (2, .ptr 0 0), (5, B true), (6, .ptr 1 0), (8, I d), (9, L l), (10, I i)] st.fr ∧ st.S = [.var false [encT t, I a, .sl .no (R.map encG), .sl .no (H.map L), U s], .var false [encT t, I a, .sl .no (R.map encG), .sl .no (H.map L), U s]] ∧ st.T = []) ?_ (n := l.length) ⟨0, by omega, ⟨rfl, rfl, rfl, rfl, rfl, rfl, rfl, rfl, trivial⟩, rfl, rfl⟩
    rintro k2 ⟨L', S, T⟩ ih2 ⟨i, hi, hFr, rfl, rfl⟩
    obtain ⟨j, rfl⟩ := hFr.ex
    have hwi := wrap_nat i (by omega)
    simp +decide only [fr, jl, Nat.reduceAdd, go_sem]
    refine Wif_of (fun h => ?_) (fun h => ?_)
    · have hlt : i < l.length := by simpa using h
      obtain ⟨q, hq, hqm⟩ := getE hlt
      obtain ⟨m1, m2, m3, m4⟩ := hmem q hqm
      have hq2 := hm.inP.mp m1
      have c1 : (q == p) = false := by simpa using m2
      have c2 : ¬ q < 0 := by omega
      have c3 : ¬ (R.length : Int) ≤ q := by omega
      have c4 : 0 ≤ q := hq2.1
      have c5 : ¬ (d : Int) < farOf t p q := by omega
      have eq : R[q.toNat]? = some (rg R q) := by simp [rg, show q.toNat < R.length by omega]
      have lq := f.rl _ (List.mem_of_getElem? eq)
      have c6 : (((rAll (rg R q)).length : Int) == 0) = false := by
        cases e : (((rAll (rg R q)).length : Int) == 0)
        · rfl
        · exact absurd (List.eq_nil_of_length_eq_zero (by have := eq_of_beq e; omega)) m3
      simp +decide only [go_sem, Nat.reduceAdd]
      refine W_draw hmx (by kernel_rfl) ?_
      simp +decide only [go_sem, Nat.reduceAdd, hq, c1, c2, c3, c4, eq, encG]
      refine WO_call rfl rfl rfl rfl rfl (ring_all_g lowN (rg R q).f0 (rg R q).f1 (by omega)) ?_
      change WO P XN _ _ _ _ _ ⟨put _ _ (L (rAll (rg R q))), _, _⟩ _
      simp +decide only [go_sem, Nat.reduceAdd, hq, c6, encT]
      refine WO_call rfl rfl rfl rfl rfl (far_g lowN t p q (by omega)) ?_
      simp +decide only [go_sem, Nat.reduceAdd, c5, hwi]
      exact ih2 (k2 - 1) _ (by omega) ⟨i + 1, by omega, ⟨rfl, rfl, rfl, rfl, rfl, rfl, rfl, rfl, trivial⟩, rfl, rfl⟩
    · simp +decide only [go_sem, Nat.reduceAdd, hw]
      exact ih (k - 1) _ (by omega) ⟨d + 1, .no, l, by omega, ⟨rfl, rfl, rfl, rfl, rfl, rfl, rfl, trivial⟩, rfl, rfl, hnext⟩
  · have hv0 : victOf t a R H s p 0 = [] := by
      cases hv : victOf t a R H s p 0 with
      | nil => rfl
      | cons q l =>
        have hp : inP t p := Decidable.byContradiction fun hp => by rw [vict_out hp] at hv; cases hv
        have := (vict_mem (q := q) (far := 0) hm hp).mp (by rw [hv]; simp)
        have h2 := far_pos hp this.1 (Ne.symm this.2.1)
        omega
    have hvg := vict_g t a R H s p 0 ht hs f
    rw [hv0] at hvg
    clear ih
    simp +decide only [go_sem, Nat.reduceAdd, encT]
    refine WO_call rfl rfl rfl rfl rfl hvg ?_
    simp +decide only [go_sem, Nat.reduceAdd]
    exact ⟨_, rfl, rfl, rfl⟩
end Go.Proofs.Ytplpmelpoajpdaa.Ev
namespace Go.Proofs.Ytplpmelpoajpdaa.Ev
open Go Go.Proofs
open Go.RowKit (wrap64)
set_option linter.unusedVariables false
set_option linter.unusedSimpArgs false
set_option maxRecDepth 100000
set_option maxHeartbeats 4000000
theorem steal_rings {t : List SVtx} {a : Int} {R : List SRr} {H : List (List Int)} {s p far : Int} (hr : ∀ x ∈ R, x.f1.length ≤ 40) : (stealOf t a R H s p far).R.length = R.length ∧ (stealOf t a R H s p far).H.length = H.length ∧ ∀ x ∈ (stealOf t a R H s p far).R, x.f1.length ≤ 500 := by
  have hring : ∀ q : Int, (rg R q).f1.length ≤ 40 := fun q => by
    unfold rg
    rw [List.getD_eq_getElem?_getD]
    cases e : R[q.toNat]? with
    | none => decide
    | some y => exact hr y (List.mem_of_getElem? e)
  have h0 : ∀ x ∈ R, x.f1.length ≤ 500 := fun x hx => by have := hr x hx; omega
  unfold stealOf
  split
  · split
    · rename_i q l hv
      unfold takeOf
      have h1 := (halfR_len (x := rg R q))
      have h2 := hring q
      refine ⟨by simp, by simp, fun x hx => ?_⟩
      rcases List.mem_or_eq_of_mem_set hx with h | rfl
      · rcases List.mem_or_eq_of_mem_set h with h | rfl
        · exact h0 x h
        · omega
      · simp; omega
    · split
      · unfold rowOfS
        split
        · exact ⟨rfl, by simp, h0⟩
        · exact ⟨rfl, rfl, h0⟩
      · exact ⟨rfl, rfl, h0⟩
  · exact ⟨rfl, rfl, h0⟩
theorem stealTells_g (r : SRN) (hs : U64 r.s) (p : Int) {w1 : Prop} (_ : w1) (far : Int) {w2 : Prop} (_ : w2) : Gv P XN 5 [encN r, I p, I far] (B true) := by
  obtain ⟨t, a, R, H, s⟩ := r
  have hs : U64 s := hs
  refine gv_of (lowN _ (by decide)) fun5 rfl ?_
  have hfew := few_g lowN t a R H s
  simp +decide only [Try.f5, encN, encRR, go_sem, Nat.reduceAdd]
  refine WO_call rfl rfl rfl rfl rfl shown17_g ?_
  simp +decide only [go_sem, Nat.reduceAdd]
  refine WO_call rfl rfl rfl rfl rfl hfew ?_
  cases hF : fewB t R H
  · simp +decide only [go_sem, Nat.reduceAdd]
    exact ⟨_, rfl, rfl, rfl⟩
  obtain ⟨ht, f1, f2, f3, f4⟩ := fewB_of hF
  have f : Fw R H := ⟨by omega, by omega, fun x hx => by have := f3 x hx; omega, fun x hx => by have := f4 x hx; omega⟩
  have hsr := steal_rings (t := t) (a := a) (H := H) (s := s) (p := p) (far := far) f3
  have hsh := steal_rows (t := t) (a := a) (s := s) (p := p) (far := far) f f3 f4
  have hst := steal_g t a R H s p far ht hs f
  have hrs := rsteal_g t a R H s p far ht hs f
  have hvi := vict_g t a R H s p far ht hs f
  have hrv := rvict_g (X := XN) lowN t a R H s p far ht hs f
  have hvl := ints_g (X := XN) lowN (victOf t a R H s p far) (victOf t a R H s p far) (by have := @vict_len t a R H s p far; omega)
  rw [decide_eq_true rfl] at hvl
  unfold encSto at hst hrs
  generalize stealOf t a R H s p far = x at *
  generalize victOf t a R H s p far = V at *
  have fx : Fw x.R x.H := ⟨by rw [hsr.1]; omega, by rw [hsr.2.1]; omega, hsr.2.2, hsh⟩
  have hre := real_g (X := XN) lowN t a x.R x.H s fx
  have hre0 := real_g (X := XN) lowN t a R H s f
  have hsm := same_g (X := XN) lowN t t a a x.R x.R x.H x.H s s fx
  have hsm0 := same_g (X := XN) lowN t t a a R R H H s s f
  rw [decide_eq_true ⟨rfl, rfl, rfl⟩] at hsm hsm0
  have c1 : (x.g == x.g) = true := beq_yes rfl
  have c2 : (x.d == x.d) = true := beq_yes rfl
  simp +decide only [go_sem, Nat.reduceAdd]
  refine WO_call rfl rfl rfl rfl rfl (made17_g lowN t a R H s f) ?_
  simp +decide only [go_sem, Nat.reduceAdd, encRR, wrc, splice, encT]
  refine WO_call rfl rfl rfl rfl rfl hst ?_
  simp +decide only [go_sem, Nat.reduceAdd, encRR, wrc, splice, encT]
  refine WO_call rfl rfl rfl rfl rfl hrs ?_
  simp +decide only [go_sem, Nat.reduceAdd, encRR, wrc, splice, encT]
  refine W_draw hmx (by kernel_rfl) ?_
  simp +decide only [go_sem, Nat.reduceAdd, encT]
  refine WO_call rfl rfl rfl rfl rfl hre ?_
  simp +decide only [go_sem, Nat.reduceAdd, encRR, encT]
  refine WO_call rfl rfl rfl rfl rfl hsm ?_
  simp +decide only [go_sem, Nat.reduceAdd, encT, c1, c2]
  refine WO_call rfl rfl rfl rfl rfl hvi ?_
  simp +decide only [go_sem, Nat.reduceAdd, encT]
  refine WO_call rfl rfl rfl rfl rfl hrv ?_
  simp +decide only [go_sem, Nat.reduceAdd, encT]
  refine WO_call rfl rfl rfl rfl rfl hvl ?_
  simp +decide only [go_sem, Nat.reduceAdd, encT]
  refine WO_call rfl rfl rfl rfl rfl hre0 ?_
  simp +decide only [go_sem, Nat.reduceAdd, encRR, encT]
  refine WO_call rfl rfl rfl rfl rfl hsm0 ?_
  simp +decide only [go_sem, Nat.reduceAdd]
  exact ⟨_, rfl, rfl, rfl⟩
end Go.Proofs.Ytplpmelpoajpdaa.Ev
namespace Go.Proofs.Ytplpmelpoajpdaa.Ev
open Go Go.Proofs
set_option linter.unusedVariables false
set_option linter.unusedSimpArgs false
theorem opI : OpE P 3 I (fun x => IntKind.i64.min ≤ x ∧ x ≤ IntKind.i64.max) := OpE.int Try.underlying3
theorem opV : OpE P 61 encV (fun x => (IntKind.i64.min ≤ x.f0 ∧ x.f0 ≤ IntKind.i64.max) ∧ (IntKind.i64.min ≤ x.f1 ∧ x.f1 ≤ IntKind.i64.max)) :=
  OpE.struct (fun x : SVtx => (x.f0, x.f1)) (fun a => ⟨a.1, a.2⟩) (fun _ => rfl) Try.underlying61 (fun _ => by kernel_rfl)
    (OpF.cons (en := I) (z := 1) rfl (by kernel_rfl) (fun _ => rfl) opI (OpF.one (en := I) (z := 1) rfl (by kernel_rfl) (fun _ => rfl) opI))
theorem opT : OpE P 22 encT (fun l : List SVtx => (∀ x ∈ l, (IntKind.i64.min ≤ x.f0 ∧ x.f0 ≤ IntKind.i64.max) ∧ (IntKind.i64.min ≤ x.f1 ∧ x.f1 ≤ IntKind.i64.max)) ∧ l.length * P.bytesOf 61 ≤ 140737488351232 ∧ l.length ≤ maxLen) :=
  OpE.slice Try.underlying22 (of_decide_eq_true (by kernel_rfl)) (fun _ => by kernel_rfl) opV
end Go.Proofs.Ytplpmelpoajpdaa.Ev
namespace Go.Proofs.Ytplpmelpoajpdaa.Ev
open Go Go.Proofs
set_option linter.unusedVariables false
set_option linter.unusedSimpArgs false
set_option maxRecDepth 100000
theorem opL : OpE P 48 (fun l : List Int => .sl .no (l.map I)) (fun _ => True) :=
  OpE.imp (OpE.slice Try.underlying48 (of_decide_eq_true (by kernel_rfl)) (fun _ => by kernel_rfl) opI) (fun _ _ => trivial)
theorem opU : OpE P 25 U (fun x => IntKind.u64.min ≤ x ∧ x ≤ IntKind.u64.max) := OpE.int Try.underlying25
theorem opG : OpE P 66 encG (fun _ => True) :=
  OpE.imp (OpE.struct (fun x : SRr => (x.f0, x.f1)) (fun a => ⟨a.1, a.2⟩) (fun _ => rfl) Try.underlying66 (fun _ => by kernel_rfl)
    (OpF.cons (en := I) (z := 1) rfl (by kernel_rfl) (fun _ => rfl) opI (OpF.one (en := fun l : List Int => .sl .no (l.map I)) (z := 1) rfl (by kernel_rfl) (fun _ => rfl) opL))) (fun _ _ => trivial)
theorem opGs : OpE P 23 (fun R : List SRr => .sl .no (R.map encG)) (fun _ => True) :=
  OpE.imp (OpE.slice Try.underlying23 (of_decide_eq_true (by kernel_rfl)) (fun _ => by kernel_rfl) opG) (fun _ _ => trivial)
theorem opHs : OpE P 24 (fun H : List (List Int) => .sl .no (H.map L)) (fun _ => True) :=
  OpE.imp (OpE.slice Try.underlying24 (of_decide_eq_true (by kernel_rfl)) (fun _ => by kernel_rfl) opL) (fun _ _ => trivial)
theorem opN : OpE P 27 encN (fun r => U64 r.s) :=
  OpE.imp (OpE.struct (fun r : SRN => (r.t, r.a, r.R, r.H, r.s)) (fun a => ⟨a.1, a.2.1, a.2.2.1, a.2.2.2.1, a.2.2.2.2⟩) (fun _ => rfl) Try.underlying27 (fun _ => by kernel_rfl)
    (OpF.cons (en := encT) (z := 1) rfl (by kernel_rfl) (fun _ => rfl) opT (OpF.cons (en := I) (z := 1) rfl (by kernel_rfl) (fun _ => rfl) opI
      (OpF.cons (en := fun R : List SRr => .sl .no (R.map encG)) (z := 1) rfl (by kernel_rfl) (fun _ => rfl) opGs (OpF.cons (en := fun H : List (List Int) => .sl .no (H.map L)) (z := 1) rfl (by kernel_rfl) (fun _ => rfl) opHs
        (OpF.one (en := U) (z := 1) rfl (by kernel_rfl) (fun _ => rfl) opU)))))) (fun r h => u64_of h.2.2.2.2)
end Go.Proofs.Ytplpmelpoajpdaa.Ev
namespace Go.Proofs.Ytplpmelpoajpdaa.Ev
end Go.Proofs.Ytplpmelpoajpdaa.Ev
